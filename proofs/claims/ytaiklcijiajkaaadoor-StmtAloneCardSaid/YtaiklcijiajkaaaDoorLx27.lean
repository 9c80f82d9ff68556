/- One text of a proof that a law of this seat says true for every input: words, pieces and statements. It holds of the given program under the conditions that the row prints. -/
import Derived.Test.YtaiklcijiajkaaaDoorLxH
import Derived.Test.YtaiklcijiajkaaaDoorLxF
import Derived.Test.YtaiklcijiajkaaaDoorLxE
set_option linter.unusedVariables false
set_option linter.unusedSimpArgs false
set_option maxRecDepth 100000
namespace Go.Ab
open Go.Proofs
variable {glob : Nat → Option (List D)} {p : Nat → Addr} {o : Nat → Obj}

theorem encS_inj : ∀ a b, encS a = encS b → a = b := by
  rintro ⟨k, l, n, hs, ws, f, q, r, hd, cm⟩ ⟨k2, l2, n2, hs2, ws2, f2, q2, r2, hd2, cm2⟩ h
  simp only [encS, smC, D.st.injEq, List.cons.injEq, D.s.injEq, D.v.injEq, Value.int.injEq, Value.bool.injEq, true_and, and_true] at h
  obtain ⟨h1, rfl, rfl, h2, h3, h4, rfl, rfl, rfl, rfl⟩ := h
  obtain rfl : k = k2 := by omega
  obtain rfl : f = f2 := by omega
  obtain rfl := wl_inj _ _ h2
  obtain rfl := wl_inj _ _ h3
  rfl
noncomputable def FSE : List D → Option (List D) := liftG (fun x : Sm × Sm => x.1.ok) (fun x => [encS x.1, encS x.2]) fun x => some [.v (.bool (smEq x.1 x.2))]
theorem FSE_at (a b : Sm) (h : a.ok) : FSE [encS a, encS b] = some [.v (.bool (smEq a b))] :=
  liftG_enc (good := fun x : Sm × Sm => x.1.ok) (enc := fun x => [encS x.1, encS x.2]) (f := fun x => some [.v (.bool (smEq x.1 x.2))]) (fun x y _ _ h => by
    simp only [List.cons.injEq, and_true] at h
    rw [encS_inj _ _ h.1, encS_inj _ _ h.2]) (a, b) h
def FAl : List D → Option (List D)
  | [] => some [.v (.bool true)]
  | _ => none
section
variable {m : Int} (h20 : glob 5 = some [.v (.int .i64 m)])
include h20
theorem FAl_ok : Pure Tryd.prog (mkCtx tab glob) 4 FAl := by
  have h := pure_of (T := (mkCtx tab glob).on gfL (orcS glob 10).2) (on_ok (T_ok glob) (orcS_ok h20 10).2) (orcS_ok h20 10).1 Tryd.func4 (by kernel_rfl) (kp := kp4) (fr := fr4) (by kernel_rfl) (F := FAl) fun ds rs hF => by
    unfold FAl at hF
    split at hF
    · cases hF
      exact ⟨40, ev_alive⟩
    · simp at hF
  exact h
end
end Go.Ab

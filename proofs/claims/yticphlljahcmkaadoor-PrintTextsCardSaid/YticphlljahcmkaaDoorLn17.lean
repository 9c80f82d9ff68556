/- One text of a proof that a law of this seat says true for every input: the lines of a text. It holds of the given program under the conditions that the row prints. -/
import Derived.Test.YticphlljahcmkaaDoorLn16
import Derived.Test.YticphlljahcmkaaDoorEr8
set_option linter.unusedVariables false
set_option linter.unusedSimpArgs false
set_option maxRecDepth 100000
namespace Go.Ab
open Go.Proofs
variable {glob : Nat → Option (List D)} {p : Nat → Addr} {o : Nat → Obj}

theorem FQ_75 : F75 = FQ := by
  funext ds
  unfold F75 FQ
  rfl
noncomputable def E9 (p : Nat → Addr) (o : Nat → Obj) : Abs := ext (ext (ext (E8 (sentD p o 2) (sentD p o 6)) 73 FQ) 74 FT) 41 FL
def F39 : List D → Option (List D)
  | [.s l] => if l.length < 4294966000 then some (r12D (if 4000 < l.length then .inr (2, 0) else r12sp (phys l) 0 0 [] [])) else none
  | _ => none
def FC : List D → Option (List D)
  | [.s l] => if l.length < 4294967281 then some [.v (.int .i64 (cmm l 0))] else none
  | _ => none
noncomputable def F30 (p : Nat → Addr) (o : Nat → Obj) : List D → Option (List D) := liftG (fun e : Er => e.good = true) (fun e => [encE p o e]) fun e => some [.v (.int .i64 (numE e))]
noncomputable def E10 (p : Nat → Addr) (o : Nat → Obj) : Abs := ext (ext (ext (ext (ext (E9 p o) 39 F39) 42 FC) 43 FC) 30 (F30 p o)) 45 (F45 p o)
section
variable {m : Int} (hs : Sents glob p o) (h20 : glob 20 = some [.v (.int .i64 m)]) (h19 : glob 19 = some [.ifc 158 (.st [.v (.pointer (some ⟨26, 47, none⟩))])])
include hs
theorem F30_eq (e : Er) (he : e.good = true) : F30 p o [encE p o e] = some [.v (.int .i64 (numE e))] :=
  liftG_enc (good := fun e : Er => e.good = true) (enc := fun e => [encE p o e]) (f := fun e => some [.v (.int .i64 (numE e))]) (fun a b ha hb h => by
    simp only [List.cons.injEq, and_true] at h
    rw [encE_inj hs.inj a b ha hb h]) e he
theorem F30_ok : Pure Tryd.prog (mkCtx tab glob) 30 (F30 p o) := by
  refine pure_of (T_ok glob) (U62_ok hs) Tryd.func30 (by kernel_rfl) (kp := kp30) (fr := fr30) (by kernel_rfl) fun ds rs hF => ?_
  obtain ⟨e, he, rfl, h⟩ := liftG_some hF
  cases h
  exact ⟨20, ev30 hs e he⟩
include h20
theorem E9_ok : ∀ f, Pure Tryd.prog (mkCtx tab glob) f (E9 p o f) := by
  have hE := E8_ok h20 (hs.glob 6 (by decide) (by decide)) (hs.glob 2 (by decide) (by decide))
  refine ext_ok (ext_ok (ext_ok hE ?_) ?_) ?_
  · refine pure_of (T_ok glob) hE Tryd.func73 (by kernel_rfl) (kp := kp73) (fr := fr73) (by kernel_rfl) fun ds rs hF => ?_
    unfold FQ at hF
    split at hF
    · rename_i s i
      split at hF
      · rename_i h
        cases hF
        obtain ⟨h1, h2, h3⟩ := h
        have := ev73 (glob := glob) (E8 (sentD p o 2) (sentD p o 6)) s i.toNat h1 (by omega)
        rw [Int.toNat_of_nonneg h2] at this
        exact ⟨_, this⟩
      · simp at hF
    · simp at hF
  · refine pure_of (T_ok glob) hE Tryd.func74 (by kernel_rfl) (kp := kp74) (fr := fr74) (by kernel_rfl) fun ds rs hF => ?_
    unfold FT at hF
    split at hF
    · split at hF
      · rename_i h
        cases hF
        exact ⟨_, ev74 _ _ h⟩
      · simp at hF
    · simp at hF
  · refine pure_of (T_ok glob) hE Tryd.func41 (by kernel_rfl) (kp := kp41) (fr := fr41) (by kernel_rfl) fun ds rs hF => ?_
    unfold FL at hF
    split at hF
    · split at hF
      · rename_i h
        cases hF
        exact ⟨_, ev41 _ _ h⟩
      · simp at hF
    · simp at hF
include h19
theorem E10_ok : ∀ f, Pure Tryd.prog (mkCtx tab glob) f (E10 p o f) := by
  have hE := E9_ok hs h20
  refine ext_ok (ext_ok (ext_ok (ext_ok (ext_ok hE ?_) ?_) ?_) (F30_ok hs)) (F45_ok h19)
  · refine pure_of (T_ok glob) hE Tryd.func39 (by kernel_rfl) (kp := kp39) (fr := fr39) (by kernel_rfl) fun ds rs hF => ?_
    unfold F39 at hF
    split at hF
    · split at hF
      · rename_i h
        cases hF
        exact ⟨_, ev39 _ rfl rfl rfl _ h⟩
      · simp at hF
    · simp at hF
  · refine pure_of (T_ok glob) hE Tryd.func42 (by kernel_rfl) (kp := kp42) (fr := fr42) (by kernel_rfl) fun ds rs hF => ?_
    unfold FC at hF
    split at hF
    · split at hF
      · rename_i h
        cases hF
        exact ⟨_, ev42 _ FQ_75 _ h⟩
      · simp at hF
    · simp at hF
  · refine pure_of (T_ok glob) hE Tryd.func43 (by kernel_rfl) (kp := kp43) (fr := fr43) (by kernel_rfl) fun ds rs hF => ?_
    unfold FC at hF
    split at hF
    · split at hF
      · rename_i h
        cases hF
        exact ⟨_, ev43 _ rfl _ h⟩
      · simp at hF
    · simp at hF
end
set_option maxHeartbeats 4000000 in
/-- law12.same -/
theorem ev40 (hs : Sents glob p o) (e : Er) (he : e.good = true) (b l : Int) : fnK (mkCtx tab glob) (E10 p o) kp40 fr40 0 Tryd.f40 [encE p o e, .v (.int .i64 b), .v (.int .i64 l)] =
    some [.v (.bool (numE e == b && ((whereE e).2 == (b != 0)) && (whereE e).1 == l))] := by
  have h1 := F30_eq hs e he
  have h2 := F45_eq hs e he
  generalize numE e = n at *
  generalize (whereE e).1 = a at *
  generalize (whereE e).2 = c at *
  cases e <;> simp only [encE] at h1 h2 ⊢
  all_goals
    cases hn : (n == b) with
    | false => simp [Tryd.f40, E10, h1, h2, hn]
    | true => cases hc : (c == (b != 0)) <;> simp [Tryd.f40, E10, h1, h2, hn, hc]
end Go.Ab

/- One text of a proof that a law of this seat says true for every input: options and what they keep to. It holds of the given program under the conditions that the row prints. -/
import Derived.Test.YtmnidmkahpfaaaaGreatDoorAuA
import Derived.Test.YtmnidmkahpfaaaaGreatDoorOrA
import Derived.Test.YtmnidmkahpfaaaaGreatDoorAbD
import Derived.Test.YtmnidmkahpfaaaaGreatDoorAbClone
import Derived.Test.YtmnidmkahpfaaaaGreatDoorAbFast
set_option linter.unusedSimpArgs false
set_option linter.unusedVariables false
set_option linter.unusedSectionVars false
set_option maxRecDepth 100000
namespace Go.Ab
open Go.Proofs
variable {glob : Nat → Option (List D)}
theorem encV_inj {a b : Va} (h : encV a = encV b) : a = b := by
  obtain ⟨n, ws, l, hd⟩ := a
  obtain ⟨n', ws', l', hd'⟩ := b
  simp only [encV, D.st.injEq, List.cons.injEq, D.s.injEq, D.sl.injEq, D.v.injEq, Value.int.injEq, Value.bool.injEq, true_and, and_true] at h
  obtain ⟨rfl, h2, rfl, rfl⟩ := h
  have := congrArg strsD h2
  rw [strsD_map, strsD_map] at this
  cases this
  rfl
theorem mapV_inj : ∀ {a b : List Va}, a.map encV = b.map encV → a = b
  | [], [], _ => rfl
  | [], _ :: _, h => by simp at h
  | _ :: _, [], h => by simp at h
  | x :: a, y :: b, h => by
    simp only [List.map_cons, List.cons.injEq] at h
    rw [encV_inj h.1, mapV_inj h.2]
theorem mapS_inj {a b : List (List UInt8)} (h : a.map D.s = b.map D.s) : a = b := by
  have := congrArg strsD h
  rw [strsD_map, strsD_map] at this
  cases this
  rfl
theorem enc31_inj {a b : Op31} (h : enc31 a = enc31 b) : a = b := by
  obtain ⟨a1, a2, a3, a4, a5, a6, a7, a8, a9, a10, a11⟩ := a
  obtain ⟨b1, b2, b3, b4, b5, b6, b7, b8, b9, b10, b11⟩ := b
  simp only [enc31, D.st.injEq, List.cons.injEq, D.s.injEq, D.sl.injEq, D.v.injEq, Value.int.injEq, Value.bool.injEq, true_and, and_true] at h
  obtain ⟨rfl, rfl, rfl, rfl, rfl, rfl, h7, h8, rfl, rfl, h11⟩ := h
  cases mapS_inj h7
  cases mapS_inj h8
  cases mapV_inj h11
  rfl
noncomputable def FL31 : List D → Option (List D) := liftG good31 (fun o => [enc31 o]) fun o => some [.v (.bool (long31 o))]
theorem FL31_eq (o : Op31) (h : good31 o) : FL31 [enc31 o] = some [.v (.bool (long31 o))] :=
  liftG_enc (good := good31) (enc := fun o => [enc31 o]) (f := fun o => some [D.v (.bool (long31 o))]) (fun a b _ _ h => by
    simp only [List.cons.injEq, and_true] at h
    rw [enc31_inj h]) o h
theorem FL31_ok : Pure Tryz.prog (mkCtx tab glob) 5 FL31 := by
  have : Pure Tryz.prog ((mkCtx tab glob).few few31) 5 FL31 := by
    refine pure_of (few_ok (T_ok glob) few31_ok) (fun f => (E31_ok f : Pure Tryz.prog (mkCtx tab glob) f (E31 f))) Tryz.func5 (by kernel_rfl) (kp := kp5) (fr := fr5) (by kernel_rfl) fun ds rs hF => ?_
    obtain ⟨o, h1, rfl, h⟩ := liftG_some hF
    cases h
    exact ⟨_, evLong31 o h1⟩
  exact this
/-- What options keep to. -/
def encSet (k : Nat) (o : Op31) : D := .st [.v (.int .i64 o.nproc), .v (.bool o.keep), .v (.bool o.ignore), .v (.bool o.dry), .v (.bool o.touch), .v (.bool o.all), .sl 1 (o.news.map .s), .sl k []]
noncomputable def ECl : Abs := ext (fun _ _ => none) 14 FClS
/-- audit.Set, for as many news as the law lets by -/
theorem evSet (o : Op31) (h : o.news.length ≤ 12) : fnK (mkCtx tab glob) ECl kp6 fr6 0 Tryz.f6 [enc31 o] = some [encSet 4 o] := by
  obtain ⟨all, ex, ig, ke, dr, to, news, goals, file, np, vs⟩ := o
  simp only at h
  rcases news with _ | ⟨a1, _ | ⟨a2, _ | ⟨a3, _ | ⟨a4, _ | ⟨a5, _ | ⟨a6, _ | ⟨a7, _ | ⟨a8, _ | ⟨a9, _ | ⟨a10, _ | ⟨a11, _ | ⟨a12, _ | ⟨a13, _⟩⟩⟩⟩⟩⟩⟩⟩⟩⟩⟩⟩⟩
  case cons.cons.cons.cons.cons.cons.cons.cons.cons.cons.cons.cons.cons => simp only [List.length_cons] at h; omega
  all_goals kernel_rfl
end Go.Ab

set_option maxRecDepth 100000
namespace Go.Ab
open Go.Proofs
variable {glob : Nat → Option (List D)}
def E0au : Abs := ext (ext (ext (ext (ext (ext (fun _ _ => none) 14 FClS) 34 FCl0) 50 FSo0) 64 FSo0) 51 FCl0) 65 FCl0
theorem E0au_ok : ∀ f, Pure Tryz.prog (mkCtx tab glob) f (E0au f) :=
  ext_ok (ext_ok (ext_ok (ext_ok (ext_ok (ext_ok none_ok FClS_ok) FCl0_ok) FSoI_ok) FSoS_ok) FCoI_ok) FCoS_ok
theorem fdsA_ok : fdsB orcAG orcA = true := by kernel_rfl
noncomputable abbrev orcAu (glob : Nat → Option (List D)) (k : Nat) : Abs × MAbs := orc (mkCtx tab glob) (fun f => fdLook f orcA) orcAG E0au (fun _ _ _ => none) 40 k
theorem orcAu_ok (k : Nat) : (∀ f, Pure Tryz.prog (mkCtx tab glob) f ((orcAu glob k).1 f)) ∧ (∀ f, Turns Tryz.prog (mkCtx tab glob) f ((orcAu glob k).2 f)) :=
  orc_ok (T_ok glob) E0au_ok gnone_ok (fds_ok orcA_fn fdsA_ok) k
/-- The chapter's example. -/
theorem evAliveAu (m : Int) (p : Nat → Addr) (o : Nat → Obj) : fnK ((mkCtx tab (erGlob0 m p o)).on orcAG (orcAu (erGlob0 m p o) 20).2) (orcAu (erGlob0 m p o) 20).1 kp4 fr4 40 Tryz.f4 [] = some [.v (.bool true)] := by
  kernel_rfl
def FAlAu : List D → Option (List D)
  | [] => some [.v (.bool true)]
  | _ => none
theorem FAlAu_ok (m : Int) (p : Nat → Addr) (o : Nat → Obj) : Pure Tryz.prog (mkCtx tab (erGlob0 m p o)) 4 FAlAu := by
  have : Pure Tryz.prog ((mkCtx tab (erGlob0 m p o)).on orcAG (orcAu (erGlob0 m p o) 20).2) 4 FAlAu := by
    refine pure_of (on_ok (T_ok _) (orcAu_ok 20).2) (fun f => ((orcAu_ok 20).1 f : Pure Tryz.prog (mkCtx tab (erGlob0 m p o)) f _)) Tryz.func4 (by kernel_rfl) (kp := kp4) (fr := fr4) (by kernel_rfl) fun ds rs hF => ?_
    unfold FAlAu at hF
    split at hF
    · cases hF
      exact ⟨_, evAliveAu m p o⟩
    · simp at hF
  exact this
end Go.Ab

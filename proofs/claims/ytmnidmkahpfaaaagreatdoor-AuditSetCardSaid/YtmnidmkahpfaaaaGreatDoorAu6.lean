/- One text of a proof that a law of this seat says true for every input: options and what they keep to. It holds of the given program under the conditions that the row prints. -/
import Derived.Test.YtmnidmkahpfaaaaGreatDoorAuB
set_option linter.unusedSimpArgs false
set_option linter.unusedVariables false
set_option linter.unusedSectionVars false
set_option maxRecDepth 100000
namespace Go.Ab
open Go.Proofs
variable {glob : Nat → Option (List D)}
noncomputable def FSetA : List D → Option (List D) := liftG (fun o : Op31 => o.news.length ≤ 12) (fun o => [enc31 o]) fun o => some [encSet 4 o]
theorem FSetA_eq (o : Op31) (h : o.news.length ≤ 12) : FSetA [enc31 o] = some [encSet 4 o] :=
  liftG_enc (good := fun o : Op31 => o.news.length ≤ 12) (enc := fun o => [enc31 o]) (f := fun o => some [encSet 4 o]) (fun a b _ _ h => by
    simp only [List.cons.injEq, and_true] at h
    rw [enc31_inj h]) o h
theorem FSetA_ok : Pure Tryz.prog (mkCtx tab glob) 6 FSetA := by
  refine pure_of (T_ok glob) (ext_ok none_ok FClS_ok) Tryz.func6 (by kernel_rfl) (kp := kp6) (fr := fr6) (by kernel_rfl) fun ds rs hF => ?_
  obtain ⟨o, h1, rfl, h⟩ := liftG_some hF
  cases h
  exact ⟨_, evSet o h1⟩
def F28 : List D → Option (List D)
  | [.st [.v (.bool a), .sl 1 xs, .sl 4 []]] => some [.st [.v (.bool a), .sl 1 xs, .sl 4 []]]
  | _ => none
theorem F28_ok : Pure Tryz.prog (mkCtx tab glob) 15 F28 := by
  refine pure_of (T_ok glob) none_ok Tryz.func15 (by kernel_rfl) (kp := kp15) (fr := fr15) (by kernel_rfl) fun ds rs hF => ?_
  unfold F28 at hF
  split at hF
  · cases hF
    exact ⟨1, by kernel_rfl⟩
  · simp at hF
def F32 : List D → Option (List D)
  | [.st [.v (.int .i64 n), .v (.bool a), .v (.bool b), .v (.bool c), .v (.bool d), .v (.bool e), .sl 1 xs, .sl 4 []]] => some [.st [.v (.int .i64 n), .v (.bool a), .v (.bool b), .v (.bool c), .v (.bool d), .v (.bool e), .sl 1 xs, .sl 4 []]]
  | _ => none
theorem F32_ok : Pure Tryz.prog (mkCtx tab glob) 7 F32 := by
  refine pure_of (T_ok glob) (ext_ok none_ok F28_ok) Tryz.func7 (by kernel_rfl) (kp := kp7) (fr := fr7) (by kernel_rfl) fun ds rs hF => ?_
  unfold F32 at hF
  split at hF
  · cases hF
    exact ⟨1, by kernel_rfl⟩
  · simp at hF
noncomputable def EAu : Abs := ext (ext (ext (ext (ext (fun _ _ => none) 4 FAlAu) 5 FL31) 6 FSetA) 7 F32) 8 FST
theorem EAu_ok (m : Int) (p : Nat → Addr) (o : Nat → Obj) : ∀ f, Pure Tryz.prog (mkCtx tab (erGlob0 m p o)) f (EAu f) :=
  ext_ok (ext_ok (ext_ok (ext_ok (ext_ok none_ok (FAlAu_ok m p o)) FL31_ok) FSetA_ok) F32_ok) FST_ok
theorem long_news {o : Op31} (h : long31 o = false) : o.news.length ≤ 12 := by
  simp only [long31, Bool.or_eq_false_iff, longB, decide_eq_false_iff_not] at h
  have := h.1.1.1.1
  omega
set_option maxHeartbeats 8000000 in
/-- AuditSet says true. -/
theorem evAudit (o : Op31) (ho : good31 o) : fnK (mkCtx tab glob) EAu kp3 fr3 0 Tryz.f3 [enc31 o] = some [.v (.bool true)] := by
  have e1 : EAu 4 = FAlAu := rfl
  have e2 : EAu 5 = FL31 := rfl
  have e3 : EAu 6 = FSetA := rfl
  have e4 : EAu 7 = F32 := rfl
  have e5 : EAu 8 = FST := rfl
  have hL := FL31_eq o ho
  have hA : FAlAu [] = some [.v (.bool true)] := rfl
  have hF : FST [.sl 1 (o.news.map .s), .sl 1 (o.news.map .s)] = some [.v (.bool true)] := by
    rw [FST_eq _ _ ho.1]
    simp
  have hS := fun h => FSetA_eq o h
  have hl : long31 o = false → o.news.length ≤ 12 := fun h => long_news h
  generalize long31 o = b at *
  obtain ⟨all, ex, ig, ke, dr, to, news, goals, file, np, vs⟩ := o
  simp only [enc31, encSet] at hL hS hF ⊢
  have h32 : F32 [.st [.v (.int .i64 np), .v (.bool ke), .v (.bool ig), .v (.bool dr), .v (.bool to), .v (.bool all), .sl 1 (news.map D.s), .sl 4 []]] = some [.st [.v (.int .i64 np), .v (.bool ke), .v (.bool ig), .v (.bool dr), .v (.bool to), .v (.bool all), .sl 1 (news.map D.s), .sl 4 []]] := rfl
  generalize news.map D.s = LN at *
  generalize goals.map D.s = LG at *
  generalize vs.map encV = LV at *
  cases b with
  | true => simp [Tryz.f3, e1, e2, hA, hL, iceMark]
  | false =>
    have hS := hS (hl rfl)
    simp [Tryz.f3, e1, e2, e3, e4, e5, hA, hL, hS, h32, hF, iceMark]
end Go.Ab

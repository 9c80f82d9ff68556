/- One text of a proof that a law of this seat says true for every input: an evaluator of code over data, and that it tells the truth. It holds of the given program under the conditions that the row prints. -/
import Derived.Test.YtnpbeikcgagacaaGreatDoorAbCa
import Derived.ProofKit
import Derived.LaidMore
import Derived.LaidSub
import Derived.OpenShut
import Derived.Stop.Joined
import Derived.Test.YtnpbeikcgagacaaGreatDoorErA
import Derived.LaidLaws
import Derived.Test.YtnpbeikcgagacaaGreatDoorRows
import Derived.Lay
import Derived.LaidHandle
import Derived.Shelf.Vars
import Derived.Test.YtnpbeikcgagacaaGreatDoorErB
set_option linter.unusedSimpArgs false
set_option linter.unusedVariables false
set_option linter.unusedSectionVars false
namespace Go.Ab
open Go.ChangeShapes Go.WideShapes Go.RowKit

/-! # From a contract to a row -/
theorem weights_app {H : Type} {P : Program} : ∀ (ts us : List TypeId) (ds : List (DataW H)), ds.length ≤ ts.length → DataW.weightsEach P (ts ++ us) ds = DataW.weightsEach P ts ds
  | [], us, [], _ => by cases us <;> simp [DataW.weightsEach]
  | [], us, _ :: _, h => by simp at h
  | t :: ts, us, [], _ => by simp [DataW.weightsEach]
  | t :: ts, us, d :: ds, h => by
    simp only [List.cons_append, DataW.weightsEach]
    rw [weights_app ts us ds (by simpa using h)]
section
variable {H : Type} {enc : TypeId × Value → H} {P : Program}
/-- The arguments read as they did. -/
theorem trodAll_carry (hl : laidOutB P = true) {W W' : World} (hb : Below W.heap.size W W') : ∀ {ts : List TypeId} {vs : List Value} {ds : List (DataW H)} {ps : List MemPlace}, (∀ t ∈ ts, P.readableRec t = true ∧ t < P.types.size) →
    (∀ x ∈ ps, x.block < W.heap.size) → DataW.TrodAll enc P W 0 (fun _ => true) true ts vs ds ps → DataW.TrodAll enc P W' 0 (fun b => decide (b < W.heap.size)) true ts vs ds ps
  | [], [], [], ps, _, _, h => h
  | t :: ts, v :: vs, d :: ds, ps, hr, hlt, h => by
    obtain ⟨p, q, h1, h2, rfl⟩ := h
    have ht := hr t (by simp)
    exact ⟨p, q, Below.trod hl ht.1 ht.2 h1 hb (fun x hx => hlt x (by simp [hx])), trodAll_carry hl hb (fun t ht => hr t (by simp [ht])) (fun x hx => hlt x (by simp [hx])) h2, rfl⟩
  | [], [], _ :: _, _, _, _, h => h.elim
  | [], _ :: _, _, _, _, _, h => h.elim
  | _ :: _, [], _, _, _, _, h => h.elim
  | _ :: _, _ :: _, [], _, _, _, h => h.elim
theorem trodAll_length {w : World} {base : Nat} {sp : Nat → Bool} {held : Bool} : ∀ {ts : List TypeId} {vs : List Value} {ds : List (DataW H)} {ps : List MemPlace}, DataW.TrodAll enc P w base sp held ts vs ds ps → ds.length = ts.length ∧ vs.length = ts.length
  | [], [], [], ps, h => ⟨rfl, rfl⟩
  | t :: ts, v :: vs, d :: ds, ps, h => by
    obtain ⟨p, q, h1, h2, rfl⟩ := h
    have := trodAll_length h2
    simp [this]
  | [], [], _ :: _, _, h => h.elim
  | [], _ :: _, _, _, h => h.elim
  | _ :: _, [], _, _, h => h.elim
  | _ :: _, _ :: _, [], _, h => h.elim
/-- A law that says true and turns nothing. -/
theorem law_post {W W' : World} {f : Func} {s : ChangeSpec} {apart fresh handsOn : Bool} {args : Array Value} {ds gs : List (DataW H)} {before : List MemPlace} {tb : TypeId}
    (hl : laidOutB P = true) (hts : ∀ t ∈ f.params.toList, P.readableRec t = true ∧ t < P.types.size) (hr : f.resultTypes = #[tb]) (htb : P.underlying tb = some .bool) (hv : s.vars = [])
    (hs : ∀ ds : List (DataW H), ds.length = f.params.toList.length → s.fn H ds = { results := [.lit (.bool true)], args := ds })
    (hW : DataW.Whole enc P f.params.toList s.vars apart W args.toList ds gs before) (hb : Below W.heap.size W W') : s.post enc P f apart fresh handsOn false W args (.bool true) W' := by
  have hlt := hW.lt
  have hW' := hW
  obtain ⟨p, q, hA, hV, rfl, hfz, hnd⟩ := hW
  rw [hv] at hV
  obtain ⟨rfl, rfl⟩ := trodVars_none hV
  have hlen := (trodAll_length hA).1
  refine ⟨ds, [], p ++ [], [], p, [], hW', ?_, ?_, ?_, hb.frame _, fun h => by cases h⟩
  · rw [List.append_nil, hs ds hlen, hr]
    exact trodAll_mk1 (shut_bool htb true)
  · rw [List.append_nil, hs ds hlen]
    exact trodAll_carry hl hb hts (fun x hx => hlt x (by simp [hx])) hA
  · rw [List.append_nil, hs ds hlen, hv]
    rfl

/-- The wrap: the variables' condition and the world's shape, both kept. -/
theorem lifted_of {C : Checked} {os : Os} {f : FuncId} {fn : Func} {s : ChangeSpec} {laid : List (String × DataW Unit)} {conds : List PathCond} {apart fresh handsOn : Bool} {tb : TypeId}
    (own : ownKnob C.prog.godebug = none) (started : os.Started) (noInit : C.prog.inits.idxOf? f = none) (hfn : C.prog.funcs[f]? = some fn)
    (hl : laidOutB C.prog = true) (hts : ∀ t ∈ fn.params.toList, C.prog.readableRec t = true ∧ t < C.prog.types.size) (hr : fn.resultTypes = #[tb]) (htb : C.prog.underlying tb = some .bool) (hv : s.vars = [])
    (hs : ∀ ds : List (DataW H), ds.length = fn.params.toList.length → s.fn H ds = { results := [.lit (.bool true)], args := ds })
    (witness : ∃ (w : World) (tape : Tape) (i : Input), w.os = os ∧ (w.forCall tape i).Shaped C.prog ∧ i.vars = [] ∧ Input.okWide C.prog (w.forCall tape i) .any w.heap.size f i ∧
      ((s.pre enc C.prog fn conds apart (w.forCall tape i).memory i.args ∧ laidMetH C.prog laid (w.forCall tape i).memory) ∧ sizedMet enc C.prog fn (OpenSpec.ofChange s) apart (w.forCall tape i).memory i.args) ∧ ({} : Assume).holds C.prog (lone (Frame.enter C.prog f i.args .normal) [] (w.forCall tape i)))
    (contract : ∀ (W : World) (base : Nat) (args : Array Value) (ds : List (DataW H)) (p : List MemPlace),
      (∀ (j : Nat) t v, fn.params[j]? = some t → args[j]? = some v → Value.okWide C.prog W .any base t v) →
      DataW.TrodAll enc C.prog W 0 (fun _ => true) true fn.params.toList args.toList ds p → laidMetH C.prog laid W → W.ShapedOpen C.prog →
      Calls C.prog f args W fun e W' => e = .returned (.bool true) ∧ Below W.heap.size W W') :
    ReturnsInHanded {} C os f .any (fun w args => (s.pre enc C.prog fn conds apart w args ∧ laidMetH C.prog laid w) ∧ sizedMet enc C.prog fn (OpenSpec.ofChange s) apart w args) (s.post enc C.prog fn apart fresh handsOn false) := by
  refine returnsInHanded_of_calls own started noInit witness ?_
  intro w tape i _ hsh _ hok hpre hholds
  obtain ⟨_, _, _, fn', hfn', _, _, _, _, hval⟩ := hok
  have e : fn' = fn := Option.some.inj (hfn'.symm.trans hfn)
  subst e
  obtain ⟨⟨⟨ds, gs, before, hw, hc⟩, hx⟩, hz⟩ := hpre
  have hw' := DataW.Whole.of_heap (w' := w.forCall tape i) (by rfl) hw
  have hA := hw'
  obtain ⟨p, q, hA, _⟩ := hA
  refine (contract (w.forCall tape i) w.heap.size i.args ds p hval hA (hx.of_heap (by rfl)) hsh).mono fun e W' ⟨he, hb⟩ => ?_
  subst he
  exact ChangeSpec.post_blind (law_post hl hts hr htb hv hs hw' hb)
/-- The like, with the arguments' sizes. -/
theorem lifted_sized {C : Checked} {os : Os} {f : FuncId} {fn : Func} {s : ChangeSpec} {laid : List (String × DataW Unit)} {conds : List PathCond} {apart fresh handsOn : Bool} {tb : TypeId}
    (own : ownKnob C.prog.godebug = none) (started : os.Started) (noInit : C.prog.inits.idxOf? f = none) (hfn : C.prog.funcs[f]? = some fn)
    (hl : laidOutB C.prog = true) (hts : ∀ t ∈ fn.params.toList, C.prog.readableRec t = true ∧ t < C.prog.types.size) (hr : fn.resultTypes = #[tb]) (htb : C.prog.underlying tb = some .bool) (hv : s.vars = [])
    (hs : ∀ ds : List (DataW H), ds.length = fn.params.toList.length → s.fn H ds = { results := [.lit (.bool true)], args := ds })
    (witness : ∃ (w : World) (tape : Tape) (i : Input), w.os = os ∧ (w.forCall tape i).Shaped C.prog ∧ i.vars = [] ∧ Input.okWide C.prog (w.forCall tape i) .any w.heap.size f i ∧
      ((s.pre enc C.prog fn conds apart (w.forCall tape i).memory i.args ∧ laidMetH C.prog laid (w.forCall tape i).memory) ∧ sizedMet enc C.prog fn (OpenSpec.ofChange s) apart (w.forCall tape i).memory i.args) ∧ ({} : Assume).holds C.prog (lone (Frame.enter C.prog f i.args .normal) [] (w.forCall tape i)))
    (contract : ∀ (W : World) (base : Nat) (args : Array Value) (ds : List (DataW H)) (p : List MemPlace),
      (∀ (j : Nat) t v, fn.params[j]? = some t → args[j]? = some v → Value.okWide C.prog W .any base t v) →
      DataW.TrodAll enc C.prog W 0 (fun _ => true) true fn.params.toList args.toList ds p → laidMetH C.prog laid W → W.ShapedOpen C.prog →
      (DataW.weightsEach C.prog fn.params.toList ds).all (· ≤ reachBytes) = true → Calls C.prog f args W fun e W' => e = .returned (.bool true) ∧ Below W.heap.size W W') :
    ReturnsInHanded {} C os f .any (fun w args => (s.pre enc C.prog fn conds apart w args ∧ laidMetH C.prog laid w) ∧ sizedMet enc C.prog fn (OpenSpec.ofChange s) apart w args) (s.post enc C.prog fn apart fresh handsOn false) := by
  refine returnsInHanded_of_calls own started noInit witness ?_
  intro w tape i _ hsh _ hok hpre hholds
  obtain ⟨_, _, _, fn', hfn', _, _, _, _, hval⟩ := hok
  have e : fn' = fn := Option.some.inj (hfn'.symm.trans hfn)
  subst e
  obtain ⟨⟨⟨ds, gs, before, hw, hc⟩, hx⟩, hz⟩ := hpre
  have hw' := DataW.Whole.of_heap (w' := w.forCall tape i) (by rfl) hw
  obtain ⟨_, ds2, gs2, before2, hw2, hwt⟩ := hz
  have hw2' := DataW.Whole.of_heap (w' := w.forCall tape i) (by rfl) hw2
  obtain ⟨p, q, hA, hV, _⟩ := hw2'
  have hgs : gs2 = [] := by
    rw [show (OpenSpec.ofChange s).vars = [] from hv] at hV
    exact (trodVars_none hV).1
  rw [hgs, List.append_nil, weights_app _ _ _ (by rw [(trodAll_length hA).1]; exact Nat.le_refl _)] at hwt
  refine (contract (w.forCall tape i) w.heap.size i.args ds2 p hval hA (hx.of_heap (by rfl)) hsh hwt).mono fun e W' ⟨he, hb⟩ => ?_
  subst he
  exact ChangeSpec.post_blind (law_post hl hts hr htb hv hs hw' hb)
end

/-- A listed variable of an interface type holds some value of it. -/
theorem iface_of_laid {P : Program} {w : World} {n nm : String} {x : DataW Unit} {g : Nat} (hg : P.globalNamed n = some g) : ∀ {laid : List (String × DataW Unit)} {ps : List MemPlace}, DataW.LaidVars P w laid ps → (n, .iface nm x) ∈ laid →
    ∃ u v, w.cell? ⟨g, 0, none⟩ = some (.iface u v)
  | [], ps, _, hm => by simp at hm
  | (n', d) :: r, ps, h, hm => by
    obtain ⟨g', t, cs, fuel, p, q, hg', ht, hv, hd, hr, he⟩ := h
    rcases List.mem_cons.1 hm with e | hm
    · cases e
      obtain rfl := Option.some.inj (hg.symm.trans hg')
      have : ∃ u v, cs.toList = [.iface u v] := by
        cases fuel with
        | zero => simp [DataW.trod] at hd
        | succ k =>
          unfold DataW.trod at hd
          split at hd
          all_goals try (simp at hd; done)
          all_goals try (exact ⟨_, _, by assumption⟩)
          all_goals try (split at hd <;> simp at hd <;> done)
          all_goals exfalso
          all_goals try (simp [Option.map_eq_some_iff, Option.bind_eq_some_iff] at hd; done)
          all_goals try (split at hd <;> simp [Option.map_eq_some_iff, Option.bind_eq_some_iff] at hd <;> done)
          all_goals (split at hd <;> (try split at hd) <;> (simp [Option.map_eq_some_iff, Option.bind_eq_some_iff] at hd))
      obtain ⟨u, v, e⟩ := this
      obtain ⟨l⟩ := cs
      simp at e
      subst e
      exact ⟨u, v, by simpa using World.var?_cell hg hv 0⟩
    · exact iface_of_laid hg hr hm
/-- A pure function that says true, called with data. -/
theorem run_of_pure {P : Program} {T : Ctx} {f : FuncId} {F : List D → Option (List D)} (h : Pure P T f F) {ds : List D} (hF : F ds = some [.v (.bool true)]) {W : World} {vs : List Value} (hG : GlobOk T (fun _ _ => False) W) (hv : RdL (fun _ _ => False) W ds vs) :
    Calls P f vs.toArray W fun e W' => e = .returned (.bool true) ∧ Below W.heap.size W W' := by
  refine ((h ds _ hF).2 (fun _ _ => False) W vs (fun _ _ h => h.elim) hG hv).mono ?_
  rintro e W' ⟨us, hus, he, hc⟩
  simp only [RdL] at hus
  obtain ⟨u, us', rfl, hu, rfl⟩ := hus
  simp only [Rd] at hu
  subst hu
  exact ⟨he, Chg.below.1 hc⟩
theorem rd_string {W : World} (s : ByteArray) : Rd (fun _ _ => False) W (.s s.data.toList) (.string s) := by
  simp only [Rd]
end Go.Ab

set_option maxRecDepth 100000
namespace Go.Ab
open Go.Proofs
/-- A listed error of the library's kind: what its variable holds. -/
theorem errs_of_laid {W : World} {n : String} {text : List UInt8} {g : Nat} (hg : Tryz.prog.globalNamed n = some g) (ht : (Tryz.prog.globals[g]?).map (·.type) = some 30)
    (hrow : ∀ u, Tryz.prog.typeName? 3 u = some "*errors.errorString" → u = 273) : ∀ {laid : List (String × DataW Unit)} {ps : List MemPlace}, DataW.LaidVars Tryz.prog W laid ps →
    (∀ b off, MemPlace.cell b off ∈ ps → (∃ c t, W.heap[b]? = some (.cells c t (0, 0))) ∧ ∀ u v, W.cell? ⟨b, off, none⟩ = some (.iface u v) → Value.okWide Tryz.prog W .any 0 u v) →
    (n, .iface "*errors.errorString" (.ptr (.agg [.lit (.string text)]))) ∈ laid →
    ∃ a s c t, W.cell? ⟨g, 0, none⟩ = some (.iface 273 (.pointer (some a))) ∧ W.cell? a = some (.string s) ∧ s.data.toList = text ∧ W.heap[a.block]? = some (.cells c t (0, 0))
  | [], ps, _, _, hm => by simp at hm
  | (n', d) :: r, ps, h, hok, hm => by
    obtain ⟨g', t, cs, fuel, p, q, hg', ht', hv, hd, hr, rfl⟩ := h
    rcases List.mem_cons.1 hm with e | hm
    · cases e
      obtain rfl := Option.some.inj (hg.symm.trans hg')
      obtain rfl := Option.some.inj (ht.symm.trans ht')
      have hcell : ∀ v, cs.toList = [v] → W.cell? ⟨g, 0, none⟩ = some v := fun v hv1 => by
        have : cs = #[v] := by
          obtain ⟨l⟩ := cs
          simp at hv1
          rw [hv1]
        subst this
        simpa using World.var?_cell hg hv 0
      have hin : ∀ v, cs.toList = [v] → MemPlace.cell g 0 ∈ MemPlace.row ⟨g, 0, none⟩ cs.size ++ p ++ q := fun v hv1 => by
        have : cs.size = 1 := by rw [← Array.length_toList, hv1]; rfl
        simp [MemPlace.row, this]
      obtain ⟨a, s, h1, h2, h3, _, rfl⟩ := errorString_of_trod (te := 293) (ts := 9) Tryz.underlying30 hrow Tryz.underlying273 Tryz.underlying293 rfl rfl Tryz.underlying9 (by kernel_rfl) (by kernel_rfl) hd fun u v hv1 => (hok g 0 (hin _ hv1)).2 u v (hcell _ hv1)
      obtain ⟨c, t, hb⟩ := (hok a.block a.off (by simp [MemPlace.row])).1
      exact ⟨a, s, c, t, hcell _ h1, h2, h3, hb⟩
    · exact errs_of_laid hg ht hrow hr (fun b off hb => hok b off (by simp [hb])) hm
end Go.Ab

set_option maxRecDepth 100000
namespace Go.Ab
open Go.Proofs
/-- The errors of the document: their variables, names and texts. -/
def sentL : List (Nat × String × List UInt8) := [
  (1, "millwright/api.ErrRange", [97, 32, 110, 117, 109, 98, 101, 114, 32, 105, 115, 32, 111, 117, 116, 32, 111, 102, 32, 105, 116, 115, 32, 114, 97, 110, 103, 101]),
  (2, "millwright/api.ErrLong", [116, 104, 101, 114, 101, 32, 105, 115, 32, 109, 111, 114, 101, 32, 116, 104, 97, 110, 32, 109, 97, 121, 32, 98, 101]),
  (3, "millwright/api.ErrForm", [105, 116, 32, 105, 115, 32, 110, 111, 116, 32, 111, 102, 32, 105, 116, 115, 32, 102, 111, 114, 109]),
  (4, "millwright/api.ErrName", [105, 116, 32, 105, 115, 32, 110, 111, 32, 114, 105, 103, 104, 116, 32, 110, 97, 109, 101]),
  (5, "millwright/api.ErrQuote", [97, 32, 113, 117, 111, 116, 101, 32, 104, 97, 115, 32, 110, 111, 32, 101, 110, 100]),
  (6, "millwright/api.ErrRegex", [105, 116, 32, 105, 115, 32, 110, 111, 32, 114, 101, 103, 117, 108, 97, 114, 32, 101, 120, 112, 114, 101, 115, 115, 105, 111, 110]),
  (7, "millwright/api.ErrAttr", [105, 116, 32, 105, 115, 32, 110, 111, 32, 97, 116, 116, 114, 105, 98, 117, 116, 101]),
  (8, "millwright/api.ErrNone", [116, 104, 101, 114, 101, 32, 105, 115, 32, 110, 111, 110, 101]),
  (9, "millwright/api.ErrDup", [105, 116, 32, 105, 115, 32, 116, 104, 101, 114, 101, 32, 97, 108, 114, 101, 97, 100, 121]),
  (10, "millwright/api.ErrFull", [116, 104, 101, 114, 101, 32, 105, 115, 32, 110, 111, 32, 109, 111, 114, 101, 32, 114, 111, 111, 109]),
  (11, "millwright/api.ErrDepth", [105, 116, 32, 103, 111, 101, 115, 32, 116, 111, 111, 32, 100, 101, 101, 112]),
  (12, "millwright/api.ErrCycle", [105, 116, 32, 108, 101, 97, 100, 115, 32, 98, 97, 99, 107, 32, 116, 111, 32, 105, 116, 115, 101, 108, 102]),
  (13, "millwright/api.ErrAmbig", [116, 104, 101, 114, 101, 32, 97, 114, 101, 32, 115, 101, 118, 101, 114, 97, 108, 32, 119, 97, 121, 115, 32, 116, 111, 32, 109, 97, 107, 101, 32, 105, 116]),
  (14, "millwright/api.ErrState", [105, 116, 32, 99, 97, 110, 32, 110, 111, 116, 32, 98, 101, 32, 100, 111, 110, 101, 32, 105, 110, 32, 116, 104, 105, 115, 32, 115, 116, 97, 116, 101]),
  (15, "millwright/api.ErrFail", [97, 32, 114, 101, 99, 105, 112, 101, 32, 102, 97, 105, 108, 101, 100]),
  (16, "millwright/api.ErrFlag", [105, 116, 32, 105, 115, 32, 110, 111, 32, 102, 108, 97, 103]),
  (17, "millwright/api.ErrKind", [105, 116, 32, 105, 115, 32, 111, 102, 32, 97, 110, 111, 116, 104, 101, 114, 32, 107, 105, 110, 100]),
  (18, "millwright/api.ErrLost", [110, 111, 98, 111, 100, 121, 32, 107, 110, 111, 119, 115, 32, 104, 111, 119, 32, 116, 111, 32, 109, 97, 107, 101, 32, 105, 116])]
/-- As the rows list them. -/
def sentD0 (x : Nat × String × List UInt8) : String × DataW Unit := (x.2.1, .iface "*errors.errorString" (.ptr (.agg [.lit (.string x.2.2)])))
noncomputable def rowOk (x : Nat × String × List UInt8) : Bool := decide (9000 ≤ gE x.1) || (match Tryz.prog.globalNamed x.2.1 with | some g => g == gE x.1 | none => false) && (match (Tryz.prog.globals[gE x.1]?).map (·.type) with | some t => t == 30 | none => false)
theorem rows_ok : sentL.all rowOk = true := by kernel_rfl
theorem sent_key : ∀ x ∈ sentL, ∀ y ∈ sentL, x.2.2 = y.2.2 → x.1 = y.1 := by decide
theorem sent_all : ∀ g, 1 ≤ g → g ≤ 18 → ∃ x ∈ sentL, x.1 = g := by
  intro g h1 h2
  have : ∀ g, g < 19 → 1 ≤ g → ∃ x ∈ sentL, x.1 = g := by decide
  exact this g (by omega) h1
/-- Where the document's errors lie. -/
theorem sents_of_laid {W : World} {laid : List (String × DataW Unit)} (hL : laidMet Tryz.prog laid W) (hall : ∀ x ∈ sentL, gE x.1 < 9000 → sentD0 x ∈ laid) (hrow : ∀ u, Tryz.prog.typeName? 3 u = some "*errors.errorString" → u = 273) :
    ∃ (p : Nat → Addr) (o : Nat → Obj), (∀ g, 1 ≤ g → g ≤ 18 → gE g < 9000 → W.cell? ⟨gE g, 0, none⟩ = some (.iface 273 (.pointer (some (p g)))) ∧ W.heap[(p g).block]? = some (o g)) ∧ (∀ g, 1 ≤ g → g ≤ 18 → plainB (o g) = true) ∧
      ∀ g g', 1 ≤ g → g ≤ 18 → 1 ≤ g' → g' ≤ 18 → p g = p g' → g = g' := by
  obtain ⟨ps, hl, _, hok⟩ := hL
  have key : ∀ g, ∃ (a : Addr) (ob : Obj), 1 ≤ g → g ≤ 18 → plainB ob = true ∧ ((gE g < 9000 ∧ W.cell? ⟨gE g, 0, none⟩ = some (.iface 273 (.pointer (some a))) ∧ W.heap[a.block]? = some ob ∧ ∃ x ∈ sentL, x.1 = g ∧ ∃ s : ByteArray, W.cell? a = some (.string s) ∧ s.data.toList = x.2.2) ∨ (9000 ≤ gE g ∧ a = ⟨W.heap.size + g, 0, none⟩)) := by
    intro g
    by_cases hg : 1 ≤ g ∧ g ≤ 18
    · obtain ⟨x, hx, rfl⟩ := sent_all g hg.1 hg.2
      have hr := List.all_eq_true.1 rows_ok x hx
      simp only [rowOk, Bool.or_eq_true, Bool.and_eq_true, decide_eq_true_eq] at hr
      by_cases hb : 9000 ≤ gE x.1
      · exact ⟨⟨W.heap.size + x.1, 0, none⟩, .cells #[] 0 (0, 0), fun _ _ => ⟨rfl, .inr ⟨hb, rfl⟩⟩⟩
      replace hr := hr.resolve_left hb
      have h1 : Tryz.prog.globalNamed x.2.1 = some (gE x.1) := by
        have := hr.1
        split at this
        · rename_i g' hg'
          rw [hg', beq_iff_eq.1 this]
        · simp at this
      have h2 : (Tryz.prog.globals[gE x.1]?).map (·.type) = some 30 := by
        have := hr.2
        split at this
        · rename_i t ht
          rw [ht, beq_iff_eq.1 this]
        · simp at this
      obtain ⟨a, s, c, t, h3, h4, h5, h6⟩ := errs_of_laid h1 h2 hrow hl hok (hall x hx (by omega))
      exact ⟨a, _, fun _ _ => ⟨rfl, .inl ⟨by omega, h3, h6, x, hx, rfl, s, h4, h5⟩⟩⟩
    · exact ⟨⟨0, 0, none⟩, .cells #[] 0 (0, 0), fun h1 h2 => absurd ⟨h1, h2⟩ hg⟩
  refine ⟨fun g => (key g).choose, fun g => (key g).choose_spec.choose, fun g h1 h2 h3 => ?_, fun g h1 h2 => ((key g).choose_spec.choose_spec h1 h2).1, fun g g' h1 h2 h1' h2' he => ?_⟩
  · rcases ((key g).choose_spec.choose_spec h1 h2).2 with ⟨_, h4, h5, _⟩ | ⟨h4, _⟩
    · exact ⟨h4, h5⟩
    · omega
  · simp only at he
    rcases ((key g).choose_spec.choose_spec h1 h2).2 with ⟨_, _, _, x, hx, hxg, s, hs, hst⟩ | ⟨_, ha⟩ <;>
      rcases ((key g').choose_spec.choose_spec h1' h2').2 with ⟨_, _, _, y, hy, hyg, s', hs', hst'⟩ | ⟨_, ha'⟩
    · rw [he] at hs
      have : s = s' := by
        have := hs.symm.trans hs'
        injection this with this
        injection this
      rw [← hxg, ← hyg]
      exact sent_key x hx y hy (by rw [← hst, ← hst', this])
    · rw [he] at hs
      have := cell_lt hs
      rw [ha'] at this
      simp only at this
      omega
    · rw [← he] at hs'
      have := cell_lt hs'
      rw [ha] at this
      simp only at this
      omega
    · rw [ha, ha'] at he
      injection he with he
      omega
end Go.Ab

set_option maxRecDepth 100000
namespace Go.Ab
open Go.Proofs

/-- A world in which the listed variables are laid upon another world. -/
theorem laidMet_lay {P : Program} {w0 w' : World} {laid : List (String × DataW Unit)} (hh : w'.heap = (w0.layVars P laid).heap)
    (hf : w0.layFits P laid [] = true) (hi : w0.layIfaces P laid w' = true) : laidMet P laid w' := by
  have e1 : (laid.filter fun x => (laid.map (·.1)).contains x.1) = laid := List.filter_eq_self.2 fun x hx => List.contains_iff_mem.2 (List.mem_map.2 ⟨x, hx, rfl⟩)
  have e2 : (laid.filter fun x => !(laid.map (·.1)).contains x.1) = [] := List.filter_eq_nil_iff.2 fun x hx => by rw [List.contains_iff_mem.2 (List.mem_map.2 ⟨x, hx, rfl⟩)]; simp
  exact laidMet_layVars (w0 := w0) (laid.map (·.1)) [] (by rw [e1]; exact hh) (by rw [e1]; exact hf) (by rw [e1]; exact hi) (by rw [e2]; exact LaidIn.none)
/-- The two halves of a list's condition. -/
theorem laidMetH_halves {P : Program} {l : List (String × DataW Unit)} {w : World} (h : laidMetH P l w) :
    laidMet P (l.filter fun x => x.2.handleName?.isNone) w ∧ handlesMet P (l.filter fun x => x.2.handleName?.isSome) w := by
  unfold laidMetH at h
  generalize hfl : (l.filter fun x => x.2.handleName?.isSome) = fl at h
  cases fl with
  | nil =>
    have e : (l.filter fun x => x.2.handleName?.isNone) = l := by
      rw [List.filter_eq_self]
      intro x hx
      have := (List.filter_eq_nil_iff.1 hfl) x hx
      cases hn : x.2.handleName? with
      | none => rfl
      | some s => rw [hn] at this; exact absurd rfl this
    rw [e]
    exact ⟨h, fun x hx => by cases hx⟩
  | cons a l2 => exact h
theorem sent_row (u : TypeId) (hu : Tryz.prog.typeName? 3 u = some "*errors.errorString") : u = 273 :=
  typeName_ptr_named (nm := "errors.errorString") (by kernel_rfl) (by kernel_rfl) (by decide) u (by rw [hu]; rfl)

theorem dE_gE : ∀ g, g < 19 → 1 ≤ g → dE (gE g) = g := by decide
theorem add00 (g : Nat) : (⟨g, 0, none⟩ : Addr).add 0 = ⟨g, 0, none⟩ := by simp [Addr.add]
/-- The library's bound on a text that is looked for: some whole number. -/
theorem maxLen_cell (w : World) (h : w.ShapedOpen Tryz.prog) : ∃ m, w.cell? ⟨20, 0, none⟩ = some (.int .i64 m) :=
  Go.Proofs.cell_of_shapedOpen_int (zero := #[.int .i64 0]) (t := 3) h (of_decide_eq_true (by kernel_rfl)) (by kernel_rfl) rfl (by kernel_rfl) (by kernel_rfl) Tryz.underlying3
/-- The variables that errors need, where no type is asked. -/
def erGlob0 (m : Int) (p : Nat → Addr) (o : Nat → Obj) (g : Nat) : Option (List D) :=
  if dE g ≠ 0 ∧ g < 9000 then some [.ifc 273 (.at (p (dE g)) (o (dE g)))] else if g = 20 then some [.v (.int .i64 m)] else none
theorem erGlob0_sents {m : Int} {p : Nat → Addr} {o : Nat → Obj} (h1 : ∀ g, 1 ≤ g → g ≤ 18 → plainB (o g) = true) (h2 : ∀ g g', 1 ≤ g → g ≤ 18 → 1 ≤ g' → g' ≤ 18 → p g = p g' → g = g') : Sents (erGlob0 m p o) p o :=
  ⟨fun g a b c => by unfold erGlob0; rw [dE_gE g (by omega) a, if_pos ⟨by omega, c⟩], h1, h2⟩
/-- What a row with errors lays. -/
theorem er0_of_laid {W : World} (hsh : W.ShapedOpen Tryz.prog) {laid : List (String × DataW Unit)} (hL : laidMetH Tryz.prog laid W) (hall : ∀ x ∈ sentL, gE x.1 < 9000 → sentD0 x ∈ laid) :
    ∃ (m : Int) (p : Nat → Addr) (o : Nat → Obj), Sents (erGlob0 m p o) p o ∧ GlobOk (mkCtx tab (erGlob0 m p o)) (fun _ _ => False) W := by
  obtain ⟨m, hm⟩ := maxLen_cell W hsh
  obtain ⟨p, o, hc, hpl, hi⟩ := sents_of_laid (laidMetH_halves hL).1 (fun x hx hb => List.mem_filter.2 ⟨hall x hx hb, by rfl⟩) sent_row
  refine ⟨m, p, o, erGlob0_sents hpl hi, fun g cs hg => ?_⟩
  have hg' : erGlob0 m p o g = some cs := hg
  unfold erGlob0 at hg'
  split at hg'
  · rename_i h
    cases hg'
    obtain ⟨h1, h2, h3⟩ := dE_ok g h.1
    obtain ⟨h4, h5⟩ := hc (dE g) h1 h2 (by rw [h3]; exact h.2)
    rw [h3] at h4
    simp only [RdC, Rd, add00, and_true, not_false_eq_true]
    exact ⟨rfl, _, h4, trivial, _, rfl, rfl, h5, fun _ => trivial⟩
  · split at hg'
    · rename_i e
      subst e
      cases hg'
      simp only [RdC, Rd, add00, and_true, not_false_eq_true]
      exact ⟨rfl, _, hm, trivial, rfl⟩
    · simp at hg'
/-- The errors' places in a row's list. -/
theorem sent_mem {laid : List (String × DataW Unit)} (ix : List Nat) (h : ix.map (fun i => laid[i]?) = (sentL.filter fun x => decide (gE x.1 < 9000)).map fun x => some (sentD0 x)) : ∀ x ∈ sentL, gE x.1 < 9000 → sentD0 x ∈ laid := by
  intro x hx hb
  have h1 : some (sentD0 x) ∈ (sentL.filter fun x => decide (gE x.1 < 9000)).map fun x => some (sentD0 x) := List.mem_map.2 ⟨x, List.mem_filter.2 ⟨hx, by simpa using hb⟩, rfl⟩
  rw [← h] at h1
  obtain ⟨i, _, hi⟩ := List.mem_map.1 h1
  exact List.mem_of_getElem? hi
end Go.Ab

set_option maxRecDepth 100000
namespace Go.Ab
open Go.Proofs
theorem et_at : Tryz.prog.globalNamed "errors.errorType" = some 2 := by kernel_rfl
theorem rt_at : (Tryz.prog.cutTypes.find? (·.1 == "internal/reflectlite.rtype")).map (·.2) = some 137 := by kernel_rfl
theorem rt_row : ((List.range Tryz.prog.types.size).filter fun t => Tryz.prog.rowNamed t [101, 114, 114, 111, 114]) = [30] := by kernel_rfl
theorem rt_handle : typeHandle Tryz.prog 30 = .pointer (some ⟨21, 30, none⟩) := by kernel_rfl
/-- What the list says of the handle of the type error. -/
theorem handle_of_laid {W : World} {laid : List (String × DataW Unit)} (h : laidMetH Tryz.prog laid W) (hm : ("errors.errorType", (.iface "internal/reflectlite.rtype" (.agg [.ptr (.lit (.string [101, 114, 114, 111, 114]))]) : DataW Unit)) ∈ laid) :
    W.cell? ⟨2, 0, none⟩ = some errTypeV := by
  have hx := (laidMetH_halves h).2 _ (List.mem_filter.2 ⟨hm, rfl⟩)
  obtain ⟨name, u, ty, e1, e2, e3, e4, e5⟩ := hx
  have en : name = [101, 114, 114, 111, 114] := (Option.some.inj e1).symm
  subst en
  obtain rfl := Option.some.inj (rt_at.symm.trans e2)
  have hm : ty ∈ (List.range Tryz.prog.types.size).filter fun t => Tryz.prog.rowNamed t [101, 114, 114, 111, 114] := List.mem_filter.2 ⟨List.mem_range.2 e3, e4⟩
  rw [rt_row] at hm
  obtain rfl := List.mem_singleton.1 hm
  rw [rt_handle] at e5
  simpa using World.var?_cell et_at e5 0
/-- The variables that errors need. -/
def erGlob (m : Int) (p : Nat → Addr) (o : Nat → Obj) (g : Nat) : Option (List D) :=
  if dE g ≠ 0 ∧ g < 9000 then some [.ifc 273 (.at (p (dE g)) (o (dE g)))] else if g = 2 then some [.ifc 137 (.st [.v (.pointer (some ⟨21, 30, none⟩))])] else if g = 20 then some [.v (.int .i64 m)] else none
theorem erGlob_sents {m : Int} {p : Nat → Addr} {o : Nat → Obj} (h1 : ∀ g, 1 ≤ g → g ≤ 18 → plainB (o g) = true) (h2 : ∀ g g', 1 ≤ g → g ≤ 18 → 1 ≤ g' → g' ≤ 18 → p g = p g' → g = g') : Sents (erGlob m p o) p o :=
  ⟨fun g a b c => by unfold erGlob; rw [dE_gE g (by omega) a, if_pos ⟨by omega, c⟩], h1, h2⟩
/-- What a row with all errors lays. -/
theorem er_of_laid {W : World} (hsh : W.ShapedOpen Tryz.prog) {laid : List (String × DataW Unit)} (hL : laidMetH Tryz.prog laid W) (hall : ∀ x ∈ sentL, gE x.1 < 9000 → sentD0 x ∈ laid)
    (hh : ("errors.errorType", (.iface "internal/reflectlite.rtype" (.agg [.ptr (.lit (.string [101, 114, 114, 111, 114]))]) : DataW Unit)) ∈ laid) :
    ∃ (m : Int) (p : Nat → Addr) (o : Nat → Obj), Sents (erGlob m p o) p o ∧ GlobOk (mkCtx tab (erGlob m p o)) (fun _ _ => False) W := by
  obtain ⟨m, hm⟩ := maxLen_cell W hsh
  obtain ⟨p, o, hc, hpl, hi⟩ := sents_of_laid (laidMetH_halves hL).1 (fun x hx hb => List.mem_filter.2 ⟨hall x hx hb, by rfl⟩) sent_row
  have h19 := handle_of_laid hL hh
  refine ⟨m, p, o, erGlob_sents hpl hi, fun g cs hg => ?_⟩
  have hg' : erGlob m p o g = some cs := hg
  unfold erGlob at hg'
  split at hg'
  · rename_i h
    cases hg'
    obtain ⟨h1, h2, h3⟩ := dE_ok g h.1
    obtain ⟨h4, h5⟩ := hc (dE g) h1 h2 (by rw [h3]; exact h.2)
    rw [h3] at h4
    simp only [RdC, Rd, add00, and_true, not_false_eq_true]
    exact ⟨rfl, _, h4, trivial, _, rfl, rfl, h5, fun _ => trivial⟩
  · split at hg'
    · rename_i e
      subst e
      cases hg'
      simp only [RdC, Rd, RdL, add00, and_true, not_false_eq_true]
      exact ⟨rfl, _, h19, trivial, _, rfl, _, rfl, _, _, rfl, rfl, rfl⟩
    · split at hg'
      · rename_i e
        subst e
        cases hg'
        simp only [RdC, Rd, add00, and_true, not_false_eq_true]
        exact ⟨rfl, _, hm, trivial, rfl⟩
      · simp at hg'

end Go.Ab

/- One text of a proof that a law of this seat says true for every input: an evaluator of code over data, and that it tells the truth. It holds of the given program under the conditions that the row prints. -/
import Derived.Test.YticphlljahcmkaaDoorAbSnd
import Derived.KernelRfl
set_option linter.unusedVariables false
namespace Go.Ab

/-- Types that are told out of a list. -/
structure TI where
  td : TD
  sz : Nat
  zero : List D
  eq : List EK := []

def mkCtx (tab : List TI) (glob : Nat → Option (List D)) : Ctx where
  td t := (tab.getD t ⟨.other, 0, [], []⟩).td
  sz t := (tab.getD t ⟨.other, 0, [], []⟩).sz
  zero t := (tab.getD t ⟨.other, 0, [], []⟩).zero
  glob := glob
  eqt t := (tab.getD t ⟨.other, 0, [], []⟩).eq

def fieldsB (tab : List TI) : List (TypeId × Nat) → List Field → Bool
  | [], [] => true
  | (t, o) :: fs, f :: gs => t == f.type && o == f.offset && (tab.getD t ⟨.other, 0, [], []⟩).td.ok && (tab.getD t ⟨.other, 0, [], []⟩).sz != 0 && fieldsB tab fs gs
  | _, _ => false
def tdB (tab : List TI) : TD → Option TypeDesc → Bool
  | .int k, some (.int k') => k == k'
  | .bool, some .bool => true
  | .str, some .string => true
  | .slice e, some (.slice e') => e == e' && (tab.getD e ⟨.other, 0, [], []⟩).td.ok
  | .strct fs, some (.struct a) => fieldsB tab fs a.toList
  | .ptr e, some (.pointer e') => e == e'
  | .iface em, some (.interface ms) => ms.isEmpty == em
  | .func, some (.func _ _ _) => true
  | .map k e, some (.map k' e') => k == k' && e == e'
  | .arr n e, some (.array n' e') => n == n' && e == e' && (tab.getD e ⟨.other, 0, [], []⟩).td.ok
  | .other, _ => true
  | _, _ => false
def cellB : D → Value → Bool
  | .v (.int k n), .int k' n' => k == k' && n == n'
  | .v (.bool b), .bool b' => b == b'
  | .v (.pointer none), .pointer none => true
  | .v .nilFunc, .nilFunc => true
  | .v .nilIface, .nilIface => true
  | .v (.map none), .map none => true
  | .s [], .string b => b.data.isEmpty
  | .sl _ [], .slice none 0 0 => true
  | _, _ => false
def cellsB : List D → List Value → Bool
  | [], [] => true
  | d :: ds, v :: vs => cellB d v && cellsB ds vs
  | _, _ => false
def infoB (x : TI) : Option TypeInfo → Bool
  | some i => i.size == x.sz && Nat.ble i.bytes 4096 && (match i.zero with
    | some z => cellsB x.zero z.cells.toList && x.zero.length == x.sz && (match x.td.agg, z with | true, .agg _ => true | true, _ => false | false, .agg _ => false | false, _ => true)
    | none => false)
  | none => false
def tabB (P : Program) (tab : List TI) : Nat → List TI → Bool
  | _, [] => true
  | t, x :: r => (match x.td with | .other => true | d => tdB tab d (P.underlying t) && infoB x (P.info? t)) && tabB P tab (t + 1) r

theorem fieldsB_ok {tab : List TI} {glob : Nat → Option (List D)} : ∀ {fs : List (TypeId × Nat)} {gs : List Field}, fieldsB tab fs gs = true → gs.map (fun f => (f.type, f.offset)) = fs ∧ ∀ f ∈ fs, (mkCtx tab glob).td f.1 ≠ .other ∧ (mkCtx tab glob).sz f.1 ≠ 0
  | [], [], _ => by simp
  | [], _ :: _, h => by simp [fieldsB] at h
  | (t, o) :: fs, [], h => by simp [fieldsB] at h
  | (t, o) :: fs, f :: gs, h => by
    simp only [fieldsB, Bool.and_eq_true, beq_iff_eq, bne_iff_ne] at h
    obtain ⟨⟨⟨⟨h1, h2⟩, h3⟩, h4⟩, h5⟩ := h
    obtain ⟨h6, h7⟩ := fieldsB_ok (glob := glob) h5
    refine ⟨by simp [h1, h2, h6], fun g hg => ?_⟩
    rcases List.mem_cons.1 hg with rfl | hg
    · exact ⟨td_ok h3, h4⟩
    · exact h7 g hg

theorem tdB_ok {P : Program} {tab : List TI} {glob : Nat → Option (List D)} {t : TypeId} (h : tdB tab ((mkCtx tab glob).td t) (P.underlying t) = true) : tdOk P (mkCtx tab glob) t := by
  unfold tdOk
  revert h
  generalize (mkCtx tab glob).td t = d
  generalize P.underlying t = u
  intro h
  cases d with
  | int k =>
    cases u with
    | none => simp [tdB] at h
    | some u => cases u <;> simp [tdB] at h; subst h; rfl
  | bool =>
    cases u with
    | none => simp [tdB] at h
    | some u => cases u <;> simp [tdB] at h; rfl
  | str =>
    cases u with
    | none => simp [tdB] at h
    | some u => cases u <;> simp [tdB] at h; rfl
  | slice e =>
    cases u with
    | none => simp [tdB] at h
    | some u =>
      cases u <;> simp only [tdB, Bool.and_eq_true, beq_iff_eq, Bool.false_eq_true] at h
      exact ⟨by rw [h.1], td_ok h.2⟩
  | strct fs =>
    cases u with
    | none => simp [tdB] at h
    | some u =>
      cases u <;> simp only [tdB, Bool.false_eq_true] at h
      exact ⟨_, rfl, fieldsB_ok h⟩
  | ptr e =>
    cases u with
    | none => simp [tdB] at h
    | some u => cases u <;> simp [tdB] at h; subst h; rfl
  | iface em =>
    cases u with
    | none => simp [tdB] at h
    | some u =>
      cases u <;> simp only [tdB, beq_iff_eq, Bool.false_eq_true] at h
      exact ⟨_, rfl, h⟩
  | func =>
    cases u with
    | none => simp [tdB] at h
    | some u => cases u <;> simp [tdB] at h; exact ⟨_, _, _, rfl⟩
  | map k e =>
    cases u with
    | none => simp [tdB] at h
    | some u => cases u <;> simp [tdB] at h; simp [h]
  | arr n e =>
    cases u with
    | none => simp [tdB] at h
    | some u =>
      cases u <;> simp only [tdB, Bool.and_eq_true, beq_iff_eq, Bool.false_eq_true] at h
      exact ⟨by rw [h.1.1, h.1.2], td_ok h.2⟩
  | other => trivial

theorem cellB_ok {d : D} {v : Value} (h : cellB d v = true) : ∀ {ds : List D} {vs : List Value}, zeroL ds vs → zeroL (d :: ds) (v :: vs) := by
  intro ds vs hz
  unfold cellB at h
  split at h <;> first
    | (simp at h; done)
    | (simp only [zeroL]
       simp only [Bool.and_eq_true, beq_iff_eq] at h
       try obtain ⟨h1, h2⟩ := h
       subst_vars
       exact ⟨_, rfl, rfl, hz⟩)
    | (simp only [zeroL]
       exact ⟨_, rfl, rfl, hz⟩)
    | skip
  · simp only [zeroL]
    rename_i b
    have : b = ⟨#[]⟩ := by
      obtain ⟨a⟩ := b
      simpa using h
    subst this
    exact ⟨_, rfl, hz⟩
  · simp only [zeroL]
    exact ⟨_, rfl, hz⟩
theorem cellsB_ok : ∀ {ds : List D} {vs : List Value}, cellsB ds vs = true → zeroL ds vs
  | [], [], _ => by simp [zeroL]
  | [], _ :: _, h => by simp [cellsB] at h
  | _ :: _, [], h => by simp [cellsB] at h
  | d :: ds, v :: vs, h => by
    simp only [cellsB, Bool.and_eq_true] at h
    exact cellB_ok h.1 (cellsB_ok h.2)

theorem infoB_ok {x : TI} {o : Option TypeInfo} (h : infoB x o = true) : ∃ i z, o = some i ∧ i.size = x.sz ∧ i.bytes ≤ 4096 ∧ i.zero = some z ∧ zeroL x.zero z.cells.toList ∧ x.zero.length = x.sz ∧ (x.td.agg = true → ∃ us, z = .agg us) ∧ (x.td.agg = false → z.cells = #[z]) := by
  cases o with
  | none => simp [infoB] at h
  | some i =>
    simp only [infoB, Bool.and_eq_true, beq_iff_eq, Nat.ble_eq] at h
    obtain ⟨⟨h1, h2⟩, h3⟩ := h
    split at h3
    · rename_i z hz
      simp only [Bool.and_eq_true, beq_iff_eq] at h3
      obtain ⟨⟨h4, h5⟩, h6⟩ := h3
      refine ⟨i, z, rfl, h1, h2, hz, cellsB_ok h4, h5, fun ha => ?_, fun ha => ?_⟩
      · rw [ha] at h6
        cases z <;> simp at h6
        exact ⟨_, rfl⟩
      · rw [ha] at h6
        cases z <;> first | rfl | (simp at h6)
    · simp at h3

theorem tabB_ok {P : Program} {tab : List TI} : ∀ (k : Nat) (r : List TI), tabB P tab k r = true → ∀ j x, r[j]? = some x → x.td ≠ .other → tdB tab x.td (P.underlying (k + j)) = true ∧ infoB x (P.info? (k + j)) = true
  | k, [], _, j, x, hx, _ => by simp at hx
  | k, y :: r, h, 0, x, hx, ho => by
    simp at hx
    subst hx
    simp only [tabB, Bool.and_eq_true] at h
    simpa using h.1
  | k, y :: r, h, j + 1, x, hx, ho => by
    simp only [tabB, Bool.and_eq_true] at h
    have := tabB_ok (k + 1) r h.2 j x (by simpa using hx) ho
    rwa [show k + 1 + j = k + (j + 1) from by omega] at this

/-- The table fits the program. -/
def eqsB (P : Program) : Nat → List TI → Bool
  | _, [] => true
  | t, x :: r => (x.eq.isEmpty || eqB P t x.eq) && eqsB P (t + 1) r
theorem eqsB_ok {P : Program} : ∀ (i : Nat) (tab : List TI), eqsB P i tab = true → ∀ (t : Nat) (x : TI), tab[t]? = some x → x.eq ≠ [] → eqB P (i + t) x.eq = true
  | i, [], _, t, x, hx, _ => by simp at hx
  | i, y :: r, h, t, x, hx, hne => by
    simp only [eqsB, Bool.and_eq_true, Bool.or_eq_true, List.isEmpty_iff] at h
    cases t with
    | zero =>
      simp at hx
      subst hx
      exact h.1.resolve_left hne
    | succ t =>
      have := eqsB_ok (i + 1) r h.2 t x (by simpa using hx) hne
      rw [Nat.add_assoc, Nat.add_comm 1 t] at this
      exact this
theorem mk_ok {P : Program} {tab : List TI} (glob : Nat → Option (List D)) (h : tabB P tab 0 tab = true) (hm : P.follows .mixedOrders = true) (hq : eqsB P 0 tab = true) : TOk P (mkCtx tab glob) := by
  have key : ∀ t, (mkCtx tab glob).td t ≠ .other → ∃ x, tab[t]? = some x ∧ (mkCtx tab glob).td t = x.td ∧ (mkCtx tab glob).sz t = x.sz ∧ (mkCtx tab glob).zero t = x.zero := by
    intro t ht
    cases hx : tab[t]? with
    | none => simp [mkCtx, List.getD, hx] at ht
    | some x => exact ⟨x, rfl, by simp [mkCtx, List.getD, hx], by simp [mkCtx, List.getD, hx], by simp [mkCtx, List.getD, hx]⟩
  refine ⟨fun t => ?_, fun t ht => ?_, hm, fun t ht => ?_⟩
  · by_cases ht : (mkCtx tab glob).td t = .other
    · unfold tdOk
      rw [ht]
      trivial
    · obtain ⟨x, hx, e1, e2, e3⟩ := key t ht
      have := (tabB_ok 0 tab h t x hx (by rw [← e1]; exact ht)).1
      rw [Nat.zero_add, ← e1] at this
      exact tdB_ok this
  · obtain ⟨x, hx, e1, e2, e3⟩ := key t ht
    have := infoB_ok (tabB_ok 0 tab h t x hx (by rw [← e1]; exact ht)).2
    rw [Nat.zero_add] at this
    rw [e1, e2, e3]
    exact this
  · cases hx : tab[t]? with
    | none => simp [mkCtx, List.getD, hx] at ht
    | some x =>
      have e : (mkCtx tab glob).eqt t = x.eq := by simp [mkCtx, List.getD, hx]
      rw [e] at ht ⊢
      have := eqsB_ok 0 tab hq t x hx ht
      rwa [Nat.zero_add] at this

end Go.Ab

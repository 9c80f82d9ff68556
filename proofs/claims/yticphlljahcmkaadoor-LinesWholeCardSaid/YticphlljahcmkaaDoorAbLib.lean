/- One text of a proof that a law of this seat says true for every input: an evaluator of code over data, and that it tells the truth. It holds of the given program under the conditions that the row prints. -/
import Derived.Test.YticphlljahcmkaaDoorAbTab
set_option linter.unusedVariables false
namespace Go.Ab

/-- An oracle with one function more. -/
def ext (E : Abs) (f : FuncId) (F : List D → Option (List D)) : Abs := fun g => if g = f then F else E g
theorem ext_ok {P : Program} {T : Ctx} {E : Abs} {f : FuncId} {F : List D → Option (List D)} (hE : ∀ g, Pure P T g (E g)) (hF : Pure P T f F) : ∀ g, Pure P T g (ext E f F g) := by
  intro g
  unfold ext
  split
  · rename_i e
    exact e ▸ hF
  · exact hE g
theorem none_ok {P : Program} {T : Ctx} : ∀ g, Pure P T g ((fun _ _ => none : Abs) g) := by
  intro g ds rs h
  simp at h
theorem Pure.of_le {P : Program} {T : Ctx} {f : FuncId} {F G : List D → Option (List D)} (hG : Pure P T f G) (h : ∀ ds rs, F ds = some rs → G ds = some rs) : Pure P T f F :=
  fun ds rs hF => hG ds rs (h ds rs hF)
theorem pure_of {P : Program} {T : Ctx} (hT : TOk P T) {E : Abs} (hE : ∀ f, Pure P T f (E f)) {f : FuncId} {fn : Func} (hf : P.funcs[f]? = some fn) (hname : (fn.name == "runtime.NumGoroutine") = false) {kp fr : Nat → List Nat} (hdr : (match fn.body with | some c => drawsOk fr c | none => true) = true)
    {F : List D → Option (List D)} (h : ∀ ds rs, F ds = some rs → ∃ n, fnK T E kp fr n fn ds = some rs) : Pure P T f F := by
  intro ds rs hF
  obtain ⟨n, hn⟩ := h ds rs hF
  exact fn_sound hT hE kp fr n hf hname (fun c hc => by rw [hc] at hdr; exact hdr) ds rs hn


theorem keep_bind {R : Type} (s : St) (ks : List Nat) (κ : St → Option R) : s.keep ks κ = (s.keep ks some).bind κ := by
  unfold St.keep
  simp only
  split <;> rfl
/-- What the simplifier shall not enter. -/
inductive Tag {α : Type} (x : α) : Type | mk
def hold {α : Type} (x : α) (m : Tag x) : α := x
section
variable {R σ : Type} (T : Ctx) (E : Abs)
/-- A loop, closed to the simplifier. -/
def loopK (kp fr : Nat → List Nat) (n : Nat) (c : Code) (s : St) (κ : Ex → St → Option R) : Option R :=
  iter (fun s κ => s.keep (kp (firstRegion c)) fun s => codeK T E kp fr n c s κ) n s κ

variable (kp fr : Nat → List Nat) (n : Nat)
/-- First the state, then what comes of it. -/
def stK (s : St) (f : St → Option R) : Option R := f s
/-- A test, closed to the simplifier as long as it is open. -/
def condK (c : Bool) (a b : Option R) : Option R := match c with | true => a | false => b
theorem ck_skip (s : St) (κ : Ex → St → Option R) : codeK T E kp fr n .skip s κ = κ .normal s := by simp only [codeK]
theorem ck_label (l : Nat) (s : St) (κ : Ex → St → Option R) : codeK T E kp fr n (.label l) s κ = κ .normal s := by simp only [codeK]
theorem ck_region (id : Nat) (l : List Oper) (s : St) (κ : Ex → St → Option R) : codeK T E kp fr n (.region id l.toArray false) s κ = opsK T E l l s (hold (κ .normal) .mk) := by simp only [codeK, hold]
theorem ck_draw (id : Nat) (l : List Oper) (s : St) (κ : Ex → St → Option R) : codeK T E kp fr n (.region id l.toArray true) s κ = if (fr id).all (fun d => clear (fr id) s (some d)) = true then dopsK T E (fr id) l l s (hold (κ .normal) .mk) else none := by simp only [codeK, drawK, hold]
theorem ck_seq (a b : Code) (s : St) (κ : Ex → St → Option R) : codeK T E kp fr n (.seq a b) s κ = codeK T E kp fr n a s (hold (fun e s => match e with | .normal => codeK T E kp fr n b s κ | .exit i => κ (.exit i) s | .ret => κ .ret s) .mk) := by simp only [codeK, hold] <;> rfl
theorem ck_cond (c : Operand) (a b : Code) (s : St) (κ : Ex → St → Option R) : codeK T E kp fr n (.cond c a b) s κ = match s.get T c with
    | .d (.v (.bool t)) => condK t (hold (codeK T E kp fr n a s κ) .mk) (hold (codeK T E kp fr n b s κ) .mk)
    | _ => none := by
  simp only [codeK]
  split
  · rename_i t h
    rw [h]
    cases t <;> rfl
  · rename_i h
    split
    · rename_i t h'
      exact absurd h' (h t)
    · rfl
theorem ck_block (id : Nat) (c : Code) (s : St) (κ : Ex → St → Option R) : codeK T E kp fr n (.block id c) s κ = codeK T E kp fr n c s (hold (fun e s => match e with | .normal => κ .normal s | .exit i => if i = id then κ .normal s else κ (.exit i) s | .ret => κ .ret s) .mk) := by simp only [codeK, hold] <;> rfl
theorem ck_loop (c : Code) (s : St) (κ : Ex → St → Option R) : codeK T E kp fr n (.loop c) s κ = loopK T E kp fr n (hold c .mk) s (hold κ .mk) := by simp only [codeK, loopK, hold] <;> rfl
theorem ck_scope (c : Code) (s : St) (κ : Ex → St → Option R) : codeK T E kp fr n (.scope c) s κ = codeK T E kp fr n c s κ := by simp only [codeK]
theorem ck_exit (i : Nat) (s : St) (κ : Ex → St → Option R) : codeK T E kp fr n (.exit i) s κ = κ (.exit i) s := by simp only [codeK]
theorem ck_ret (s : St) (κ : Ex → St → Option R) : codeK T E kp fr n .ret s κ = κ .ret s := by simp only [codeK]

variable {T E kp fr n}
/-- A loop by rounds: what comes of it from each state on. -/
theorem loop_rule {c : Code} {κ : Ex → St → Option R} (S : σ → St) (m : σ → Nat) (ok : σ → Prop) (Post : σ → Option R) (x : σ) (ks : List Nat) {s : St} (hks : kp (firstRegion c) = ks)
    (hx : ok x) (hm : m x < n) (hs : s.keep ks some = some (S x))
    (h : ∀ x κ', ok x → (∀ y s, ok y → m y < m x → s.keep ks some = some (S y) → κ' .normal s = Post y) → (∀ i s, κ' (.exit i) s = κ (.exit i) s) → (∀ s, κ' .ret s = κ .ret s) → codeK T E kp fr n c (S x) κ' = Post x) {m1 : Tag c} {m2 : Tag κ} : loopK T E kp fr n (hold c m1) s (hold κ m2) = Post x := by
  have key : ∀ (k : Nat) (x : σ) (s : St), ok x → m x < k → s.keep ks some = some (S x) → iter (fun s κ => s.keep ks fun s => codeK T E kp fr n c s κ) k s κ = Post x := by
    intro k
    induction k with
    | zero => intro x s _ hm; exact absurd hm (Nat.not_lt_zero _)
    | succ k ih =>
      intro x s hx hm hs
      simp only [iter]
      rw [keep_bind, hs]
      simp only [Option.bind_some]
      refine h x _ hx (fun y s' hy hlt hs' => ?_) (fun i s => rfl) fun s => rfl
      exact ih y s' hy (by omega) hs'
  unfold loopK hold
  rw [hks]
  exact key n x s hx hm hs
end
/-- A frame's slots: these, and nothing in the others. -/
def slots (n : Nat) (xs : List (Nat × AV)) : List AV := xs.foldl (fun t p => t.set p.1 p.2) (List.replicate n .undef)
end Go.Ab

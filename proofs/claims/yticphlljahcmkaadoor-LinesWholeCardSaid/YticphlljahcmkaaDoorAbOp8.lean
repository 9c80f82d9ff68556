/- One text of a proof that a law of this seat says true for every input: an evaluator of code over data, and that it tells the truth. It holds of the given program under the conditions that the row prints. -/
import Derived.Test.YticphlljahcmkaaDoorAbOp7
set_option linter.unusedVariables false
namespace Go.Ab

def pack : List Value → Value
  | [u] => u
  | us => .tuple us.toArray

/-- A function that has a body. -/
def FnOk (P : Program) (f : FuncId) : Prop := ∃ fn, P.funcs[f]? = some fn ∧ (fn.name == "runtime.NumGoroutine") = false ∧ fn.body.isNone = false
def GlobOk (T : Ctx) (M : Mut) (w : World) : Prop := ∀ g cs, T.glob g = some cs → RdC M w cs ⟨g, 0, none⟩ 0

/-- A function's contract: what it gives for data; nothing that was there is turned. -/
def Pure (P : Program) (T : Ctx) (f : FuncId) (F : List D → Option (List D)) : Prop :=
  ∀ ds rs, F ds = some rs → FnOk P f ∧ ∀ (N : Mut) (w : World) (vs : List Value), (∀ b i, N b i → b < w.heap.size) → GlobOk T N w → RdL N w ds vs →
    Calls P f vs.toArray w fun e w' => ∃ us, RdL N w' rs us ∧ e = .returned (pack us) ∧ Chg (fun _ _ => False) w w'

theorem packD_ok {γ : Gam} {o : Obs} {M : Mut} {w : World} {rs : List D} {us : List Value} (h : RdL M w rs us) : RV γ o M w (packD rs) (pack us) := by
  match rs, us, h with
  | [], us, h =>
    simp only [RdL] at h
    subst h
    simp only [packD, pack, RV, List.map_nil]
    exact ⟨[], rfl, by simp [RVL]⟩
  | [x], us, h =>
    simp only [RdL] at h
    obtain ⟨u, us', rfl, h, rfl⟩ := h
    simpa only [packD, pack, RV] using h
  | x :: y :: r, us, h =>
    have hl := RdL_length h
    match us, hl with
    | u :: v :: us', _ =>
      simp only [packD, pack, RV]
      exact ⟨_, rfl, RVL_data.2 h⟩

theorem list_one {α : Type} {xs : Array α} {x : α} (h : xs.toList = [x]) : xs = #[x] := by
  apply Array.toList_inj.1
  simpa using h
theorem list_two {α : Type} {xs : Array α} {x y : α} (h : xs.toList = [x, y]) : xs = #[x, y] := by
  apply Array.toList_inj.1
  simpa using h

section
variable {P : Program} {T : Ctx} (hT : TOk P T) {E : Abs} (hE : ∀ f, Pure P T f (E f))

theorem args_ok {N X : Mut} {w0 w : World} {γ : Gam} {s : St} {a : Act} (h : SR T N w0 X γ w s a) : ∀ (xs : List Operand) (ts : List TypeId) (ds : List D), xs.length = ts.length → datas s.o ((xs.zip ts).map fun p => nilfix T p.2 (s.get T p.1)) = some ds → RdL (all γ N s.o) w ds (xs.map a.eval)
  | [], ts, ds, hl, hd => by
    simp only [List.zip_nil_left, List.map_nil, datas, Option.some.injEq] at hd
    subst hd
    simp [RdL]
  | x :: xs, [], ds, hl, hd => by simp at hl
  | x :: xs, t :: ts, ds, hl, hd => by
    simp only [List.zip_cons_cons, List.map_cons, datas] at hd
    split at hd
    · rename_i d r hd1 hd2
      simp only [Option.some.injEq] at hd
      subst hd
      simp only [List.map_cons, RdL]
      exact ⟨_, _, rfl, data_ok h.inv _ _ _ (nilfix_ok (T := T) t (h.get x)) hd1, args_ok h xs ts r (by simpa using hl) hd2⟩
    · simp at hd

include hT hE

theorem owes_call (c : Call) : Owes P T E (fun o => o.op = .call c) := by
  intro R N X w0 w γ s a o κ r next Q ho h hk hn
  unfold opK at hk
  rw [ho] at hk
  simp only at hk
  split at hk
  · rename_i b hb
    split at hk
    · rename_i x t hx ht
      have hx' := list_one hx
      have ht' := list_one ht
      split at hk
      · rename_i l htd hxd
        have hxv := h.data hxd
        simp only [Rd] at hxv
        refine wp_val (v := .int .i64 l.length) (w' := w) ?_ (hn γ w _ _ (h.put o.dst (by simp only [RV, Rd])) hk)
        simp only [execOp, ho, resolve, hb, invoke, builtin, hx', ht', Sem.run_bind, Sem.run_pure, Result.andThen_ok, List.map_toArray, List.map_cons, List.map_nil, hxv, Builtin.len_, List.getElem?_toArray, List.getElem?_cons_zero, run_underlying (und_str hT htd)]
        simp [goInt, ByteArray.size]
      · rename_i e n xs htd hxd
        have hxv := h.data hxd
        simp only [Rd] at hxv
        obtain ⟨ad, len, cap, he, rfl, _⟩ := hxv
        refine wp_val (v := .int .i64 xs.length) (w' := w) ?_ (hn γ w _ _ (h.put o.dst (by simp only [RV, Rd])) hk)
        simp only [execOp, ho, resolve, hb, invoke, builtin, hx', ht', Sem.run_bind, Sem.run_pure, Result.andThen_ok, List.map_toArray, List.map_cons, List.map_nil, he, Builtin.len_, List.getElem?_toArray, List.getElem?_cons_zero, run_underlying (und_slice hT htd).1]
        simp [goInt]
      · simp at hk
    · rename_i x y t t' hx ht
      have hx' := list_two hx
      have ht' := list_two ht
      split at hk
      · rename_i e e' n' ys htd htd' hyd
        split at hk
        · rename_i k hkx
          split at hk
          · rename_i n xs hl
            split at hk
            · rename_i hfit
              have hxv := h.get x
              rw [hkx] at hxv
              simp only [RV] at hxv
              obtain ⟨n1, xs1, hl1, he⟩ := hxv
              rw [hl] at hl1
              injection hl1 with hl1
              injection hl1 with e1 e2
              subst e1 e2
              have hyv := data_ok h.inv _ _ _ (nilfix_ok (T := T) t' (h.get y)) hyd
              rw [hfit.2.1] at hyv
              obtain ⟨us, hs, hus, hy1, hy2⟩ := src_sl (P := P) (und_slice hT htd').1 hyv
              obtain ⟨w', γ', hrun, h'⟩ := run_append hT h htd hl hfit.1 hfit.2.2 hs hus hy1 hy2 o.type
              refine wp_val (w' := w') ?_ (hn γ' w' _ _ (h'.put o.dst (v := .own k) (u := tokVal (γ' k) (xs ++ ys).length) ?_) hk)
              · simp only [execOp, ho, resolve, hb, invoke, builtin, hx', ht', Sem.run_bind, Sem.run_pure, Result.andThen_ok, List.map_toArray, List.map_cons, List.map_nil, he, hrun]
              · simp only [RV]
                refine ⟨n, xs ++ ys, ?_, rfl⟩
                have : lookup k (subO (shutO k n xs) (dropR k) s.o) = some (.tok n xs) := by
                  rw [lookup_subO, hl]
                  rfl
                exact lookup_update_same _ this
            · simp at hk
          · simp at hk
        · simp at hk
      · rename_i e l htd htd' hyd
        split at hk
        · rename_i k hkx
          split at hk
          · rename_i n xs hl
            split at hk
            · rename_i hfit
              have hxv := h.get x
              rw [hkx] at hxv
              simp only [RV] at hxv
              obtain ⟨n1, xs1, hl1, he⟩ := hxv
              rw [hl] at hl1
              injection hl1 with hl1
              injection hl1 with e1 e2
              subst e1 e2
              have hyv := data_ok h.inv _ _ _ (nilfix_ok (T := T) t' (h.get y)) hyd
              simp only [Rd] at hyv
              obtain ⟨hus, hy1, hy2⟩ := encB_rd (all γ N s.o) w l
              have hs := src_s (P := P) (w := w) (l := l) (und_str hT htd')
              rw [← hfit.2.1] at hs hy1
              obtain ⟨w', γ', hrun, h'⟩ := run_append hT h htd hl hfit.1 (by simpa using hfit.2.2) hs hus hy1 hy2 o.type
              refine wp_val (w' := w') ?_ (hn γ' w' _ _ (h'.put o.dst (v := .own k) (u := tokVal (γ' k) (xs ++ l.map encB).length) ?_) hk)
              · simp only [execOp, ho, resolve, hb, invoke, builtin, hx', ht', Sem.run_bind, Sem.run_pure, Result.andThen_ok, List.map_toArray, List.map_cons, List.map_nil, he, hyv, hrun]
              · simp only [RV]
                refine ⟨n, xs ++ l.map encB, ?_, rfl⟩
                have : lookup k (subO (shutO k n xs) (dropR k) s.o) = some (.tok n xs) := by
                  rw [lookup_subO, hl]
                  rfl
                exact lookup_update_same _ this
            · simp at hk
          · simp at hk
        · simp at hk
      · simp at hk
    · simp at hk
  · rename_i f hf
    split at hk
    · rename_i g first cap ds hfd hds
      split at hk
      · rename_i hsz
        split at hk
        · rename_i rs hrs
          obtain ⟨hfn, hcall⟩ := hE g _ _ hrs
          obtain ⟨fn, hfn1, hfn2, hfn3⟩ := hfn
          have hfv := h.data hfd
          simp only [Rd] at hfv
          obtain ⟨xs, ys, he, hx, hy⟩ := hfv
          have hargs := args_ok h c.args.toList c.argTypes.toList ds (by simpa using hsz) hds
          have hc := hcall (all γ N s.o) w (xs ++ c.args.toList.map a.eval ++ ys) (fun b i hm => by
            rcases hm with hm | ⟨p, hp, hpb, _⟩
            · exact h.inv.old b i hm
            · exact own_lt h.inv hp hpb) (fun g cs hg => h.glob g cs hg) (RdL_append (RdL_append hx hargs) hy)
          unfold Oper.wp
          have hrun : (execOp a.eval o).run P w = .ok (.enter g (xs ++ c.args.toList.map a.eval ++ ys).toArray) w := by
            simp only [execOp, ho, resolve, hf, Deferred.ofValue, he, invoke, callFunc, Sem.run_bind, Sem.run_pure, Result.andThen_ok, run_program, hfn1, hfn2, hfn3]
            simp only [Bool.false_eq_true, if_false, Sem.run_pure]
            congr 2
            apply Array.toList_inj.1
            simp
          rw [hrun]
          refine Calls.mono hc ?_
          rintro e w' ⟨us, hus, rfl, hchg⟩
          exact hn γ w' _ _ ((h.world hchg).put o.dst (packD_ok hus)) hk
        · simp at hk
      · simp at hk
    · simp at hk
  · simp at hk

/-- Every operation that the evaluator takes. -/
theorem op_sound {R : Type} {N X : Mut} {w0 w : World} {γ : Gam} {s : St} {a : Act} {o : Oper} {κ : St → Option R} {r : R} {next : Act → World → Prop} {Q : Exit → Act → World → Prop}
    (h : SR T N w0 X γ w s a) (hk : opK T E o s κ = some r) (hn : ∀ γ' w' s' a', SR T N w0 X γ' w' s' a' → κ s' = some r → next a' w') : o.wp P a w next Q := by
  cases ho : o.op with
  | move x => exact owes_move E x ho h hk hn
  | assign x => exact owes_assign E x ho h hk hn
  | pick c x y => exact owes_pick E c x y ho h hk hn
  | alloc t => exact owes_alloc hT E t ho h hk hn
  | box t x => exact owes_box E t x ho h hk hn
  | build t ps => exact owes_build hT E t ps ho h hk hn
  | buildSlice t n ps => exact owes_buildSlice hT E t n ps ho h hk hn
  | load t x => exact owes_load hT E t x ho h hk hn
  | store t x y => exact owes_store hT E t x y ho h hk hn
  | nilCheck x => exact owes_nilCheck E x ho h hk hn
  | binOp b t x y t' => exact owes_binOp E b t t' x y hT ho h hk hn
  | unOp u t x => exact owes_unOp E u t x ho h hk hn
  | convert t t' x => exact owes_convert hT E t t' x ho h hk hn
  | makeInterface t x => exact owes_makeInterface hT E t x ho h hk hn
  | makeFunc f xs ys => exact owes_makeFunc E f xs ys ho h hk hn
  | slice t x lo hi mx => exact owes_slice hT E t x lo hi mx ho h hk hn
  | fieldAddr t x i => exact owes_fieldAddr hT E t x i ho h hk hn
  | field t x i => exact owes_field hT E t x i ho h hk hn
  | indexAddr t x y => exact owes_indexAddr hT E t x y ho h hk hn
  | index t x y => exact owes_index hT E t x y ho h hk hn
  | typeAssert x t t2 ok => exact owes_typeAssert hT E x t t2 ok ho h hk hn
  | extract x i => exact owes_extract E x i ho h hk hn
  | call c => exact owes_call hT hE c ho h hk hn
  | _ => unfold opK at hk; rw [ho] at hk; simp at hk

end
end Go.Ab

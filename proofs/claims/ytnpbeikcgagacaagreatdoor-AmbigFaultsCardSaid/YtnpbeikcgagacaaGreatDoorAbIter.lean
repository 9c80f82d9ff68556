/- One text of a proof that a law of this seat says true for every input: an evaluator of code over data, and that it tells the truth. It holds of the given program under the conditions that the row prints. -/
import Derived.Test.YtnpbeikcgagacaaGreatDoorAbLay
import Derived.Test.YtnpbeikcgagacaaGreatDoorAbLa
import Derived.Test.YtnpbeikcgagacaaGreatDoorAbN
import Derived.Test.YtnpbeikcgagacaaGreatDoorAbK
set_option linter.unusedSimpArgs false
set_option linter.unusedVariables false
set_option linter.unusedSectionVars false
namespace Go.Ab
open Go.Proofs Go.Sort Go.RowKit Go.Maps Go.Shelf
/-- slices.Sort's two contracts at texts. -/
theorem sortsS (m : Nat) : AnyZ.SortsIn Tryz.prog Tryz.sorted50_ren Fence.wide m :=
  ⟨fun blk off cap ss W hH hblk hsz => callsIn_wide.2 (AnyM.slices_Sort_string Tryz.sorts77 blk off cap ss W hH hblk hsz),
   fun p cap W => callsIn_wide.2 (AnyM.slices_Sort_string_none Tryz.sorts77 p cap W)⟩
theorem sortsI (m : Nat) : AnyZI.SortsIn Tryz.prog Tryz.sorted52_ren Fence.wide m :=
  ⟨fun blk off cap ss W hH hblk hsz => callsIn_wide.2 (AnyM.slices_Sort_int Tryz.sorts80 blk off cap ss W hH hblk hsz),
   fun p cap W => callsIn_wide.2 (AnyM.slices_Sort_int_none Tryz.sorts80 p cap W)⟩
/-- The names of a graph's nodes, sorted. -/
theorem GKeysF_ok (T : Ctx) : Turns Tryz.prog T 50 (GKeys 78) :=
  turns_keys ⟨_, Tryz.func50, by kernel_rfl, by kernel_rfl⟩ (kt := 9) (et := 9) Tryz.underlying9 fun Bm b nn D0 R W hBm hm hown hmax hbytes =>
    (callsIn_wide (n := 5)).1 (AnyZ.sorted_in Tryz.sorted50 Fence.wide 5 trivial trivial trivial trivial rfl (by omega) (sortsS _) (enters_of Tryz.func77 (by kernel_rfl) rfl) 78 #[.pointer (some ⟨Bm, 0, none⟩)] trivial (enters_of Tryz.func78 (by kernel_rfl) rfl) _ _ hmax hbytes _
      (AnyZ.keys_gives (ρ := Tryz.keys51_ren) { Tryz.keys51 with } Fence.wide _ trivial rfl (by omega) Bm b nn D0 W hBm hm hown))
/-- The rules that are used at a name, sorted. -/
theorem GKeysU_ok (T : Ctx) : Turns Tryz.prog T 52 (GKeysI 81) :=
  turns_keysI ⟨_, Tryz.func52, by kernel_rfl, by kernel_rfl⟩ (kt := 3) (et := 3) Tryz.underlying3 fun Bm b nn D0 R W hBm hm hown hmax hbytes =>
    (callsIn_wide (n := 5)).1 (AnyZI.sorted_in Tryz.sorted52 Fence.wide 5 trivial trivial trivial trivial rfl (by omega) (sortsI _) (enters_of Tryz.func80 (by kernel_rfl) rfl) 81 #[.pointer (some ⟨Bm, 0, none⟩)] trivial (enters_of Tryz.func81 (by kernel_rfl) rfl) _ _ hmax hbytes _
      (AnyZI.keys_gives (ρ := Tryz.keys53_ren) { Tryz.keys53 with } Fence.wide _ trivial rfl (by omega) Bm b nn D0 W hBm hm hown))
/-- slices.Grow at texts. -/
theorem GGrow_ok {T : Ctx} (hT : TOk Tryz.prog T) (h9 : T.td 9 = .str) (hs9 : T.sz 9 = 1) : Turns Tryz.prog T 70 GGrow := by
  refine turns_grow ⟨_, Tryz.func70, by kernel_rfl, by kernel_rfl⟩ (fun base n W h0 hn => ?_) fun base W => ?_
  · obtain ⟨i, z, hi, hsz, hby, hz, hzl, hzn, hza, hzs⟩ := hT.info 9 (by rw [h9]; simp)
    obtain ⟨m, rfl⟩ := Int.eq_ofNat_of_zero_le (Int.le_of_lt h0)
    have hl : lim = 4294967296 := rfl
    have hzc : z.cells.size = 1 := by
      have := RdL_length (zeroL_rd (fun _ _ => False) W _ _ hzl).1
      rw [hzn, hs9] at this
      simpa using this
    have hmn : m ≤ 4294967296 := by omega
    have hbb : (0 + m) * i.bytes ≤ 4294967296 * 4096 := by
      rw [Nat.zero_add]
      exact Nat.mul_le_mul hmn hby
    refine (Any8.slices_Grow_grow Tryz.grow70 i z hi hz (by omega) base 0 0 m [] W (Nat.le_refl _) (by omega) (by omega) (by omega) (by simp) (fun _ => rfl) (fun a _ j v hv => by simp at hv)).mono ?_
    rintro e w' ⟨rfl, rfl⟩
    refine ⟨_, _, _, rfl, rfl, ?_⟩
    have hgc : ∀ e, 0 + m ≤ grownCap W (0 + m) 0 e := fun e => by
      unfold grownCap
      simp only [Question.cut]
      omega
    have := hgc (Tryz.grow70_ren.t 25)
    simp only [Builtin.zeroCells, hzc, Array.size_append, Array.size_map, Array.size_range, List.size_toArray, List.length_nil]
    omega
  · exact Any8.slices_Grow_room Tryz.grow70 base 0 0 0 W (Nat.le_refl _) (by omega) (by omega) (Nat.le_refl _)
end Go.Ab

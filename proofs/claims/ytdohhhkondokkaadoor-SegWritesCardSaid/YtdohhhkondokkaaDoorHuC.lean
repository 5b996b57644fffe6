/- A symbol's code. No condition. -/
import Derived.Test.YtdohhhkondokkaaDoorHuA
namespace Go.Proofs.YtdohhhkondokkaaDoor
open Go.RowKit
set_option linter.unusedSimpArgs false
set_option linter.unusedVariables false
theorem code_no (g : Option Addr) (x : Int) (h : x < 0 ∨ 256 ≤ x) (w : World) : Calls Tryd.prog 83 #[.pointer g, .int .i64 x] w fun e w' => e = .returned (.tuple #[.int .i64 0, .int .i64 0, .bool false]) ∧ w' = w := by
  cases g with
  | none =>
    clear h
    go_enter Tryd.func83, Tryd.ntmps83
    go_wp2
    go_ret3
    exact ⟨rfl, rfl⟩
  | some g =>
    by_cases h1 : x < 0
    · have g1 : decide (x < 0) = true := by simpa using h1
      go_enter Tryd.func83, Tryd.ntmps83
      go_wp2
      go_ret3
      exact ⟨rfl, rfl⟩
    · have g1 : decide (x < 0) = false := by simpa using h1
      have g2 : decide (256 ≤ x) = true := by simp; omega
      go_enter Tryd.func83, Tryd.ntmps83
      go_wp2
      go_ret3
      exact ⟨rfl, rfl⟩
theorem code_nil (x : Int) (w : World) : Calls Tryd.prog 83 #[.pointer none, .int .i64 x] w fun e w' => e = .returned (.tuple #[.int .i64 0, .int .i64 0, .bool false]) ∧ w' = w := by
  go_enter Tryd.func83, Tryd.ntmps83
  go_wp2
  go_ret3
  exact ⟨rfl, rfl⟩
theorem code_ok {w : World} {g : Nat} {cnt : Nat → Int} {s : ByteArray} {cb cn fs at_ : Nat → Int} (hT : Tab w g cnt s cb cn fs at_) (i : Nat) (hi : i < 256) : Calls Tryd.prog 83 #[.pointer (some ⟨g, 0, none⟩), .int .i64 i] w fun e w' => e = .returned (.tuple #[.int .i64 (cb i), .int .i64 (cn i), .bool (decide (0 < cn i))]) ∧ Below w.heap.size w w' := by
  have c0 := hT.gCb hi
  have c1 := hT.gCn hi
  obtain ⟨p, hp⟩ : ∃ p, p = cb i := ⟨_, rfl⟩
  obtain ⟨q, hq⟩ : ∃ q, q = cn i := ⟨_, rfl⟩
  rw [← hp] at c0 ⊢
  rw [← hq] at c1 ⊢
  have hlt := hT.lt
  clear hp hq hT
  have g1 : decide ((i : Int) < 0) = false := by simp
  have g2 : decide (256 ≤ (i : Int)) = false := by simp; omega
  go_enter Tryd.func83, Tryd.ntmps83
  go_wp2_with fail
  refine region_plan (.run [0, 1, 2, 3, 4, 5, 6, 7, 8, 9] .fin) (fun w' => True) (by kernel_rfl) trivial ?_
  intro wd hwd
  have hbd : Below w.heap.size w wd := hwd ▸ ((Below.refl _ _).alloc (Nat.le_refl _) _).drew
  have HBD := Lib.hid hbd; clear hbd
  have r0 : wd.cell? ⟨w.heap.size, 0, none⟩ = some (.int .i64 p) := by rw [hwd]; exact (Blk.new w 143 #[.int .i64 p, .int .i64 q]).cell 0
  have r1 : wd.cell? ⟨w.heap.size, 1, none⟩ = some (.int .i64 q) := by rw [hwd]; exact (Blk.new w 143 #[.int .i64 p, .int .i64 q]).cell 1
  clear hwd
  refine plan_run fun m hm => ?_
  simp only [pickO, List.filterMap_cons, List.filterMap_nil, List.getElem?_toArray, List.getElem?_cons_zero, List.getElem?_cons_succ] at hm
  subst hm
  go_wp2_with fail
  refine ⟨rfl, by rfl, ?_⟩
  refine plan_fin ?_
  go_wp2_with fail
  first | go_ret2 | go_ret3 | skip
  refine ⟨?_, HBD.out⟩
  rfl
end Go.Proofs.YtdohhhkondokkaaDoor

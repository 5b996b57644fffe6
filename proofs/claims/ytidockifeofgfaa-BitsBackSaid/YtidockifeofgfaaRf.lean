/- The walk of the reference's Split. No condition. -/
import Derived.Test.YtidockifeofgfaaOwnI
import Derived.Test.YtidockifeofgfaaBitP
import Derived.Test.YtidockifeofgfaaWri
namespace Go.Proofs.Ytidockifeofgfaa
open Go.RowKit
set_option linter.unusedSimpArgs false
set_option linter.unusedVariables false
def cellsI (l : List Int) : Array Value := (l.map (Value.int .i64)).toArray
theorem cellsI_get (l : List Int) (i : Nat) (h : i < l.length) : (cellsI l)[i]? = some (.int .i64 (l.getD i 0)) := by
  simp [cellsI, h]
theorem cellsI_set (l : List Int) (i : Nat) (x : Int) : (cellsI l).setIfInBounds i (.int .i64 x) = cellsI (l.set i x) := by
  simp [cellsI]
theorem make_I (m : Nat) (hm : m ≤ 1000000) (W : World) : (Instr.makeSlice 33 (.int .i64 (m : Int)) (.int .i64 (m : Int))).run Try.prog W = .ok (.slice (some ⟨W.heap.size, 0, none⟩) m m) (W.alloc (.cells (cellsI (List.replicate m 0)) 3)) := by
  obtain ⟨i, hi⟩ := Option.isSome_iff_exists.1 (show (Try.prog.info? 3).isSome = true by kernel_rfl)
  have h3 : (Try.prog.info? 3).map (fun i => (i.zero, i.size, i.bytes)) = some (some (.int .i64 0), 1, 8) := by kernel_rfl
  rw [hi] at h3
  simp only [Option.map_some, Option.some.injEq, Prod.mk.injEq] at h3
  obtain ⟨hz, hs, hb⟩ := h3
  rw [run_make W 33 3 i (.int .i64 0) Try.underlying33 hi hz .i64 .i64 m m (by omega) (by omega) (by rw [hb]; omega) (by omega)]
  have e : madeCells (Value.int .i64 0).cells ((m : Int).toNat * i.size) = cellsI (List.replicate m 0) := by
    rw [hs]
    apply Array.ext_getElem?
    intro j
    by_cases hj : j < m
    · simp [cellsI, madeCells, hj, Value.cells, Nat.mod_one]
    · rw [Array.getElem?_eq_none (by simp [madeCells]; omega), Array.getElem?_eq_none (by simp [cellsI]; omega)]
  rw [e]
  simp
theorem ownI_made {w : World} {base g : Nat} {l : List Int} {n : Nat} (hB : Blk w g 3 (cellsI l)) (hg : base ≤ g) (hn : l.length = n) (hm : n ≤ 1000000) : OwnI w base (.slice (some ⟨g, 0, none⟩) n n) l := by
  subst hn
  refine ⟨by simp, Or.inr ⟨g, l.length, cellsI l, rfl, hg, hB, Nat.le_refl _, by simp only [maxLen]; omega, by simp [cellsI], ?_⟩⟩
  show (l.map (Value.int .i64)).toArray.toList.take (l.length * 1) = _
  rw [List.toList_toArray]
  exact List.take_of_length_le (by simp)
theorem bitsN_front (j : Nat) (v : Int) : bitsN (j + 1) v = (v / 2 ^ j % 2) :: bitsN j v := by
  rw [Nat.add_comm, bitsN_split]; rfl
theorem bits_set (n k : Nat) (v : Int) (hk : k + 1 ≤ n) : (List.replicate (k + 1) (0 : Int) ++ bitsN (n - (k + 1)) v).set k (v / 2 ^ (n - (k + 1)) % 2) = List.replicate k 0 ++ bitsN (n - k) v := by
  have e : n - k = (n - (k + 1)) + 1 := by omega
  rw [e, bitsN_front, List.replicate_succ']
  simp
set_option maxHeartbeats 1600000 in
theorem split_walk (v : Int) (n : Nat) (hn : n ≤ 16) (v0 : 0 ≤ v) (v1 : v < 65536) (w : World) :
    Calls Try.prog 28 #[.int .i64 v, .int .i64 n] w fun e w' => Hid (∃ v', e = .returned v' ∧ OwnI w' w.heap.size v' (bitsN n v) ∧ Below w.heap.size w w') := by
  have hmk := make_I n (by omega)
  go_enter Try.func28, Try.ntmps28
  go_wp2
  have Hmk := Lib.hid hmk
  clear hmk
  go_loopw [0, 6] (fun x i wr => ∃ (k : Nat) (y : Int), k ≤ n ∧ 0 ≤ y ∧ y < 65536 ∧ x = .int .i64 y ∧ i = .int .i64 ((k : Int) - 1) ∧ Hid (y = v / 2 ^ (n - k)) ∧ Hid (Blk wr w.heap.size 3 (cellsI (List.replicate k 0 ++ bitsN (n - k) v))) ∧ Hid (Below w.heap.size w wr)) (fun _ i _ => (intOf i + 1).toNat)
  case atStart => exact ⟨n, v, by omega, v0, v1, rfl, rfl, Lib.hid (by rw [Nat.sub_self, Int.pow_zero, Int.ediv_one]), Lib.hid (by rw [Nat.sub_self]; show Blk _ _ _ (cellsI (List.replicate n 0 ++ [])); rw [List.append_nil]; exact Blk.new _ _ _), Lib.hid ((Below.refl _ _).alloc (Nat.le_refl _) _)⟩
  case round =>
    obtain ⟨k, y, hk, hy0, hy1, rfl, rfl, hy, hB, hb⟩ := hrel
    have hf : ∀ i, wr.frozen? ⟨w.heap.size, i, none⟩ = false := hB.out.frozen
    cases k with
    | zero =>
      go_wp2
      go_ret
      refine Lib.hid ⟨_, rfl, ownI_made (l := bitsN n v) (by have e := hB.out; simpa using e) (Nat.le_refl _) (bitsN_len n v) (by omega), hb.out⟩
    | succ k =>
      have hc := (hB.out.cell k).trans (cellsI_get _ _ (by simp [bitsN_len]; omega))
      have HS := Lib.hid (bits_set n k v hk)
      have hkk : ((k + 1 : Nat) : Int) - 1 = k := by omega
      have hyy : Hid (y / 2 = v / 2 ^ (n - k)) := Lib.hid (by
        have e : n - k = (n - (k + 1)) + 1 := by omega
        rw [hy.out, e, Int.pow_succ, Int.ediv_ediv_of_nonneg (by have := two_pos (n - (k + 1)); omega)])
      have hq : wrap64 (y.tdiv 2) = y / 2 := by rw [Int.tdiv_eq_ediv_of_nonneg hy0]; unfold wrap64; omega
      go_wp2
      refine ⟨⟨k, y / 2, by omega, by omega, by omega, by first | rfl | rw [hq], by go_num, hyy, Lib.hid ?_, Lib.hid (hb.out.setCell (by simp) _)⟩, by first | (simp [intOf]; done) | (simp [intOf]; omega)⟩
      have e := hB.out.set_ k (.int .i64 (y % 2))
      rw [cellsI_set, hy.out, HS.out] at e
      rw [hy.out]
      exact e
end Go.Proofs.Ytidockifeofgfaa

/- The walk of the reference's Split. No condition. -/
import Derived.Test.YtaofponadaifiaaOwnI
import Derived.Test.YtaofponadaifiaaBitP
import Derived.Test.YtaofponadaifiaaWri
namespace Go.Proofs.Ytaofponadaifiaa
open Go.RowKit
set_option linter.unusedSimpArgs false
set_option linter.unusedVariables false
def cellsI (l : List Int) : Array Value := (l.map (Value.int .i64)).toArray
theorem cellsI_get (l : List Int) (i : Nat) (h : i < l.length) : (cellsI l)[i]? = some (.int .i64 (l.getD i 0)) := by
  simp [cellsI, h]
theorem cellsI_set (l : List Int) (i : Nat) (x : Int) : (cellsI l).setIfInBounds i (.int .i64 x) = cellsI (l.set i x) := by
  simp [cellsI]
theorem make_I (m : Nat) (hm : m ≤ 1000000) (W : World) : (Instr.makeSlice 46 (.int .i64 (m : Int)) (.int .i64 (m : Int))).run Try.prog W = .ok (.slice (some ⟨W.heap.size, 0, none⟩) m m) (W.alloc (.cells (cellsI (List.replicate m 0)) 3)) := by
  obtain ⟨i, hi⟩ := Option.isSome_iff_exists.1 (show (Try.prog.info? 3).isSome = true by kernel_rfl)
  have h3 : (Try.prog.info? 3).map (fun i => (i.zero, i.size, i.bytes)) = some (some (.int .i64 0), 1, 8) := by kernel_rfl
  rw [hi] at h3
  simp only [Option.map_some, Option.some.injEq, Prod.mk.injEq] at h3
  obtain ⟨hz, hs, hb⟩ := h3
  rw [run_make W 46 3 i (.int .i64 0) Try.underlying46 hi hz .i64 .i64 m m (by omega) (by omega) (by rw [hb]; omega) (by omega)]
  have e : madeCells (Value.int .i64 0).cells ((m : Int).toNat * i.size) = cellsI (List.replicate m 0) := by
    rw [hs]
    apply Array.ext_getElem?
    intro j
    by_cases hj : j < m
    · simp [cellsI, madeCells, hj, Value.cells, Nat.mod_one]
    · rw [Array.getElem?_eq_none (by simp [madeCells]; omega), Array.getElem?_eq_none (by simp [cellsI]; omega)]
  rw [e]
  simp
theorem ownI_made {w : World} {base g : Nat} {l : List Int} {n : Nat} (hB : Blk w g 3 (cellsI l)) (hg : base ≤ g) (hn : l.length = n) (hm : n ≤ 1000000) : OwnI w base (.slice (some ⟨g, 0, none⟩) n n) l := by
  subst hn
  refine ⟨by simp, Or.inr ⟨g, l.length, cellsI l, rfl, hg, hB, Nat.le_refl _, by simp only [maxLen]; omega, by simp [cellsI], ?_⟩⟩
  show (l.map (Value.int .i64)).toArray.toList.take (l.length * 1) = _
  rw [List.toList_toArray]
  exact List.take_of_length_le (by simp)
theorem bitsN_front (j : Nat) (v : Int) : bitsN (j + 1) v = (v / 2 ^ j % 2) :: bitsN j v := by
  rw [Nat.add_comm, bitsN_split]; rfl
theorem bits_set (n k : Nat) (v : Int) (hk : k + 1 ≤ n) : (List.replicate (k + 1) (0 : Int) ++ bitsN (n - (k + 1)) v).set k (v / 2 ^ (n - (k + 1)) % 2) = List.replicate k 0 ++ bitsN (n - k) v := by
  have e : n - k = (n - (k + 1)) + 1 := by omega
  rw [e, bitsN_front, List.replicate_succ']
  simp
end Go.Proofs.Ytaofponadaifiaa

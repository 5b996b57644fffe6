/- The walk of the reference's Bytes. No condition. -/
import Derived.Test.YtidockifeofgfaaRf
import Derived.Test.YtidockifeofgfaaWriC
namespace Go.Proofs.Ytidockifeofgfaa
open Go.RowKit
set_option linter.unusedSimpArgs false
set_option linter.unusedVariables false
def st (b : Int) : List Int := if b = 255 then [255, 0] else [b]
theorem st_pt (l : List Int) (b : Int) : pt l b = l ++ st b := rfl
/-- Eight bits from place i on, 1s behind the end. -/
def chunk (n : Nat) (f : Nat → Int) (i j : Nat) : Int := valB ((List.range j).map fun t => if i + t < n then f (i + t) else 1)
theorem chunk_succ (n : Nat) (f : Nat → Int) (i j : Nat) : chunk n f i (j + 1) = chunk n f i j * 2 + (if i + j < n then f (i + j) else 1) := by
  unfold chunk
  rw [List.range_succ, List.map_append, List.map_cons, List.map_nil, valB_snoc]
theorem chunk_range (n : Nat) (f : Nat → Int) (hf : ∀ j, j < n → 0 ≤ f j ∧ f j ≤ 1) (i j : Nat) : 0 ≤ chunk n f i j ∧ chunk n f i j < 2 ^ j := by
  induction j with
  | zero => simp [chunk, valB]
  | succ j ih =>
    rw [chunk_succ, Int.pow_succ]
    split
    · rename_i h
      have := hf _ h
      omega
    · omega
def stB (n : Nat) (f : Nat → Int) (q : Nat) : List Int := ((List.range q).map fun p => st (chunk n f (8 * p) 8)).flatten
theorem stB_succ (n : Nat) (f : Nat → Int) (q : Nat) : stB n f (q + 1) = stB n f q ++ st (chunk n f (8 * q) 8) := by
  simp [stB, List.range_succ]
theorem stB_len (n : Nat) (f : Nat → Int) (q : Nat) : (stB n f q).length ≤ 2 * q := by
  induction q with
  | zero => simp [stB]
  | succ q ih =>
    rw [stB_succ, List.length_append]
    have : (st (chunk n f (8 * q) 8)).length ≤ 2 := by unfold st; split <;> simp
    omega
theorem bytesOf_append (a b : List Int) : bytesOf (a ++ b) = bytesOf a ++ bytesOf b := by
  apply ByteArray.ext
  simp [bytesOf]
set_option maxHeartbeats 3200000 in
theorem refBytes_walk (A : Option Addr) (n c : Nat) (f : Nat → Int) (hn : n ≤ 4000) (hnc : n ≤ c) (w : World) (hR : RowI w 0 A n f) (hf : ∀ j, j < n → 0 ≤ f j ∧ f j ≤ 1) :
    Calls Try.prog 16 #[.slice A n c] w fun e w' => e = .returned (.string (bytesOf (stB n f ((n + 7) / 8)))) ∧ Below w.heap.size w w' := by
  have HR := Lib.hid hR; clear hR
  have HF := Lib.hid hf; clear hf
  go_enter Try.func16, Try.ntmps16
  go_wp2
  go_loopw [3, 4] (fun sv i wr => ∃ (q : Nat) (s : ByteArray), q ≤ (n + 7) / 8 ∧ i = .int .i64 (8 * (q : Int)) ∧ sv = .string s ∧ s.size ≤ 2 * q ∧ Hid (s = bytesOf (stB n f q)) ∧ Hid (Below w.heap.size w wr)) (fun _ i _ => 8000 - (intOf i).toNat)
  case atStart => exact ⟨0, ⟨#[]⟩, by omega, by first | rfl | simp, rfl, by decide, Lib.hid rfl, Lib.hid (Below.refl _ _)⟩
  case round =>
    obtain ⟨q, s, hq, rfl, rfl, hsz, hs, hb⟩ := hrel
    by_cases hlt : 8 * q < n
    · obtain ⟨wo, rfl⟩ : ∃ wo : World, wo = wr := ⟨_, rfl⟩
      have hdec : decide ((8 * (q : Int)) < (n : Int)) = true := by simp; omega
      go_wp2
      clear hdec
      go_loopw [5, 6, 7] (fun x k b wr => ∃ (j : Nat) (y : Int), j ≤ 8 ∧ k = .int .i64 (8 * (q : Int) + j) ∧ x = .int .i64 y ∧ 0 ≤ y ∧ y < 256 ∧ Hid (y = chunk n f (8 * q) j) ∧ wr = wo) (fun _ k _ _ => 8 * q + 8 - (intOf k).toNat)
      case atStart => exact ⟨0, 0, by omega, by first | rfl | simp, rfl, by decide, by decide, Lib.hid rfl, by first | rfl | trivial⟩
      case round =>
        obtain ⟨j, y, hj, rfl, rfl, hy0, hy1, hy, rfl⟩ := hrel
        by_cases hj8 : j < 8
        · have hcs := chunk_succ n f (8 * q) j
          rw [← hy.out] at hcs
          have hcr := chunk_range n f HF.out (8 * q) (j + 1)
          have hp := two_le (j + 1) 8 (by omega)
          have e8 : (2 : Int) ^ 8 = 256 := by decide
          rw [e8] at hp
          by_cases hin : 8 * q + j < n
          · obtain ⟨g, rfl, _, hgl, hcell⟩ := HR.out (8 * q + j) hin
            have hcw := (hb.out.cell (p := ⟨g, 8 * q + j, none⟩) hgl).trans hcell
            have hfb := HF.out (8 * q + j) hin
            rw [if_pos hin] at hcs
            have HCS := Lib.hid hcs
            obtain ⟨z, hz⟩ : ∃ z, z = f (8 * q + j) := ⟨_, rfl⟩
            rw [← hz] at hcw hfb hcs
            rw [hcs] at hcr
            have HZ := Lib.hid hz
            clear hcell hcs hz
            go_wp2
            exact ⟨⟨j + 1, y * 2 + z, by omega, by go_num, by go_num, by omega, by omega, Lib.hid (by rw [HCS.out, HZ.out]), by first | rfl | trivial⟩, by simp [intOf]; omega⟩
          · rw [if_neg hin] at hcs
            have HCS := Lib.hid hcs
            rw [hcs] at hcr
            clear hcs
            go_wp2
            exact ⟨⟨j + 1, y * 2 + 1, by omega, by go_num, by go_num, by omega, by omega, Lib.hid (by rw [HCS.out]), by first | rfl | trivial⟩, by simp [intOf]; omega⟩
        · obtain rfl : j = 8 := by omega
          have hym : y % 256 = y := by omega
          have hcv : (convert 56 9 (.slice (some ⟨wr.heap.size, 0, none⟩) 1 1)).run Try.prog (wr.alloc (.cells #[.int .u8 y] 5)) = .ok (.string (bytesOf [y])) (wr.alloc (.cells #[.int .u8 y] 5)) :=
            conv_own (ownU_made (l := [y]) (Blk.new wr 5 _) (Nat.zero_le _) rfl (by decide))
          have hs1 : (bytesOf [y]).size = 1 := by simp [bytesOf, ByteArray.size]
          have HS2 := Lib.hid (stB_succ n f q)
          by_cases hff : y = 255
          · subst hff
            go_wp2
            refine ⟨⟨q + 1, s ++ bytesOf [255] ++ ⟨#[0]⟩, by omega, by go_num, rfl, by rw [ByteArray.size_append, ByteArray.size_append, hs1]; show s.size + 1 + 1 ≤ _; omega, Lib.hid ?_, Lib.hid (hb.out.alloc hb.out.size _)⟩, by simp [intOf]; omega⟩
            rw [HS2.out, ← hy.out, bytesOf_append, ← hs.out, ByteArray.append_assoc]
            congr 1
          · have Hff := Lib.hid hff
            go_wp2
            refine ⟨⟨q + 1, s ++ bytesOf [y], by omega, by go_num, rfl, by rw [ByteArray.size_append, hs1]; omega, Lib.hid ?_, Lib.hid (hb.out.alloc hb.out.size _)⟩, by simp [intOf]; omega⟩
            rw [HS2.out, ← hy.out, bytesOf_append, ← hs.out, st, if_neg Hff.out]
    · have hqe : q = (n + 7) / 8 := by omega
      have hdec : decide ((8 * (q : Int)) < (n : Int)) = false := by simp; omega
      go_wp2
      go_ret
      rw [← hqe, ← hs.out]
      exact ⟨rfl, hb.out⟩
end Go.Proofs.Ytidockifeofgfaa

/- Every call of a cursor, in every order. No condition. -/
import Derived.Test.YtlfhojmdffkkhaaCurD
import Derived.Test.YtlfhojmdffkkhaaCurF
import Derived.Test.YtlfhojmdffkkhaaInS
import Derived.Test.YtlfhojmdffkkhaaReg
import Derived.ShutString
import Derived.ChangeOld
import Derived.SizedLaws
namespace Go.Proofs.Ytlfhojmdffkkhaa
open Go.RowKit
set_option linter.unusedSimpArgs false
set_option linter.unusedVariables false
def KA : Nat → IntKind := fun j => if j = 0 then .u8 else .i64
set_option maxHeartbeats 0 in
set_option maxRecDepth 20000 in
theorem plays_ok (s : ByteArray) (A : Option Addr) (n c : Nat) (f : Nat → Nat → Int) (hnc : n ≤ c) (hs : s.size ≤ 5000) (hn : n ≤ 100) (w : World) (hI : InS w A n 2 KA f) :
    Calls Try.prog 5 #[.string s, .slice A n c] w fun e w' => e = .returned (.bool true) ∧ Below w.heap.size w w' := by
  have HI := Lib.hid hI; clear hI
  have hg1 : decide ((5000 : Int) < (s.size : Int)) = false := by simp; omega
  have hg2 : decide ((100 : Int) < (n : Int)) = false := by simp; omega
  go_enter Try.func5, Try.ntmps5
  go_wp2_with (first | (go_at_call 11; refine (new_walk s _).mono ?_; rintro e w1 ⟨rfl, hC1, hb1, hz1⟩; have HC1 := Lib.hid hC1; have HB1 := Lib.hid hb1; clear hC1 hb1))
  have hne : w.heap.size ≠ w1.heap.size := Nat.ne_of_lt hz1
  have hle1 : w.heap.size ≤ w1.heap.size := Nat.le_of_lt hz1
  go_loopw [7] (fun i wr => ∃ k a : Nat, k ≤ n ∧ a ≤ s.size ∧ i = .int .i64 k ∧ Hid (Cur wr w.heap.size s a) ∧ Hid (Blk wr w1.heap.size 38 #[.string s, .int .i64 a]) ∧ Hid (Below w.heap.size w wr)) (fun i _ => n - (intOf i).toNat)
  case atStart => exact ⟨0, 0, by omega, Nat.zero_le _, rfl, Lib.hid (Blk.alloc HC1.out _), Lib.hid (Blk.new _ _ _), Lib.hid (HB1.out.alloc HB1.out.size _)⟩
  case round =>
    have hne' := hne.symm
    obtain ⟨k, a, hk, ha, rfl, hC, hM, hb⟩ := hrel
    have HC0 := hC; have HM0 := hM; have HB0 := hb
    by_cases hlt : k < n
    · obtain ⟨bb, off, rfl, hbl, hcell⟩ := HI.out k hlt
      have hq0 := hcell 0 (by decide)
      have hq1 := hcell 1 (by decide)
      obtain ⟨d, hd⟩ : ∃ d, d = f k 0 := ⟨_, rfl⟩
      obtain ⟨x, hx⟩ : ∃ x, x = f k 1 := ⟨_, rfl⟩
      rw [← hd] at hq0
      rw [← hx] at hq1
      have hdw : 0 ≤ d ∧ d < 256 := by have h := hq0.2; have hmin : IntKind.u8.min = 0 := rfl; have hmax : IntKind.u8.max = 255 := rfl; simp [KA, Lit.wf, hmin, hmax] at h; omega
      have hqa : wr.cell? ⟨bb, off + k * 2, none⟩ = some (.int .u8 d) := (hb.out.cell (p := ⟨bb, off + k * 2, none⟩) hbl).trans hq0.1
      have hqb : wr.cell? ⟨bb, off + k * 2 + 1, none⟩ = some (.int .i64 x) := (hb.out.cell (p := ⟨bb, off + (k * 2 + 1), none⟩) hbl).trans hq1.1
      clear hcell hq0 hq1 hx hd
      by_cases hA : (d % 5 = 0 ∨ d % 5 = 1) ∧ (x < 1 ∨ 4 < x)
      · obtain ⟨hd5, hxr⟩ := hA
        have hN : ∀ w g, Calls Try.prog 12 #[.pointer (some ⟨g, 0, none⟩), .int .i64 x] w fun e w' => e = .returned (.tuple #[.int .i64 0, .int .i64 1]) ∧ w = w' := fun w g => num_size _ x hxr w
        have HN := Lib.hid hN; clear hN
        have hbs := ha
        have hxq := hxr
        rcases hd5 with hd5 | hd5 <;> rcases hxr with hxr | hxr
        all_goals
          go_wp2_with (first | (go_at_call 12; refine (HN.out _ _).mono ?_; rintro e w3 ⟨rfl, rfl⟩))
          have HC9 := HC0; have HM9 := HM0; have HB9 := HB0
          have HCx : Hid (Cur wr w.heap.size s a) := HC9
          have hcx : wr.cell? ⟨w1.heap.size, 1, none⟩ = some (.int .i64 a) := Blk.cell HM9.out 1
          have hw1 : IntKind.i64.wrap ((s.size : Int) - a) = (s.size : Int) - a := by rw [IntKind.wrap_i64]; omega
          refine r_start (n := 15) (S := (fun w' => w'.cell? ⟨w1.heap.size, 1, none⟩ = some (.int .i64 a))) #[false, false, false, false, false, false, false, false, false, false, false, false, false, false, false] (by kernel_rfl) rfl rfl hcx (fun hHeld => ?_)
          refine r_take (i := 0) (N := some 177) (v := ?_) (a' := ?_) #[true, false, false, false, false, false, false, false, false, false, false, false, false, false, false] rfl rfl (by kernel_rfl) (fun _ _ _ h => h) hHeld (Or.inl ⟨by rfl, ?_⟩) ?_ ?_
          rotate_left
          · intro w' hSw
            (try dsimp only at hSw)
            go_simp
            try with_reducible rfl
          rotate_left
          · simp only [Act.put, List.setIfInBounds_toArray, List.set_cons_zero, List.set_cons_succ]
            rfl
          refine r_take (i := 2) (N := some 179) (v := ?_) (a' := ?_) #[true, false, true, false, false, false, false, false, false, false, false, false, false, false, false] rfl rfl (by kernel_rfl) (fun _ _ _ h => h) hHeld (Or.inl ⟨by rfl, ?_⟩) ?_ ?_
          rotate_left
          · intro w' hSw
            (try dsimp only at hSw)
            go_simp
            try with_reducible rfl
          rotate_left
          · simp only [Act.put, List.setIfInBounds_toArray, List.set_cons_zero, List.set_cons_succ]
            rfl
          refine r_take (i := 3) (N := some 180) (v := ?_) (a' := ?_) #[true, false, true, true, false, false, false, false, false, false, false, false, false, false, false] rfl rfl (by kernel_rfl) (fun _ _ _ h => h) hHeld (Or.inl ⟨by rfl, ?_⟩) ?_ ?_
          rotate_left
          · intro w' hSw
            (try dsimp only at hSw)
            go_simp
            try with_reducible rfl
          rotate_left
          · simp only [Act.put, List.setIfInBounds_toArray, List.set_cons_zero, List.set_cons_succ]
            rfl
          refine r_one (i := 1) (N := some 178) #[true, true, true, true, false, false, false, false, false, false, false, false, false, false, false] rfl rfl (by kernel_rfl) ?_
          refine r_call Try.func13 (by kernel_rfl) rfl #[.pointer (some ⟨w.heap.size, 0, none⟩)] (by rfl) rfl rfl (by simp only [List.map_toArray, List.map_cons, List.map_nil]; first | done | rfl) ?_
          with_reducible refine (at_walk _ w.heap.size a s (Cur.drew HCx.out)).mono ?_
          rintro e w8 ⟨rfl, rfl⟩
          refine ⟨_, rfl, hHeld, fun hHeld => ?_⟩
          try simp only [Act.put, List.setIfInBounds_toArray, List.set_cons_zero, List.set_cons_succ]
          refine r_take (i := 4) (N := some 181) (v := ?_) (a' := ?_) #[true, true, true, true, true, false, false, false, false, false, false, false, false, false, false] rfl rfl (by kernel_rfl) (fun _ _ _ h => h) hHeld (Or.inl ⟨by rfl, ?_⟩) ?_ ?_
          rotate_left
          · intro w' hSw
            (try dsimp only at hSw)
            go_simp
            try with_reducible rfl
          rotate_left
          · simp only [Act.put, List.setIfInBounds_toArray, List.set_cons_zero, List.set_cons_succ]
            rfl
          refine r_take (i := 5) (N := some 182) (v := ?_) (a' := ?_) #[true, true, true, true, true, true, false, false, false, false, false, false, false, false, false] rfl rfl (by kernel_rfl) (fun _ _ _ h => h) hHeld (Or.inl ⟨by rfl, ?_⟩) ?_ ?_
          rotate_left
          · intro w' hSw
            (try dsimp only at hSw)
            go_simp
            try with_reducible rfl
          rotate_left
          · simp only [Act.put, List.setIfInBounds_toArray, List.set_cons_zero, List.set_cons_succ]
            rfl
          refine r_take (i := 6) (N := some 183) (v := ?_) (a' := ?_) #[true, true, true, true, true, true, true, false, false, false, false, false, false, false, false] rfl rfl (by kernel_rfl) (fun _ _ _ h => h) hHeld (Or.inl ⟨by rfl, ?_⟩) ?_ ?_
          rotate_left
          · intro w' hSw
            (try dsimp only at hSw)
            go_simp
            try with_reducible rfl
          rotate_left
          · simp only [Act.put, List.setIfInBounds_toArray, List.set_cons_zero, List.set_cons_succ]
            rfl
          refine r_take (i := 8) (N := some 185) (v := ?_) (a' := ?_) #[true, true, true, true, true, true, true, false, true, false, false, false, false, false, false] rfl rfl (by kernel_rfl) (fun _ _ _ h => h) hHeld (Or.inl ⟨by rfl, ?_⟩) ?_ ?_
          rotate_left
          · intro w' hSw
            (try dsimp only at hSw)
            go_simp
            try with_reducible rfl
          rotate_left
          · simp only [Act.put, List.setIfInBounds_toArray, List.set_cons_zero, List.set_cons_succ]
            rfl
          refine r_take (i := 9) (N := some 186) (v := ?_) (a' := ?_) #[true, true, true, true, true, true, true, false, true, true, false, false, false, false, false] rfl rfl (by kernel_rfl) (fun _ _ _ h => h) hHeld (Or.inl ⟨by rfl, ?_⟩) ?_ ?_
          rotate_left
          · intro w' hSw
            (try dsimp only at hSw)
            go_simp
            try with_reducible rfl
          rotate_left
          · simp only [Act.put, List.setIfInBounds_toArray, List.set_cons_zero, List.set_cons_succ]
            rfl
          refine r_take (i := 10) (N := some 187) (v := ?_) (a' := ?_) #[true, true, true, true, true, true, true, false, true, true, true, false, false, false, false] rfl rfl (by kernel_rfl) (fun _ _ _ h => h) hHeld (Or.inl ⟨by rfl, ?_⟩) ?_ ?_
          rotate_left
          · intro w' hSw
            (try dsimp only at hSw)
            go_simp
            try with_reducible rfl
          rotate_left
          · simp only [Act.put, List.setIfInBounds_toArray, List.set_cons_zero, List.set_cons_succ]
            rfl
          refine r_take (i := 11) (N := some 188) (v := ?_) (a' := ?_) #[true, true, true, true, true, true, true, false, true, true, true, true, false, false, false] rfl rfl (by kernel_rfl) (fun _ _ _ h => h) hHeld (Or.inl ⟨by rfl, ?_⟩) ?_ ?_
          rotate_left
          · intro w' hSw
            (try dsimp only at hSw)
            go_simp
            try with_reducible rfl
          rotate_left
          · simp only [Act.put, List.setIfInBounds_toArray, List.set_cons_zero, List.set_cons_succ]
            rfl
          refine r_take (i := 12) (N := some 189) (v := ?_) (a' := ?_) #[true, true, true, true, true, true, true, false, true, true, true, true, true, false, false] rfl rfl (by kernel_rfl) (fun _ _ _ h => h) hHeld (Or.inl ⟨by rfl, ?_⟩) ?_ ?_
          rotate_left
          · intro w' hSw
            (try dsimp only at hSw)
            go_simp
            try with_reducible rfl
          rotate_left
          · simp only [Act.put, List.setIfInBounds_toArray, List.set_cons_zero, List.set_cons_succ]
            rfl
          refine r_one (i := 7) (N := some 184) #[true, true, true, true, true, true, true, true, true, true, true, true, true, false, false] rfl rfl (by kernel_rfl) ?_
          refine r_call Try.func14 (by kernel_rfl) rfl #[.pointer (some ⟨w.heap.size, 0, none⟩)] (by rfl) rfl rfl (by simp only [List.map_toArray, List.map_cons, List.map_nil]; first | done | rfl) ?_
          with_reducible refine (left_walk _ w.heap.size a s (by omega) hbs (Cur.drew HCx.out)).mono ?_
          rintro e w9 ⟨rfl, rfl⟩
          refine ⟨_, rfl, hHeld, fun hHeld => ?_⟩
          try simp only [Act.put, List.setIfInBounds_toArray, List.set_cons_zero, List.set_cons_succ]
          refine r_take (i := 13) (N := some 190) (v := ?_) (a' := ?_) #[true, true, true, true, true, true, true, true, true, true, true, true, true, true, false] rfl rfl (by kernel_rfl) (fun _ _ _ h => h) hHeld (Or.inl ⟨by rfl, ?_⟩) ?_ ?_
          rotate_left
          · intro w' hSw
            (try dsimp only at hSw)
            go_simp
            try with_reducible rfl
          rotate_left
          · simp only [Act.put, List.setIfInBounds_toArray, List.set_cons_zero, List.set_cons_succ]
            rfl
          refine r_take (i := 14) (N := some 191) (v := ?_) (a' := ?_) #[true, true, true, true, true, true, true, true, true, true, true, true, true, true, true] rfl rfl (by kernel_rfl) (fun _ _ _ h => h) hHeld (Or.inl ⟨by rfl, ?_⟩) ?_ ?_
          rotate_left
          · intro w' hSw
            (try dsimp only at hSw)
            go_simp
            try with_reducible rfl
          rotate_left
          · simp only [Act.put, List.setIfInBounds_toArray, List.set_cons_zero, List.set_cons_succ]
            rfl
          refine r_done (by kernel_rfl) ?_
          clear hw1
          go_wp2
          first | exact ⟨⟨k + 1, a, by omega, hbs, by go_num, Lib.hid (by first | exact HCx.out | exact Cur.drew (Cur.drew HCx.out)), Lib.hid (by first | exact HM9.out | exact Blk.drew (Blk.drew HM9.out)), Lib.hid (by first | exact HB9.out | exact HB9.out.drew.drew)⟩, by simp [intOf]; omega⟩ | (go_roundw; (case rel => exact ⟨k + 1, a, by omega, hbs, by go_num, Lib.hid (by first | exact HCx.out | exact Cur.drew (Cur.drew HCx.out)), Lib.hid (by first | exact HM9.out | exact Blk.drew (Blk.drew HM9.out)), Lib.hid (by first | exact HB9.out | exact HB9.out.drew.drew)⟩); (case measure => simp [intOf]; omega))
      by_cases hB : d % 5 = 0 ∨ d % 5 = 1
      · have hx1 : 1 ≤ x := by omega
        have hx4 : x ≤ 4 := by omega
        clear hA
        rcases hB with hd5 | hd5
        all_goals
          obtain ⟨T, b, e0, y, hbs, hN, hR, hY⟩ := num_both s a x hs ha (by omega) (by omega)
          have HN := Lib.hid hN; clear hN
          have HR := Lib.hid hR; clear hR
          have HY := Lib.hid hY; clear hY
          go_wp2_with (first | (go_at_call 12; refine (HN.out _ _ HC0.out).mono ?_; rintro e w3 ⟨rfl, hC3, ho3⟩; have HC3 := Lib.hid hC3; have HM3 : Hid (Blk w3 w1.heap.size 38 #[.string s, .int .i64 a]) := Lib.hid (ho3.blk HM0.out hne.symm); have HB3 := Lib.hid (HB0.out.trans (ho3.below (Nat.le_refl _) HB0.out.size)); clear hC3 ho3) | (go_at_call 15; refine (HR.out _).mono ?_; rintro e w4 ⟨rfl, hb4⟩; have HC4 : Hid (Cur w4 w.heap.size s b) := Lib.hid (HC3.out.bel hb4); have HM4 : Hid (Blk w4 w1.heap.size 38 #[.string s, .int .i64 a]) := Lib.hid (HM3.out.bel hb4); have HB4 := Lib.hid (HB3.out.trans (hb4.mono HB3.out.size)); clear hb4) | (go_at_call 16; refine (HY.out _).mono ?_; rintro e w6 ⟨rfl, rfl⟩) | (refine wpList_load_row rfl 38 (.tmp 6) rfl w1.heap.size rfl 38 #[.string s, .int .i64 a] (0, 0) _ HM0.out Try.underlying38 rfl (show _ = some 2 by kernel_rfl) ?_) | (refine wpList_load_row rfl 38 (.tmp 6) rfl w1.heap.size rfl 38 #[.string s, .int .i64 a] (0, 0) _ HM3.out Try.underlying38 rfl (show _ = some 2 by kernel_rfl) ?_) | (refine wpList_load_row rfl 38 (.tmp 12) rfl w4.heap.size rfl 38 #[.string s, .int .i64 b] (0, 0) _ (Blk.new w4 _ _) Try.underlying38 rfl (show _ = some 2 by kernel_rfl) ?_) | (refine wpList_store_far rfl 38 (.tmp 6) (.tmp 91) rfl w1.heap.size #[.string s, .int .i64 b] _ 38 rfl rfl (Blk.alloc HM4.out _) (show _ = some 2 by kernel_rfl) rfl (one2 _ _) ?_; intro w7 hM7 hF7 hB7; have HM9 := Lib.hid hM7; have HC9 : Hid (Cur w7 w.heap.size s b) := Lib.hid (hF7 _ _ _ hne (Blk.alloc HC4.out _)); have HB9 := Lib.hid (hB7 _ _ hle1 (HB4.out.alloc HB4.out.size _)); clear hM7 hF7 hB7))
          have HCx : Hid (Cur w7 w.heap.size s b) := HC9
          have hcx : w7.cell? ⟨w1.heap.size, 1, none⟩ = some (.int .i64 b) := Blk.cell HM9.out 1
          have hw1 : IntKind.i64.wrap ((s.size : Int) - b) = (s.size : Int) - b := by rw [IntKind.wrap_i64]; omega
          refine r_start (n := 15) (S := (fun w' => w'.cell? ⟨w1.heap.size, 1, none⟩ = some (.int .i64 b))) #[false, false, false, false, false, false, false, false, false, false, false, false, false, false, false] (by kernel_rfl) rfl rfl hcx (fun hHeld => ?_)
          refine r_take (i := 0) (N := some 177) (v := ?_) (a' := ?_) #[true, false, false, false, false, false, false, false, false, false, false, false, false, false, false] rfl rfl (by kernel_rfl) (fun _ _ _ h => h) hHeld (Or.inl ⟨by rfl, ?_⟩) ?_ ?_
          rotate_left
          · intro w' hSw
            (try dsimp only at hSw)
            go_simp
            try with_reducible rfl
          rotate_left
          · simp only [Act.put, List.setIfInBounds_toArray, List.set_cons_zero, List.set_cons_succ]
            rfl
          refine r_take (i := 2) (N := some 179) (v := ?_) (a' := ?_) #[true, false, true, false, false, false, false, false, false, false, false, false, false, false, false] rfl rfl (by kernel_rfl) (fun _ _ _ h => h) hHeld (Or.inl ⟨by rfl, ?_⟩) ?_ ?_
          rotate_left
          · intro w' hSw
            (try dsimp only at hSw)
            go_simp
            try with_reducible rfl
          rotate_left
          · simp only [Act.put, List.setIfInBounds_toArray, List.set_cons_zero, List.set_cons_succ]
            rfl
          refine r_take (i := 3) (N := some 180) (v := ?_) (a' := ?_) #[true, false, true, true, false, false, false, false, false, false, false, false, false, false, false] rfl rfl (by kernel_rfl) (fun _ _ _ h => h) hHeld (Or.inl ⟨by rfl, ?_⟩) ?_ ?_
          rotate_left
          · intro w' hSw
            (try dsimp only at hSw)
            go_simp
            try with_reducible rfl
          rotate_left
          · simp only [Act.put, List.setIfInBounds_toArray, List.set_cons_zero, List.set_cons_succ]
            rfl
          refine r_one (i := 1) (N := some 178) #[true, true, true, true, false, false, false, false, false, false, false, false, false, false, false] rfl rfl (by kernel_rfl) ?_
          refine r_call Try.func13 (by kernel_rfl) rfl #[.pointer (some ⟨w.heap.size, 0, none⟩)] (by rfl) rfl rfl (by simp only [List.map_toArray, List.map_cons, List.map_nil]; first | done | rfl) ?_
          with_reducible refine (at_walk _ w.heap.size b s (Cur.drew HCx.out)).mono ?_
          rintro e w8 ⟨rfl, rfl⟩
          refine ⟨_, rfl, hHeld, fun hHeld => ?_⟩
          try simp only [Act.put, List.setIfInBounds_toArray, List.set_cons_zero, List.set_cons_succ]
          refine r_take (i := 4) (N := some 181) (v := ?_) (a' := ?_) #[true, true, true, true, true, false, false, false, false, false, false, false, false, false, false] rfl rfl (by kernel_rfl) (fun _ _ _ h => h) hHeld (Or.inl ⟨by rfl, ?_⟩) ?_ ?_
          rotate_left
          · intro w' hSw
            (try dsimp only at hSw)
            go_simp
            try with_reducible rfl
          rotate_left
          · simp only [Act.put, List.setIfInBounds_toArray, List.set_cons_zero, List.set_cons_succ]
            rfl
          refine r_take (i := 5) (N := some 182) (v := ?_) (a' := ?_) #[true, true, true, true, true, true, false, false, false, false, false, false, false, false, false] rfl rfl (by kernel_rfl) (fun _ _ _ h => h) hHeld (Or.inl ⟨by rfl, ?_⟩) ?_ ?_
          rotate_left
          · intro w' hSw
            (try dsimp only at hSw)
            go_simp
            try with_reducible rfl
          rotate_left
          · simp only [Act.put, List.setIfInBounds_toArray, List.set_cons_zero, List.set_cons_succ]
            rfl
          refine r_take (i := 6) (N := some 183) (v := ?_) (a' := ?_) #[true, true, true, true, true, true, true, false, false, false, false, false, false, false, false] rfl rfl (by kernel_rfl) (fun _ _ _ h => h) hHeld (Or.inl ⟨by rfl, ?_⟩) ?_ ?_
          rotate_left
          · intro w' hSw
            (try dsimp only at hSw)
            go_simp
            try with_reducible rfl
          rotate_left
          · simp only [Act.put, List.setIfInBounds_toArray, List.set_cons_zero, List.set_cons_succ]
            rfl
          refine r_take (i := 8) (N := some 185) (v := ?_) (a' := ?_) #[true, true, true, true, true, true, true, false, true, false, false, false, false, false, false] rfl rfl (by kernel_rfl) (fun _ _ _ h => h) hHeld (Or.inl ⟨by rfl, ?_⟩) ?_ ?_
          rotate_left
          · intro w' hSw
            (try dsimp only at hSw)
            go_simp
            try with_reducible rfl
          rotate_left
          · simp only [Act.put, List.setIfInBounds_toArray, List.set_cons_zero, List.set_cons_succ]
            rfl
          refine r_take (i := 9) (N := some 186) (v := ?_) (a' := ?_) #[true, true, true, true, true, true, true, false, true, true, false, false, false, false, false] rfl rfl (by kernel_rfl) (fun _ _ _ h => h) hHeld (Or.inl ⟨by rfl, ?_⟩) ?_ ?_
          rotate_left
          · intro w' hSw
            (try dsimp only at hSw)
            go_simp
            try with_reducible rfl
          rotate_left
          · simp only [Act.put, List.setIfInBounds_toArray, List.set_cons_zero, List.set_cons_succ]
            rfl
          refine r_take (i := 10) (N := some 187) (v := ?_) (a' := ?_) #[true, true, true, true, true, true, true, false, true, true, true, false, false, false, false] rfl rfl (by kernel_rfl) (fun _ _ _ h => h) hHeld (Or.inl ⟨by rfl, ?_⟩) ?_ ?_
          rotate_left
          · intro w' hSw
            (try dsimp only at hSw)
            go_simp
            try with_reducible rfl
          rotate_left
          · simp only [Act.put, List.setIfInBounds_toArray, List.set_cons_zero, List.set_cons_succ]
            rfl
          refine r_take (i := 11) (N := some 188) (v := ?_) (a' := ?_) #[true, true, true, true, true, true, true, false, true, true, true, true, false, false, false] rfl rfl (by kernel_rfl) (fun _ _ _ h => h) hHeld (Or.inl ⟨by rfl, ?_⟩) ?_ ?_
          rotate_left
          · intro w' hSw
            (try dsimp only at hSw)
            go_simp
            try with_reducible rfl
          rotate_left
          · simp only [Act.put, List.setIfInBounds_toArray, List.set_cons_zero, List.set_cons_succ]
            rfl
          refine r_take (i := 12) (N := some 189) (v := ?_) (a' := ?_) #[true, true, true, true, true, true, true, false, true, true, true, true, true, false, false] rfl rfl (by kernel_rfl) (fun _ _ _ h => h) hHeld (Or.inl ⟨by rfl, ?_⟩) ?_ ?_
          rotate_left
          · intro w' hSw
            (try dsimp only at hSw)
            go_simp
            try with_reducible rfl
          rotate_left
          · simp only [Act.put, List.setIfInBounds_toArray, List.set_cons_zero, List.set_cons_succ]
            rfl
          refine r_one (i := 7) (N := some 184) #[true, true, true, true, true, true, true, true, true, true, true, true, true, false, false] rfl rfl (by kernel_rfl) ?_
          refine r_call Try.func14 (by kernel_rfl) rfl #[.pointer (some ⟨w.heap.size, 0, none⟩)] (by rfl) rfl rfl (by simp only [List.map_toArray, List.map_cons, List.map_nil]; first | done | rfl) ?_
          with_reducible refine (left_walk _ w.heap.size b s (by omega) hbs (Cur.drew HCx.out)).mono ?_
          rintro e w9 ⟨rfl, rfl⟩
          refine ⟨_, rfl, hHeld, fun hHeld => ?_⟩
          try simp only [Act.put, List.setIfInBounds_toArray, List.set_cons_zero, List.set_cons_succ]
          refine r_take (i := 13) (N := some 190) (v := ?_) (a' := ?_) #[true, true, true, true, true, true, true, true, true, true, true, true, true, true, false] rfl rfl (by kernel_rfl) (fun _ _ _ h => h) hHeld (Or.inl ⟨by rfl, ?_⟩) ?_ ?_
          rotate_left
          · intro w' hSw
            (try dsimp only at hSw)
            go_simp
            try with_reducible rfl
          rotate_left
          · simp only [Act.put, List.setIfInBounds_toArray, List.set_cons_zero, List.set_cons_succ]
            rfl
          refine r_take (i := 14) (N := some 191) (v := ?_) (a' := ?_) #[true, true, true, true, true, true, true, true, true, true, true, true, true, true, true] rfl rfl (by kernel_rfl) (fun _ _ _ h => h) hHeld (Or.inl ⟨by rfl, ?_⟩) ?_ ?_
          rotate_left
          · intro w' hSw
            (try dsimp only at hSw)
            go_simp
            try with_reducible rfl
          rotate_left
          · simp only [Act.put, List.setIfInBounds_toArray, List.set_cons_zero, List.set_cons_succ]
            rfl
          refine r_done (by kernel_rfl) ?_
          clear hw1
          go_wp2
          first | exact ⟨⟨k + 1, b, by omega, hbs, by go_num, Lib.hid (by first | exact HCx.out | exact Cur.drew (Cur.drew HCx.out)), Lib.hid (by first | exact HM9.out | exact Blk.drew (Blk.drew HM9.out)), Lib.hid (by first | exact HB9.out | exact HB9.out.drew.drew)⟩, by simp [intOf]; omega⟩ | (go_roundw; (case rel => exact ⟨k + 1, b, by omega, hbs, by go_num, Lib.hid (by first | exact HCx.out | exact Cur.drew (Cur.drew HCx.out)), Lib.hid (by first | exact HM9.out | exact Blk.drew (Blk.drew HM9.out)), Lib.hid (by first | exact HB9.out | exact HB9.out.drew.drew)⟩); (case measure => simp [intOf]; omega))
      by_cases h2 : d % 5 = 2
      · clear hA hB
        obtain ⟨T, b, e0, hbs, hN, hR⟩ := take_both s a x hs ha
        have HN := Lib.hid hN; clear hN
        have HR := Lib.hid hR; clear hR
        go_wp2_with (first | (go_at_call 17; refine (HN.out _ _ HC0.out).mono ?_; rintro e w3 ⟨rfl, hC3, ho3⟩; have HC3 := Lib.hid hC3; have HM3 : Hid (Blk w3 w1.heap.size 38 #[.string s, .int .i64 a]) := Lib.hid (ho3.blk HM0.out hne.symm); have HB3 := Lib.hid (HB0.out.trans (ho3.below (Nat.le_refl _) HB0.out.size)); clear hC3 ho3) | (go_at_call 15; refine (HR.out _).mono ?_; rintro e w4 ⟨rfl, hb4⟩; have HC4 : Hid (Cur w4 w.heap.size s b) := Lib.hid (HC3.out.bel hb4); have HM4 : Hid (Blk w4 w1.heap.size 38 #[.string s, .int .i64 a]) := Lib.hid (HM3.out.bel hb4); have HB4 := Lib.hid (HB3.out.trans (hb4.mono HB3.out.size)); clear hb4) | (refine wpList_load_row rfl 38 (.tmp 6) rfl w1.heap.size rfl 38 #[.string s, .int .i64 a] (0, 0) _ HM3.out Try.underlying38 rfl (show _ = some 2 by kernel_rfl) ?_) | (refine wpList_load_row rfl 38 (.tmp 17) rfl w4.heap.size rfl 38 #[.string s, .int .i64 b] (0, 0) _ (Blk.new w4 _ _) Try.underlying38 rfl (show _ = some 2 by kernel_rfl) ?_) | (refine wpList_store_far rfl 38 (.tmp 6) (.tmp 115) rfl w1.heap.size #[.string s, .int .i64 b] _ 38 rfl rfl (Blk.alloc HM4.out _) (show _ = some 2 by kernel_rfl) rfl (one2 _ _) ?_; intro w7 hM7 hF7 hB7; have HM9 := Lib.hid hM7; have HC9 : Hid (Cur w7 w.heap.size s b) := Lib.hid (hF7 _ _ _ hne (Blk.alloc HC4.out _)); have HB9 := Lib.hid (hB7 _ _ hle1 (HB4.out.alloc HB4.out.size _)); clear hM7 hF7 hB7))
        have HCx : Hid (Cur w7 w.heap.size s b) := HC9
        have hcx : w7.cell? ⟨w1.heap.size, 1, none⟩ = some (.int .i64 b) := Blk.cell HM9.out 1
        have hw1 : IntKind.i64.wrap ((s.size : Int) - b) = (s.size : Int) - b := by rw [IntKind.wrap_i64]; omega
        refine r_start (n := 15) (S := (fun w' => w'.cell? ⟨w1.heap.size, 1, none⟩ = some (.int .i64 b))) #[false, false, false, false, false, false, false, false, false, false, false, false, false, false, false] (by kernel_rfl) rfl rfl hcx (fun hHeld => ?_)
        refine r_take (i := 0) (N := some 177) (v := ?_) (a' := ?_) #[true, false, false, false, false, false, false, false, false, false, false, false, false, false, false] rfl rfl (by kernel_rfl) (fun _ _ _ h => h) hHeld (Or.inl ⟨by rfl, ?_⟩) ?_ ?_
        rotate_left
        · intro w' hSw
          (try dsimp only at hSw)
          go_simp
          try with_reducible rfl
        rotate_left
        · simp only [Act.put, List.setIfInBounds_toArray, List.set_cons_zero, List.set_cons_succ]
          rfl
        refine r_take (i := 2) (N := some 179) (v := ?_) (a' := ?_) #[true, false, true, false, false, false, false, false, false, false, false, false, false, false, false] rfl rfl (by kernel_rfl) (fun _ _ _ h => h) hHeld (Or.inl ⟨by rfl, ?_⟩) ?_ ?_
        rotate_left
        · intro w' hSw
          (try dsimp only at hSw)
          go_simp
          try with_reducible rfl
        rotate_left
        · simp only [Act.put, List.setIfInBounds_toArray, List.set_cons_zero, List.set_cons_succ]
          rfl
        refine r_take (i := 3) (N := some 180) (v := ?_) (a' := ?_) #[true, false, true, true, false, false, false, false, false, false, false, false, false, false, false] rfl rfl (by kernel_rfl) (fun _ _ _ h => h) hHeld (Or.inl ⟨by rfl, ?_⟩) ?_ ?_
        rotate_left
        · intro w' hSw
          (try dsimp only at hSw)
          go_simp
          try with_reducible rfl
        rotate_left
        · simp only [Act.put, List.setIfInBounds_toArray, List.set_cons_zero, List.set_cons_succ]
          rfl
        refine r_one (i := 1) (N := some 178) #[true, true, true, true, false, false, false, false, false, false, false, false, false, false, false] rfl rfl (by kernel_rfl) ?_
        refine r_call Try.func13 (by kernel_rfl) rfl #[.pointer (some ⟨w.heap.size, 0, none⟩)] (by rfl) rfl rfl (by simp only [List.map_toArray, List.map_cons, List.map_nil]; first | done | rfl) ?_
        with_reducible refine (at_walk _ w.heap.size b s (Cur.drew HCx.out)).mono ?_
        rintro e w8 ⟨rfl, rfl⟩
        refine ⟨_, rfl, hHeld, fun hHeld => ?_⟩
        try simp only [Act.put, List.setIfInBounds_toArray, List.set_cons_zero, List.set_cons_succ]
        refine r_take (i := 4) (N := some 181) (v := ?_) (a' := ?_) #[true, true, true, true, true, false, false, false, false, false, false, false, false, false, false] rfl rfl (by kernel_rfl) (fun _ _ _ h => h) hHeld (Or.inl ⟨by rfl, ?_⟩) ?_ ?_
        rotate_left
        · intro w' hSw
          (try dsimp only at hSw)
          go_simp
          try with_reducible rfl
        rotate_left
        · simp only [Act.put, List.setIfInBounds_toArray, List.set_cons_zero, List.set_cons_succ]
          rfl
        refine r_take (i := 5) (N := some 182) (v := ?_) (a' := ?_) #[true, true, true, true, true, true, false, false, false, false, false, false, false, false, false] rfl rfl (by kernel_rfl) (fun _ _ _ h => h) hHeld (Or.inl ⟨by rfl, ?_⟩) ?_ ?_
        rotate_left
        · intro w' hSw
          (try dsimp only at hSw)
          go_simp
          try with_reducible rfl
        rotate_left
        · simp only [Act.put, List.setIfInBounds_toArray, List.set_cons_zero, List.set_cons_succ]
          rfl
        refine r_take (i := 6) (N := some 183) (v := ?_) (a' := ?_) #[true, true, true, true, true, true, true, false, false, false, false, false, false, false, false] rfl rfl (by kernel_rfl) (fun _ _ _ h => h) hHeld (Or.inl ⟨by rfl, ?_⟩) ?_ ?_
        rotate_left
        · intro w' hSw
          (try dsimp only at hSw)
          go_simp
          try with_reducible rfl
        rotate_left
        · simp only [Act.put, List.setIfInBounds_toArray, List.set_cons_zero, List.set_cons_succ]
          rfl
        refine r_take (i := 8) (N := some 185) (v := ?_) (a' := ?_) #[true, true, true, true, true, true, true, false, true, false, false, false, false, false, false] rfl rfl (by kernel_rfl) (fun _ _ _ h => h) hHeld (Or.inl ⟨by rfl, ?_⟩) ?_ ?_
        rotate_left
        · intro w' hSw
          (try dsimp only at hSw)
          go_simp
          try with_reducible rfl
        rotate_left
        · simp only [Act.put, List.setIfInBounds_toArray, List.set_cons_zero, List.set_cons_succ]
          rfl
        refine r_take (i := 9) (N := some 186) (v := ?_) (a' := ?_) #[true, true, true, true, true, true, true, false, true, true, false, false, false, false, false] rfl rfl (by kernel_rfl) (fun _ _ _ h => h) hHeld (Or.inl ⟨by rfl, ?_⟩) ?_ ?_
        rotate_left
        · intro w' hSw
          (try dsimp only at hSw)
          go_simp
          try with_reducible rfl
        rotate_left
        · simp only [Act.put, List.setIfInBounds_toArray, List.set_cons_zero, List.set_cons_succ]
          rfl
        refine r_take (i := 10) (N := some 187) (v := ?_) (a' := ?_) #[true, true, true, true, true, true, true, false, true, true, true, false, false, false, false] rfl rfl (by kernel_rfl) (fun _ _ _ h => h) hHeld (Or.inl ⟨by rfl, ?_⟩) ?_ ?_
        rotate_left
        · intro w' hSw
          (try dsimp only at hSw)
          go_simp
          try with_reducible rfl
        rotate_left
        · simp only [Act.put, List.setIfInBounds_toArray, List.set_cons_zero, List.set_cons_succ]
          rfl
        refine r_take (i := 11) (N := some 188) (v := ?_) (a' := ?_) #[true, true, true, true, true, true, true, false, true, true, true, true, false, false, false] rfl rfl (by kernel_rfl) (fun _ _ _ h => h) hHeld (Or.inl ⟨by rfl, ?_⟩) ?_ ?_
        rotate_left
        · intro w' hSw
          (try dsimp only at hSw)
          go_simp
          try with_reducible rfl
        rotate_left
        · simp only [Act.put, List.setIfInBounds_toArray, List.set_cons_zero, List.set_cons_succ]
          rfl
        refine r_take (i := 12) (N := some 189) (v := ?_) (a' := ?_) #[true, true, true, true, true, true, true, false, true, true, true, true, true, false, false] rfl rfl (by kernel_rfl) (fun _ _ _ h => h) hHeld (Or.inl ⟨by rfl, ?_⟩) ?_ ?_
        rotate_left
        · intro w' hSw
          (try dsimp only at hSw)
          go_simp
          try with_reducible rfl
        rotate_left
        · simp only [Act.put, List.setIfInBounds_toArray, List.set_cons_zero, List.set_cons_succ]
          rfl
        refine r_one (i := 7) (N := some 184) #[true, true, true, true, true, true, true, true, true, true, true, true, true, false, false] rfl rfl (by kernel_rfl) ?_
        refine r_call Try.func14 (by kernel_rfl) rfl #[.pointer (some ⟨w.heap.size, 0, none⟩)] (by rfl) rfl rfl (by simp only [List.map_toArray, List.map_cons, List.map_nil]; first | done | rfl) ?_
        with_reducible refine (left_walk _ w.heap.size b s (by omega) hbs (Cur.drew HCx.out)).mono ?_
        rintro e w9 ⟨rfl, rfl⟩
        refine ⟨_, rfl, hHeld, fun hHeld => ?_⟩
        try simp only [Act.put, List.setIfInBounds_toArray, List.set_cons_zero, List.set_cons_succ]
        refine r_take (i := 13) (N := some 190) (v := ?_) (a' := ?_) #[true, true, true, true, true, true, true, true, true, true, true, true, true, true, false] rfl rfl (by kernel_rfl) (fun _ _ _ h => h) hHeld (Or.inl ⟨by rfl, ?_⟩) ?_ ?_
        rotate_left
        · intro w' hSw
          (try dsimp only at hSw)
          go_simp
          try with_reducible rfl
        rotate_left
        · simp only [Act.put, List.setIfInBounds_toArray, List.set_cons_zero, List.set_cons_succ]
          rfl
        refine r_take (i := 14) (N := some 191) (v := ?_) (a' := ?_) #[true, true, true, true, true, true, true, true, true, true, true, true, true, true, true] rfl rfl (by kernel_rfl) (fun _ _ _ h => h) hHeld (Or.inl ⟨by rfl, ?_⟩) ?_ ?_
        rotate_left
        · intro w' hSw
          (try dsimp only at hSw)
          go_simp
          try with_reducible rfl
        rotate_left
        · simp only [Act.put, List.setIfInBounds_toArray, List.set_cons_zero, List.set_cons_succ]
          rfl
        refine r_done (by kernel_rfl) ?_
        clear hw1
        go_wp2
        first | exact ⟨⟨k + 1, b, by omega, hbs, by go_num, Lib.hid (by first | exact HCx.out | exact Cur.drew (Cur.drew HCx.out)), Lib.hid (by first | exact HM9.out | exact Blk.drew (Blk.drew HM9.out)), Lib.hid (by first | exact HB9.out | exact HB9.out.drew.drew)⟩, by simp [intOf]; omega⟩ | (go_roundw; (case rel => exact ⟨k + 1, b, by omega, hbs, by go_num, Lib.hid (by first | exact HCx.out | exact Cur.drew (Cur.drew HCx.out)), Lib.hid (by first | exact HM9.out | exact Blk.drew (Blk.drew HM9.out)), Lib.hid (by first | exact HB9.out | exact HB9.out.drew.drew)⟩); (case measure => simp [intOf]; omega))
      by_cases h3 : d % 5 = 3
      · clear hA hB h2
        rcases sub_both s a x hs ha with ⟨T, b, hbs, hT, hN, hR⟩ | ⟨e0, he0, hN, hR⟩
        · skip
          have HN := Lib.hid hN; clear hN
          have HR := Lib.hid hR; clear hR
          have hTe : T.extract 0 T.size = T := by apply ByteArray.ext; simp
          have hTe2 : (!(T.extract 0 T.size).toList == T.toList) = false := by rw [hTe]; simp
          clear hTe
          go_wp2_with (first | (go_at_call 18; refine (HN.out _ _ HC0.out).mono ?_; rintro e w3 ⟨g2, rfl, hC3, hG3, hg2, ho3⟩; have HC3 := Lib.hid hC3; have HG3 := Lib.hid hG3; have HM3 : Hid (Blk w3 w1.heap.size 38 #[.string s, .int .i64 a]) := Lib.hid (ho3.blk HM0.out hne.symm); have HB3 := Lib.hid (HB0.out.trans (ho3.below (Nat.le_refl _) HB0.out.size)); have hgc : w.heap.size ≠ g2 := Nat.ne_of_lt (Nat.lt_of_lt_of_le HC0.out.lt hg2); have hgm : w1.heap.size ≠ g2 := Nat.ne_of_lt (Nat.lt_of_lt_of_le HM0.out.lt hg2); have hgl : w.heap.size ≤ g2 := Nat.le_trans HB0.out.size hg2; clear hC3 hG3 ho3) | (go_at_call 15; refine (HR.out _).mono ?_; rintro e w4 ⟨rfl, hb4⟩; have HC4 : Hid (Cur w4 w.heap.size s b) := Lib.hid (HC3.out.bel hb4); have HG4 : Hid (Cur w4 g2 T 0) := Lib.hid (HG3.out.bel hb4); have HM4 : Hid (Blk w4 w1.heap.size 38 #[.string s, .int .i64 a]) := Lib.hid (HM3.out.bel hb4); have HB4 := Lib.hid (HB3.out.trans (hb4.mono HB3.out.size)); clear hb4) | (go_at_call 14; refine (left_walk _ g2 T.size T (by omega) (Nat.le_refl _) HG6.out).mono ?_; rintro e w10 ⟨rfl, rfl⟩) | (go_at_call 14; refine (left_walk _ g2 0 T (by omega) (Nat.zero_le _) (Cur.alloc HG4.out _)).mono ?_; rintro e w6 ⟨rfl, rfl⟩) | (go_at_call 13; refine (at_walk _ g2 0 T ((Cur.drew (Cur.alloc HG4.out _)))).mono ?_; rintro e w6 ⟨rfl, rfl⟩) | (go_at_call 19; refine (rest_walk _ g2 0 T (by omega) (Nat.zero_le _) ((Cur.drew (Cur.alloc HG4.out _)))).mono ?_; rintro e w6 ⟨rfl, hG6, ho6⟩; have HG6 := Lib.hid hG6; have HC6 : Hid (Cur w6 w.heap.size s b) := Lib.hid (ho6.blk (Cur.drew (Cur.alloc HC4.out _)) hgc); have HM6 : Hid (Blk w6 w1.heap.size 38 #[.string s, .int .i64 a]) := Lib.hid (ho6.blk (Blk.drew (Blk.alloc HM4.out _)) hgm); have HK6 : Hid (Blk w6 w4.heap.size 38 #[.string s, .int .i64 b]) := Lib.hid (ho6.blk (Blk.drew (Blk.new w4 _ _)) (Nat.ne_of_gt HG4.out.lt)); have HB6 := Lib.hid (((HB4.out.alloc HB4.out.size _).drew).trans (ho6.below hgl ((HB4.out.alloc HB4.out.size _).drew).size)); clear hG6 ho6) | (refine wpList_load_row rfl 38 (.tmp 6) rfl w1.heap.size rfl 38 #[.string s, .int .i64 a] (0, 0) _ HM3.out Try.underlying38 rfl (show _ = some 2 by kernel_rfl) ?_) | (refine wpList_load_row rfl 38 (.tmp 22) rfl w4.heap.size rfl 38 #[.string s, .int .i64 b] (0, 0) _ (Blk.drew HK6.out) Try.underlying38 rfl (show _ = some 2 by kernel_rfl) ?_) | (refine wpList_store_far rfl 38 (.tmp 6) (.tmp 164) rfl w1.heap.size #[.string s, .int .i64 b] _ 38 rfl rfl (Blk.drew HM6.out) (show _ = some 2 by kernel_rfl) rfl (one2 _ _) ?_; intro w7 hM7 hF7 hB7; have HM9 := Lib.hid hM7; have HC9 : Hid (Cur w7 w.heap.size s b) := Lib.hid (hF7 _ _ _ hne (Cur.drew HC6.out)); have HB9 := Lib.hid (hB7 _ _ hle1 HB6.out.drew); clear hM7 hF7 hB7))
          have HCx : Hid (Cur w7 w.heap.size s b) := HC9
          have hcx : w7.cell? ⟨w1.heap.size, 1, none⟩ = some (.int .i64 b) := Blk.cell HM9.out 1
          have hw1 : IntKind.i64.wrap ((s.size : Int) - b) = (s.size : Int) - b := by rw [IntKind.wrap_i64]; omega
          refine r_start (n := 15) (S := (fun w' => w'.cell? ⟨w1.heap.size, 1, none⟩ = some (.int .i64 b))) #[false, false, false, false, false, false, false, false, false, false, false, false, false, false, false] (by kernel_rfl) rfl rfl hcx (fun hHeld => ?_)
          refine r_take (i := 0) (N := some 177) (v := ?_) (a' := ?_) #[true, false, false, false, false, false, false, false, false, false, false, false, false, false, false] rfl rfl (by kernel_rfl) (fun _ _ _ h => h) hHeld (Or.inl ⟨by rfl, ?_⟩) ?_ ?_
          rotate_left
          · intro w' hSw
            (try dsimp only at hSw)
            go_simp
            try with_reducible rfl
          rotate_left
          · simp only [Act.put, List.setIfInBounds_toArray, List.set_cons_zero, List.set_cons_succ]
            rfl
          refine r_take (i := 2) (N := some 179) (v := ?_) (a' := ?_) #[true, false, true, false, false, false, false, false, false, false, false, false, false, false, false] rfl rfl (by kernel_rfl) (fun _ _ _ h => h) hHeld (Or.inl ⟨by rfl, ?_⟩) ?_ ?_
          rotate_left
          · intro w' hSw
            (try dsimp only at hSw)
            go_simp
            try with_reducible rfl
          rotate_left
          · simp only [Act.put, List.setIfInBounds_toArray, List.set_cons_zero, List.set_cons_succ]
            rfl
          refine r_take (i := 3) (N := some 180) (v := ?_) (a' := ?_) #[true, false, true, true, false, false, false, false, false, false, false, false, false, false, false] rfl rfl (by kernel_rfl) (fun _ _ _ h => h) hHeld (Or.inl ⟨by rfl, ?_⟩) ?_ ?_
          rotate_left
          · intro w' hSw
            (try dsimp only at hSw)
            go_simp
            try with_reducible rfl
          rotate_left
          · simp only [Act.put, List.setIfInBounds_toArray, List.set_cons_zero, List.set_cons_succ]
            rfl
          refine r_one (i := 1) (N := some 178) #[true, true, true, true, false, false, false, false, false, false, false, false, false, false, false] rfl rfl (by kernel_rfl) ?_
          refine r_call Try.func13 (by kernel_rfl) rfl #[.pointer (some ⟨w.heap.size, 0, none⟩)] (by rfl) rfl rfl (by simp only [List.map_toArray, List.map_cons, List.map_nil]; first | done | rfl) ?_
          with_reducible refine (at_walk _ w.heap.size b s (Cur.drew HCx.out)).mono ?_
          rintro e w8 ⟨rfl, rfl⟩
          refine ⟨_, rfl, hHeld, fun hHeld => ?_⟩
          try simp only [Act.put, List.setIfInBounds_toArray, List.set_cons_zero, List.set_cons_succ]
          refine r_take (i := 4) (N := some 181) (v := ?_) (a' := ?_) #[true, true, true, true, true, false, false, false, false, false, false, false, false, false, false] rfl rfl (by kernel_rfl) (fun _ _ _ h => h) hHeld (Or.inl ⟨by rfl, ?_⟩) ?_ ?_
          rotate_left
          · intro w' hSw
            (try dsimp only at hSw)
            go_simp
            try with_reducible rfl
          rotate_left
          · simp only [Act.put, List.setIfInBounds_toArray, List.set_cons_zero, List.set_cons_succ]
            rfl
          refine r_take (i := 5) (N := some 182) (v := ?_) (a' := ?_) #[true, true, true, true, true, true, false, false, false, false, false, false, false, false, false] rfl rfl (by kernel_rfl) (fun _ _ _ h => h) hHeld (Or.inl ⟨by rfl, ?_⟩) ?_ ?_
          rotate_left
          · intro w' hSw
            (try dsimp only at hSw)
            go_simp
            try with_reducible rfl
          rotate_left
          · simp only [Act.put, List.setIfInBounds_toArray, List.set_cons_zero, List.set_cons_succ]
            rfl
          refine r_take (i := 6) (N := some 183) (v := ?_) (a' := ?_) #[true, true, true, true, true, true, true, false, false, false, false, false, false, false, false] rfl rfl (by kernel_rfl) (fun _ _ _ h => h) hHeld (Or.inl ⟨by rfl, ?_⟩) ?_ ?_
          rotate_left
          · intro w' hSw
            (try dsimp only at hSw)
            go_simp
            try with_reducible rfl
          rotate_left
          · simp only [Act.put, List.setIfInBounds_toArray, List.set_cons_zero, List.set_cons_succ]
            rfl
          refine r_take (i := 8) (N := some 185) (v := ?_) (a' := ?_) #[true, true, true, true, true, true, true, false, true, false, false, false, false, false, false] rfl rfl (by kernel_rfl) (fun _ _ _ h => h) hHeld (Or.inl ⟨by rfl, ?_⟩) ?_ ?_
          rotate_left
          · intro w' hSw
            (try dsimp only at hSw)
            go_simp
            try with_reducible rfl
          rotate_left
          · simp only [Act.put, List.setIfInBounds_toArray, List.set_cons_zero, List.set_cons_succ]
            rfl
          refine r_take (i := 9) (N := some 186) (v := ?_) (a' := ?_) #[true, true, true, true, true, true, true, false, true, true, false, false, false, false, false] rfl rfl (by kernel_rfl) (fun _ _ _ h => h) hHeld (Or.inl ⟨by rfl, ?_⟩) ?_ ?_
          rotate_left
          · intro w' hSw
            (try dsimp only at hSw)
            go_simp
            try with_reducible rfl
          rotate_left
          · simp only [Act.put, List.setIfInBounds_toArray, List.set_cons_zero, List.set_cons_succ]
            rfl
          refine r_take (i := 10) (N := some 187) (v := ?_) (a' := ?_) #[true, true, true, true, true, true, true, false, true, true, true, false, false, false, false] rfl rfl (by kernel_rfl) (fun _ _ _ h => h) hHeld (Or.inl ⟨by rfl, ?_⟩) ?_ ?_
          rotate_left
          · intro w' hSw
            (try dsimp only at hSw)
            go_simp
            try with_reducible rfl
          rotate_left
          · simp only [Act.put, List.setIfInBounds_toArray, List.set_cons_zero, List.set_cons_succ]
            rfl
          refine r_take (i := 11) (N := some 188) (v := ?_) (a' := ?_) #[true, true, true, true, true, true, true, false, true, true, true, true, false, false, false] rfl rfl (by kernel_rfl) (fun _ _ _ h => h) hHeld (Or.inl ⟨by rfl, ?_⟩) ?_ ?_
          rotate_left
          · intro w' hSw
            (try dsimp only at hSw)
            go_simp
            try with_reducible rfl
          rotate_left
          · simp only [Act.put, List.setIfInBounds_toArray, List.set_cons_zero, List.set_cons_succ]
            rfl
          refine r_take (i := 12) (N := some 189) (v := ?_) (a' := ?_) #[true, true, true, true, true, true, true, false, true, true, true, true, true, false, false] rfl rfl (by kernel_rfl) (fun _ _ _ h => h) hHeld (Or.inl ⟨by rfl, ?_⟩) ?_ ?_
          rotate_left
          · intro w' hSw
            (try dsimp only at hSw)
            go_simp
            try with_reducible rfl
          rotate_left
          · simp only [Act.put, List.setIfInBounds_toArray, List.set_cons_zero, List.set_cons_succ]
            rfl
          refine r_one (i := 7) (N := some 184) #[true, true, true, true, true, true, true, true, true, true, true, true, true, false, false] rfl rfl (by kernel_rfl) ?_
          refine r_call Try.func14 (by kernel_rfl) rfl #[.pointer (some ⟨w.heap.size, 0, none⟩)] (by rfl) rfl rfl (by simp only [List.map_toArray, List.map_cons, List.map_nil]; first | done | rfl) ?_
          with_reducible refine (left_walk _ w.heap.size b s (by omega) hbs (Cur.drew HCx.out)).mono ?_
          rintro e w9 ⟨rfl, rfl⟩
          refine ⟨_, rfl, hHeld, fun hHeld => ?_⟩
          try simp only [Act.put, List.setIfInBounds_toArray, List.set_cons_zero, List.set_cons_succ]
          refine r_take (i := 13) (N := some 190) (v := ?_) (a' := ?_) #[true, true, true, true, true, true, true, true, true, true, true, true, true, true, false] rfl rfl (by kernel_rfl) (fun _ _ _ h => h) hHeld (Or.inl ⟨by rfl, ?_⟩) ?_ ?_
          rotate_left
          · intro w' hSw
            (try dsimp only at hSw)
            go_simp
            try with_reducible rfl
          rotate_left
          · simp only [Act.put, List.setIfInBounds_toArray, List.set_cons_zero, List.set_cons_succ]
            rfl
          refine r_take (i := 14) (N := some 191) (v := ?_) (a' := ?_) #[true, true, true, true, true, true, true, true, true, true, true, true, true, true, true] rfl rfl (by kernel_rfl) (fun _ _ _ h => h) hHeld (Or.inl ⟨by rfl, ?_⟩) ?_ ?_
          rotate_left
          · intro w' hSw
            (try dsimp only at hSw)
            go_simp
            try with_reducible rfl
          rotate_left
          · simp only [Act.put, List.setIfInBounds_toArray, List.set_cons_zero, List.set_cons_succ]
            rfl
          refine r_done (by kernel_rfl) ?_
          clear hw1
          go_wp2
          first | exact ⟨⟨k + 1, b, by omega, hbs, by go_num, Lib.hid (by first | exact HCx.out | exact Cur.drew (Cur.drew HCx.out)), Lib.hid (by first | exact HM9.out | exact Blk.drew (Blk.drew HM9.out)), Lib.hid (by first | exact HB9.out | exact HB9.out.drew.drew)⟩, by simp [intOf]; omega⟩ | (go_roundw; (case rel => exact ⟨k + 1, b, by omega, hbs, by go_num, Lib.hid (by first | exact HCx.out | exact Cur.drew (Cur.drew HCx.out)), Lib.hid (by first | exact HM9.out | exact Blk.drew (Blk.drew HM9.out)), Lib.hid (by first | exact HB9.out | exact HB9.out.drew.drew)⟩); (case measure => simp [intOf]; omega))
        · skip
          have HN := Lib.hid hN; clear hN
          have HR := Lib.hid hR; clear hR
          have hbs := ha
          have he1 : (e0 != 0) = true := by simpa using he0
          go_wp2_with (first | (go_at_call 18; refine (HN.out _ _ HC0.out).mono ?_; rintro e w3 ⟨rfl, hC3, ho3⟩; have HC3 := Lib.hid hC3; have HM3 : Hid (Blk w3 w1.heap.size 38 #[.string s, .int .i64 a]) := Lib.hid (ho3.blk HM0.out hne.symm); have HB3 := Lib.hid (HB0.out.trans (ho3.below (Nat.le_refl _) HB0.out.size)); clear hC3 ho3) | (go_at_call 15; refine (HR.out _).mono ?_; rintro e w4 ⟨rfl, hb4⟩; have HC4 : Hid (Cur w4 w.heap.size s a) := Lib.hid (HC3.out.bel hb4); have HM4 : Hid (Blk w4 w1.heap.size 38 #[.string s, .int .i64 a]) := Lib.hid (HM3.out.bel hb4); have HB4 := Lib.hid (HB3.out.trans (hb4.mono HB3.out.size)); clear hb4) | (go_at_call 14; refine (left_nil _).mono ?_; rintro e w6 ⟨rfl, rfl⟩) | (go_at_call 13; refine (at_nil _).mono ?_; rintro e w6 ⟨rfl, rfl⟩) | (go_at_call 19; refine (rest_nil _).mono ?_; rintro e w6 ⟨rfl, rfl⟩) | (refine wpList_load_row rfl 38 (.tmp 6) rfl w1.heap.size rfl 38 #[.string s, .int .i64 a] (0, 0) _ HM3.out Try.underlying38 rfl (show _ = some 2 by kernel_rfl) ?_) | (refine wpList_load_row rfl 38 (.tmp 22) rfl w4.heap.size rfl 38 #[.string s, .int .i64 a] (0, 0) _ (Blk.new w4 _ _) Try.underlying38 rfl (show _ = some 2 by kernel_rfl) ?_) | (refine wpList_store_far rfl 38 (.tmp 6) (.tmp 164) rfl w1.heap.size #[.string s, .int .i64 a] _ 38 rfl rfl (Blk.alloc HM4.out _) (show _ = some 2 by kernel_rfl) rfl (one2 _ _) ?_; intro w7 hM7 hF7 hB7; have HM9 := Lib.hid hM7; have HC9 : Hid (Cur w7 w.heap.size s a) := Lib.hid (hF7 _ _ _ hne (Blk.alloc HC4.out _)); have HB9 := Lib.hid (hB7 _ _ hle1 (HB4.out.alloc HB4.out.size _)); clear hM7 hF7 hB7))
          have HCx : Hid (Cur w7 w.heap.size s a) := HC9
          have hcx : w7.cell? ⟨w1.heap.size, 1, none⟩ = some (.int .i64 a) := Blk.cell HM9.out 1
          have hw1 : IntKind.i64.wrap ((s.size : Int) - a) = (s.size : Int) - a := by rw [IntKind.wrap_i64]; omega
          refine r_start (n := 15) (S := (fun w' => w'.cell? ⟨w1.heap.size, 1, none⟩ = some (.int .i64 a))) #[false, false, false, false, false, false, false, false, false, false, false, false, false, false, false] (by kernel_rfl) rfl rfl hcx (fun hHeld => ?_)
          refine r_take (i := 0) (N := some 177) (v := ?_) (a' := ?_) #[true, false, false, false, false, false, false, false, false, false, false, false, false, false, false] rfl rfl (by kernel_rfl) (fun _ _ _ h => h) hHeld (Or.inl ⟨by rfl, ?_⟩) ?_ ?_
          rotate_left
          · intro w' hSw
            (try dsimp only at hSw)
            go_simp
            try with_reducible rfl
          rotate_left
          · simp only [Act.put, List.setIfInBounds_toArray, List.set_cons_zero, List.set_cons_succ]
            rfl
          refine r_take (i := 2) (N := some 179) (v := ?_) (a' := ?_) #[true, false, true, false, false, false, false, false, false, false, false, false, false, false, false] rfl rfl (by kernel_rfl) (fun _ _ _ h => h) hHeld (Or.inl ⟨by rfl, ?_⟩) ?_ ?_
          rotate_left
          · intro w' hSw
            (try dsimp only at hSw)
            go_simp
            try with_reducible rfl
          rotate_left
          · simp only [Act.put, List.setIfInBounds_toArray, List.set_cons_zero, List.set_cons_succ]
            rfl
          refine r_take (i := 3) (N := some 180) (v := ?_) (a' := ?_) #[true, false, true, true, false, false, false, false, false, false, false, false, false, false, false] rfl rfl (by kernel_rfl) (fun _ _ _ h => h) hHeld (Or.inl ⟨by rfl, ?_⟩) ?_ ?_
          rotate_left
          · intro w' hSw
            (try dsimp only at hSw)
            go_simp
            try with_reducible rfl
          rotate_left
          · simp only [Act.put, List.setIfInBounds_toArray, List.set_cons_zero, List.set_cons_succ]
            rfl
          refine r_one (i := 1) (N := some 178) #[true, true, true, true, false, false, false, false, false, false, false, false, false, false, false] rfl rfl (by kernel_rfl) ?_
          refine r_call Try.func13 (by kernel_rfl) rfl #[.pointer (some ⟨w.heap.size, 0, none⟩)] (by rfl) rfl rfl (by simp only [List.map_toArray, List.map_cons, List.map_nil]; first | done | rfl) ?_
          with_reducible refine (at_walk _ w.heap.size a s (Cur.drew HCx.out)).mono ?_
          rintro e w8 ⟨rfl, rfl⟩
          refine ⟨_, rfl, hHeld, fun hHeld => ?_⟩
          try simp only [Act.put, List.setIfInBounds_toArray, List.set_cons_zero, List.set_cons_succ]
          refine r_take (i := 4) (N := some 181) (v := ?_) (a' := ?_) #[true, true, true, true, true, false, false, false, false, false, false, false, false, false, false] rfl rfl (by kernel_rfl) (fun _ _ _ h => h) hHeld (Or.inl ⟨by rfl, ?_⟩) ?_ ?_
          rotate_left
          · intro w' hSw
            (try dsimp only at hSw)
            go_simp
            try with_reducible rfl
          rotate_left
          · simp only [Act.put, List.setIfInBounds_toArray, List.set_cons_zero, List.set_cons_succ]
            rfl
          refine r_take (i := 5) (N := some 182) (v := ?_) (a' := ?_) #[true, true, true, true, true, true, false, false, false, false, false, false, false, false, false] rfl rfl (by kernel_rfl) (fun _ _ _ h => h) hHeld (Or.inl ⟨by rfl, ?_⟩) ?_ ?_
          rotate_left
          · intro w' hSw
            (try dsimp only at hSw)
            go_simp
            try with_reducible rfl
          rotate_left
          · simp only [Act.put, List.setIfInBounds_toArray, List.set_cons_zero, List.set_cons_succ]
            rfl
          refine r_take (i := 6) (N := some 183) (v := ?_) (a' := ?_) #[true, true, true, true, true, true, true, false, false, false, false, false, false, false, false] rfl rfl (by kernel_rfl) (fun _ _ _ h => h) hHeld (Or.inl ⟨by rfl, ?_⟩) ?_ ?_
          rotate_left
          · intro w' hSw
            (try dsimp only at hSw)
            go_simp
            try with_reducible rfl
          rotate_left
          · simp only [Act.put, List.setIfInBounds_toArray, List.set_cons_zero, List.set_cons_succ]
            rfl
          refine r_take (i := 8) (N := some 185) (v := ?_) (a' := ?_) #[true, true, true, true, true, true, true, false, true, false, false, false, false, false, false] rfl rfl (by kernel_rfl) (fun _ _ _ h => h) hHeld (Or.inl ⟨by rfl, ?_⟩) ?_ ?_
          rotate_left
          · intro w' hSw
            (try dsimp only at hSw)
            go_simp
            try with_reducible rfl
          rotate_left
          · simp only [Act.put, List.setIfInBounds_toArray, List.set_cons_zero, List.set_cons_succ]
            rfl
          refine r_take (i := 9) (N := some 186) (v := ?_) (a' := ?_) #[true, true, true, true, true, true, true, false, true, true, false, false, false, false, false] rfl rfl (by kernel_rfl) (fun _ _ _ h => h) hHeld (Or.inl ⟨by rfl, ?_⟩) ?_ ?_
          rotate_left
          · intro w' hSw
            (try dsimp only at hSw)
            go_simp
            try with_reducible rfl
          rotate_left
          · simp only [Act.put, List.setIfInBounds_toArray, List.set_cons_zero, List.set_cons_succ]
            rfl
          refine r_take (i := 10) (N := some 187) (v := ?_) (a' := ?_) #[true, true, true, true, true, true, true, false, true, true, true, false, false, false, false] rfl rfl (by kernel_rfl) (fun _ _ _ h => h) hHeld (Or.inl ⟨by rfl, ?_⟩) ?_ ?_
          rotate_left
          · intro w' hSw
            (try dsimp only at hSw)
            go_simp
            try with_reducible rfl
          rotate_left
          · simp only [Act.put, List.setIfInBounds_toArray, List.set_cons_zero, List.set_cons_succ]
            rfl
          refine r_take (i := 11) (N := some 188) (v := ?_) (a' := ?_) #[true, true, true, true, true, true, true, false, true, true, true, true, false, false, false] rfl rfl (by kernel_rfl) (fun _ _ _ h => h) hHeld (Or.inl ⟨by rfl, ?_⟩) ?_ ?_
          rotate_left
          · intro w' hSw
            (try dsimp only at hSw)
            go_simp
            try with_reducible rfl
          rotate_left
          · simp only [Act.put, List.setIfInBounds_toArray, List.set_cons_zero, List.set_cons_succ]
            rfl
          refine r_take (i := 12) (N := some 189) (v := ?_) (a' := ?_) #[true, true, true, true, true, true, true, false, true, true, true, true, true, false, false] rfl rfl (by kernel_rfl) (fun _ _ _ h => h) hHeld (Or.inl ⟨by rfl, ?_⟩) ?_ ?_
          rotate_left
          · intro w' hSw
            (try dsimp only at hSw)
            go_simp
            try with_reducible rfl
          rotate_left
          · simp only [Act.put, List.setIfInBounds_toArray, List.set_cons_zero, List.set_cons_succ]
            rfl
          refine r_one (i := 7) (N := some 184) #[true, true, true, true, true, true, true, true, true, true, true, true, true, false, false] rfl rfl (by kernel_rfl) ?_
          refine r_call Try.func14 (by kernel_rfl) rfl #[.pointer (some ⟨w.heap.size, 0, none⟩)] (by rfl) rfl rfl (by simp only [List.map_toArray, List.map_cons, List.map_nil]; first | done | rfl) ?_
          with_reducible refine (left_walk _ w.heap.size a s (by omega) hbs (Cur.drew HCx.out)).mono ?_
          rintro e w9 ⟨rfl, rfl⟩
          refine ⟨_, rfl, hHeld, fun hHeld => ?_⟩
          try simp only [Act.put, List.setIfInBounds_toArray, List.set_cons_zero, List.set_cons_succ]
          refine r_take (i := 13) (N := some 190) (v := ?_) (a' := ?_) #[true, true, true, true, true, true, true, true, true, true, true, true, true, true, false] rfl rfl (by kernel_rfl) (fun _ _ _ h => h) hHeld (Or.inl ⟨by rfl, ?_⟩) ?_ ?_
          rotate_left
          · intro w' hSw
            (try dsimp only at hSw)
            go_simp
            try with_reducible rfl
          rotate_left
          · simp only [Act.put, List.setIfInBounds_toArray, List.set_cons_zero, List.set_cons_succ]
            rfl
          refine r_take (i := 14) (N := some 191) (v := ?_) (a' := ?_) #[true, true, true, true, true, true, true, true, true, true, true, true, true, true, true] rfl rfl (by kernel_rfl) (fun _ _ _ h => h) hHeld (Or.inl ⟨by rfl, ?_⟩) ?_ ?_
          rotate_left
          · intro w' hSw
            (try dsimp only at hSw)
            go_simp
            try with_reducible rfl
          rotate_left
          · simp only [Act.put, List.setIfInBounds_toArray, List.set_cons_zero, List.set_cons_succ]
            rfl
          refine r_done (by kernel_rfl) ?_
          clear hw1
          go_wp2
          first | exact ⟨⟨k + 1, a, by omega, hbs, by go_num, Lib.hid (by first | exact HCx.out | exact Cur.drew (Cur.drew HCx.out)), Lib.hid (by first | exact HM9.out | exact Blk.drew (Blk.drew HM9.out)), Lib.hid (by first | exact HB9.out | exact HB9.out.drew.drew)⟩, by simp [intOf]; omega⟩ | (go_roundw; (case rel => exact ⟨k + 1, a, by omega, hbs, by go_num, Lib.hid (by first | exact HCx.out | exact Cur.drew (Cur.drew HCx.out)), Lib.hid (by first | exact HM9.out | exact Blk.drew (Blk.drew HM9.out)), Lib.hid (by first | exact HB9.out | exact HB9.out.drew.drew)⟩); (case measure => simp [intOf]; omega))
      · have h4 : d % 5 = 4 := by omega
        clear hA hB h2 h3
        have hbs := Nat.le_refl s.size
        have hw3 : (!(s.extract a s.size).toList == (s.extract a s.size).toList) = false := by simp
        go_wp2_with fail
        refine r_start (n := 7) (S := (fun w' => Hid (Blk w' w1.heap.size 38 #[.string s, .int .i64 a]))) #[false, false, false, false, false, false, false] (by kernel_rfl) rfl rfl (Lib.hid (Blk.drew HM0.out)) (fun hHeld => ?_)
        refine r_take (i := 0) (N := some 167) (v := ?_) (a' := ?_) #[true, false, false, false, false, false, false] rfl rfl (by kernel_rfl) (fun _ _ _ h => h) hHeld (Or.inl ⟨by rfl, ?_⟩) ?_ ?_
        rotate_left
        · intro w' hSw
          (try dsimp only at hSw)
          go_simp
          try with_reducible rfl
        rotate_left
        · simp only [Act.put, List.setIfInBounds_toArray, List.set_cons_zero, List.set_cons_succ]
          rfl
        refine r_take (i := 2) (N := some 169) (v := ?_) (a' := ?_) #[true, false, true, false, false, false, false] rfl rfl (by kernel_rfl) (fun _ _ _ h => h) hHeld (Or.inl ⟨by rfl, ?_⟩) ?_ ?_
        rotate_left
        · intro w' hSw
          (try dsimp only at hSw)
          go_simp
          try with_reducible rfl
        rotate_left
        · simp only [Act.put, List.setIfInBounds_toArray, List.set_cons_zero, List.set_cons_succ]
          rfl
        refine r_take (i := 3) (N := some 170) (v := ?_) (a' := ?_) #[true, false, true, true, false, false, false] rfl rfl (by kernel_rfl) (fun _ _ _ h => h) hHeld (Or.inl ⟨by rfl, ?_⟩) ?_ ?_
        rotate_left
        · intro w' hSw
          (try dsimp only at hSw)
          go_simp
          try with_reducible rfl
        rotate_left
        · simp only [Act.put, List.setIfInBounds_toArray, List.set_cons_zero, List.set_cons_succ]
          rfl
        refine r_take (i := 4) (N := some 171) (v := ?_) (a' := ?_) #[true, false, true, true, true, false, false] rfl rfl (by kernel_rfl) (fun _ _ _ h => h) hHeld (Or.inl ⟨by rfl, ?_⟩) ?_ ?_
        rotate_left
        · intro w' hSw
          (try dsimp only at hSw)
          have hSc := Blk.cell hSw.out 1
          go_simp
          try with_reducible rfl
        rotate_left
        · simp only [Act.put, List.setIfInBounds_toArray, List.set_cons_zero, List.set_cons_succ]
          rfl
        refine r_take (i := 5) (N := some 172) (v := ?_) (a' := ?_) #[true, false, true, true, true, true, false] rfl rfl (by kernel_rfl) (fun _ _ _ h => h) hHeld (Or.inl ⟨by rfl, ?_⟩) ?_ ?_
        rotate_left
        · intro w' hSw
          (try dsimp only at hSw)
          go_simp
          try with_reducible rfl
        rotate_left
        · simp only [Act.put, List.setIfInBounds_toArray, List.set_cons_zero, List.set_cons_succ]
          rfl
        refine r_one (i := 1) (N := some 168) #[true, true, true, true, true, true, false] rfl rfl (by kernel_rfl) ?_
        refine r_call Try.func19 (by kernel_rfl) rfl #[.pointer (some ⟨w.heap.size, 0, none⟩)] (by rfl) rfl rfl (by simp only [List.map_toArray, List.map_cons, List.map_nil]; first | done | rfl) ?_
        with_reducible refine (rest_walk _ w.heap.size a s (by omega) ha (Cur.drew HC0.out)).mono ?_
        rintro e w3 ⟨rfl, hC3, ho3⟩
        refine ⟨_, rfl, Lib.hid (ho3.blk (Blk.drew HM0.out) hne.symm), fun hHeld => ?_⟩
        have HC3 := Lib.hid hC3
        have HO3 := Lib.hid ho3
        clear hC3 ho3
        try simp only [Act.put, List.setIfInBounds_toArray, List.set_cons_zero, List.set_cons_succ]
        refine r_take (i := 6) (N := some 173) (v := ?_) (a' := ?_) #[true, true, true, true, true, true, true] rfl rfl (by kernel_rfl) (fun _ _ _ h => h) hHeld (Or.inl ⟨by rfl, ?_⟩) ?_ ?_
        rotate_left
        · intro w' hSw
          (try dsimp only at hSw)
          go_simp
          try with_reducible rfl
        rotate_left
        · simp only [Act.put, List.setIfInBounds_toArray, List.set_cons_zero, List.set_cons_succ]
          rfl
        refine r_done (by kernel_rfl) ?_
        clear hw3
        have HM3 : Hid (Blk w3 w1.heap.size 38 #[.string s, .int .i64 a]) := hHeld
        have HB3 := Lib.hid (HB0.out.drew.trans (HO3.out.below (Nat.le_refl _) HB0.out.drew.size))
        have hf3 := HM3.out.frozen 1
        have hc3 : w3.cell? ⟨w1.heap.size, 1, none⟩ = some (.int .i64 a) := Blk.cell HM3.out 1
        go_wp2_with fail
        have HM9 : Hid (Blk (w3.setCell ⟨w1.heap.size, 1, none⟩ (.int .i64 s.size)) w1.heap.size 38 #[.string s, .int .i64 s.size]) := Lib.hid (HM3.out.set_ 1 (.int .i64 s.size))
        have HC9 : Hid (Cur (w3.setCell ⟨w1.heap.size, 1, none⟩ (.int .i64 s.size)) w.heap.size s s.size) := Lib.hid (HC3.out.far hne _)
        have HB9 := Lib.hid (HB3.out.setCell (p := ⟨w1.heap.size, 1, none⟩) hle1 (.int .i64 s.size))
        have HCx : Hid (Cur (w3.setCell ⟨w1.heap.size, 1, none⟩ (.int .i64 s.size)) w.heap.size s s.size) := HC9
        have hcx : (w3.setCell ⟨w1.heap.size, 1, none⟩ (.int .i64 s.size)).cell? ⟨w1.heap.size, 1, none⟩ = some (.int .i64 s.size) := Blk.cell HM9.out 1
        have hw1 : IntKind.i64.wrap ((s.size : Int) - s.size) = (s.size : Int) - s.size := by rw [IntKind.wrap_i64]; omega
        refine r_start (n := 15) (S := (fun w' => w'.cell? ⟨w1.heap.size, 1, none⟩ = some (.int .i64 s.size))) #[false, false, false, false, false, false, false, false, false, false, false, false, false, false, false] (by kernel_rfl) rfl rfl hcx (fun hHeld => ?_)
        refine r_take (i := 0) (N := some 177) (v := ?_) (a' := ?_) #[true, false, false, false, false, false, false, false, false, false, false, false, false, false, false] rfl rfl (by kernel_rfl) (fun _ _ _ h => h) hHeld (Or.inl ⟨by rfl, ?_⟩) ?_ ?_
        rotate_left
        · intro w' hSw
          (try dsimp only at hSw)
          go_simp
          try with_reducible rfl
        rotate_left
        · simp only [Act.put, List.setIfInBounds_toArray, List.set_cons_zero, List.set_cons_succ]
          rfl
        refine r_take (i := 2) (N := some 179) (v := ?_) (a' := ?_) #[true, false, true, false, false, false, false, false, false, false, false, false, false, false, false] rfl rfl (by kernel_rfl) (fun _ _ _ h => h) hHeld (Or.inl ⟨by rfl, ?_⟩) ?_ ?_
        rotate_left
        · intro w' hSw
          (try dsimp only at hSw)
          go_simp
          try with_reducible rfl
        rotate_left
        · simp only [Act.put, List.setIfInBounds_toArray, List.set_cons_zero, List.set_cons_succ]
          rfl
        refine r_take (i := 3) (N := some 180) (v := ?_) (a' := ?_) #[true, false, true, true, false, false, false, false, false, false, false, false, false, false, false] rfl rfl (by kernel_rfl) (fun _ _ _ h => h) hHeld (Or.inl ⟨by rfl, ?_⟩) ?_ ?_
        rotate_left
        · intro w' hSw
          (try dsimp only at hSw)
          go_simp
          try with_reducible rfl
        rotate_left
        · simp only [Act.put, List.setIfInBounds_toArray, List.set_cons_zero, List.set_cons_succ]
          rfl
        refine r_one (i := 1) (N := some 178) #[true, true, true, true, false, false, false, false, false, false, false, false, false, false, false] rfl rfl (by kernel_rfl) ?_
        refine r_call Try.func13 (by kernel_rfl) rfl #[.pointer (some ⟨w.heap.size, 0, none⟩)] (by rfl) rfl rfl (by simp only [List.map_toArray, List.map_cons, List.map_nil]; first | done | rfl) ?_
        with_reducible refine (at_walk _ w.heap.size s.size s (Cur.drew HCx.out)).mono ?_
        rintro e w8 ⟨rfl, rfl⟩
        refine ⟨_, rfl, hHeld, fun hHeld => ?_⟩
        try simp only [Act.put, List.setIfInBounds_toArray, List.set_cons_zero, List.set_cons_succ]
        refine r_take (i := 4) (N := some 181) (v := ?_) (a' := ?_) #[true, true, true, true, true, false, false, false, false, false, false, false, false, false, false] rfl rfl (by kernel_rfl) (fun _ _ _ h => h) hHeld (Or.inl ⟨by rfl, ?_⟩) ?_ ?_
        rotate_left
        · intro w' hSw
          (try dsimp only at hSw)
          go_simp
          try with_reducible rfl
        rotate_left
        · simp only [Act.put, List.setIfInBounds_toArray, List.set_cons_zero, List.set_cons_succ]
          rfl
        refine r_take (i := 5) (N := some 182) (v := ?_) (a' := ?_) #[true, true, true, true, true, true, false, false, false, false, false, false, false, false, false] rfl rfl (by kernel_rfl) (fun _ _ _ h => h) hHeld (Or.inl ⟨by rfl, ?_⟩) ?_ ?_
        rotate_left
        · intro w' hSw
          (try dsimp only at hSw)
          go_simp
          try with_reducible rfl
        rotate_left
        · simp only [Act.put, List.setIfInBounds_toArray, List.set_cons_zero, List.set_cons_succ]
          rfl
        refine r_take (i := 6) (N := some 183) (v := ?_) (a' := ?_) #[true, true, true, true, true, true, true, false, false, false, false, false, false, false, false] rfl rfl (by kernel_rfl) (fun _ _ _ h => h) hHeld (Or.inl ⟨by rfl, ?_⟩) ?_ ?_
        rotate_left
        · intro w' hSw
          (try dsimp only at hSw)
          go_simp
          try with_reducible rfl
        rotate_left
        · simp only [Act.put, List.setIfInBounds_toArray, List.set_cons_zero, List.set_cons_succ]
          rfl
        refine r_take (i := 8) (N := some 185) (v := ?_) (a' := ?_) #[true, true, true, true, true, true, true, false, true, false, false, false, false, false, false] rfl rfl (by kernel_rfl) (fun _ _ _ h => h) hHeld (Or.inl ⟨by rfl, ?_⟩) ?_ ?_
        rotate_left
        · intro w' hSw
          (try dsimp only at hSw)
          go_simp
          try with_reducible rfl
        rotate_left
        · simp only [Act.put, List.setIfInBounds_toArray, List.set_cons_zero, List.set_cons_succ]
          rfl
        refine r_take (i := 9) (N := some 186) (v := ?_) (a' := ?_) #[true, true, true, true, true, true, true, false, true, true, false, false, false, false, false] rfl rfl (by kernel_rfl) (fun _ _ _ h => h) hHeld (Or.inl ⟨by rfl, ?_⟩) ?_ ?_
        rotate_left
        · intro w' hSw
          (try dsimp only at hSw)
          go_simp
          try with_reducible rfl
        rotate_left
        · simp only [Act.put, List.setIfInBounds_toArray, List.set_cons_zero, List.set_cons_succ]
          rfl
        refine r_take (i := 10) (N := some 187) (v := ?_) (a' := ?_) #[true, true, true, true, true, true, true, false, true, true, true, false, false, false, false] rfl rfl (by kernel_rfl) (fun _ _ _ h => h) hHeld (Or.inl ⟨by rfl, ?_⟩) ?_ ?_
        rotate_left
        · intro w' hSw
          (try dsimp only at hSw)
          go_simp
          try with_reducible rfl
        rotate_left
        · simp only [Act.put, List.setIfInBounds_toArray, List.set_cons_zero, List.set_cons_succ]
          rfl
        refine r_take (i := 11) (N := some 188) (v := ?_) (a' := ?_) #[true, true, true, true, true, true, true, false, true, true, true, true, false, false, false] rfl rfl (by kernel_rfl) (fun _ _ _ h => h) hHeld (Or.inl ⟨by rfl, ?_⟩) ?_ ?_
        rotate_left
        · intro w' hSw
          (try dsimp only at hSw)
          go_simp
          try with_reducible rfl
        rotate_left
        · simp only [Act.put, List.setIfInBounds_toArray, List.set_cons_zero, List.set_cons_succ]
          rfl
        refine r_take (i := 12) (N := some 189) (v := ?_) (a' := ?_) #[true, true, true, true, true, true, true, false, true, true, true, true, true, false, false] rfl rfl (by kernel_rfl) (fun _ _ _ h => h) hHeld (Or.inl ⟨by rfl, ?_⟩) ?_ ?_
        rotate_left
        · intro w' hSw
          (try dsimp only at hSw)
          go_simp
          try with_reducible rfl
        rotate_left
        · simp only [Act.put, List.setIfInBounds_toArray, List.set_cons_zero, List.set_cons_succ]
          rfl
        refine r_one (i := 7) (N := some 184) #[true, true, true, true, true, true, true, true, true, true, true, true, true, false, false] rfl rfl (by kernel_rfl) ?_
        refine r_call Try.func14 (by kernel_rfl) rfl #[.pointer (some ⟨w.heap.size, 0, none⟩)] (by rfl) rfl rfl (by simp only [List.map_toArray, List.map_cons, List.map_nil]; first | done | rfl) ?_
        with_reducible refine (left_walk _ w.heap.size s.size s (by omega) hbs (Cur.drew HCx.out)).mono ?_
        rintro e w9 ⟨rfl, rfl⟩
        refine ⟨_, rfl, hHeld, fun hHeld => ?_⟩
        try simp only [Act.put, List.setIfInBounds_toArray, List.set_cons_zero, List.set_cons_succ]
        refine r_take (i := 13) (N := some 190) (v := ?_) (a' := ?_) #[true, true, true, true, true, true, true, true, true, true, true, true, true, true, false] rfl rfl (by kernel_rfl) (fun _ _ _ h => h) hHeld (Or.inl ⟨by rfl, ?_⟩) ?_ ?_
        rotate_left
        · intro w' hSw
          (try dsimp only at hSw)
          go_simp
          try with_reducible rfl
        rotate_left
        · simp only [Act.put, List.setIfInBounds_toArray, List.set_cons_zero, List.set_cons_succ]
          rfl
        refine r_take (i := 14) (N := some 191) (v := ?_) (a' := ?_) #[true, true, true, true, true, true, true, true, true, true, true, true, true, true, true] rfl rfl (by kernel_rfl) (fun _ _ _ h => h) hHeld (Or.inl ⟨by rfl, ?_⟩) ?_ ?_
        rotate_left
        · intro w' hSw
          (try dsimp only at hSw)
          go_simp
          try with_reducible rfl
        rotate_left
        · simp only [Act.put, List.setIfInBounds_toArray, List.set_cons_zero, List.set_cons_succ]
          rfl
        refine r_done (by kernel_rfl) ?_
        clear hw1
        go_wp2
        first | exact ⟨⟨k + 1, s.size, by omega, hbs, by go_num, Lib.hid (by first | exact HCx.out | exact Cur.drew (Cur.drew HCx.out)), Lib.hid (by first | exact HM9.out | exact Blk.drew (Blk.drew HM9.out)), Lib.hid (by first | exact HB9.out | exact HB9.out.drew.drew)⟩, by simp [intOf]; omega⟩ | (go_roundw; (case rel => exact ⟨k + 1, s.size, by omega, hbs, by go_num, Lib.hid (by first | exact HCx.out | exact Cur.drew (Cur.drew HCx.out)), Lib.hid (by first | exact HM9.out | exact Blk.drew (Blk.drew HM9.out)), Lib.hid (by first | exact HB9.out | exact HB9.out.drew.drew)⟩); (case measure => simp [intOf]; omega))
    · obtain rfl : k = n := by omega
      go_wp2_with (first | (go_at_call 10; refine (awake_true _).mono ?_; rintro e w5 ⟨rfl, hb5⟩; have HB5 := Lib.hid (hb.out.trans (hb5.mono hb.out.size)); clear hb5))
      go_ret
      exact ⟨rfl, HB5.out⟩
set_option maxRecDepth 20000 in
theorem plays_long (s : ByteArray) (A : Option Addr) (n c : Nat) (h : 5000 < s.size ∨ (s.size ≤ 5000 ∧ 100 < n)) (w : World) :
    Calls Try.prog 5 #[.string s, .slice A n c] w fun e w' => e = .returned (.bool true) ∧ Below w.heap.size w w' := by
  rcases h with h | ⟨h, h2⟩
  · have hg1 : decide ((5000 : Int) < (s.size : Int)) = true := by simp; omega
    go_enter Try.func5, Try.ntmps5
    go_wp2_with (first | (go_at_call 10; refine (awake_true _).mono ?_; rintro e w1 ⟨rfl, hb⟩; have HB := Lib.hid hb; clear hb))
    go_ret
    exact ⟨rfl, HB.out⟩
  · have hg1 : decide ((5000 : Int) < (s.size : Int)) = false := by simp; omega
    have hg2 : decide ((100 : Int) < (n : Int)) = true := by simp; omega
    go_enter Try.func5, Try.ntmps5
    go_wp2_with (first | (go_at_call 10; refine (awake_true _).mono ?_; rintro e w1 ⟨rfl, hb⟩; have HB := Lib.hid hb; clear hb))
    go_ret
    exact ⟨rfl, HB.out⟩
theorem cursorPlays_walk (s : ByteArray) (A : Option Addr) (n c : Nat) (f : Nat → Nat → Int) (hnc : n ≤ c) (w : World) (hI : InS w A n 2 KA f) :
    Calls Try.prog 5 #[.string s, .slice A n c] w fun e w' => e = .returned (.bool true) ∧ Below w.heap.size w w' := by
  by_cases hs : s.size ≤ 5000
  · by_cases hn : n ≤ 100
    · exact plays_ok s A n c f hnc hs hn w hI
    · exact plays_long s A n c (by omega) w
  · exact plays_long s A n c (by omega) w

namespace lawCursorPlays
open Go.ChangeShapes Go.WideShapes Go.ChangeAt Go.RowKit
open Go.ChangeMaps (open_string shut_string)
theorem own : ownKnob Try.prog.godebug = none := by kernel_rfl
theorem laidOut : laidOutB Try.prog = true := by kernel_rfl

set_option maxRecDepth 100000 in
theorem lifted (os : Os) (started : os.Started) (H : Type) (enc : TypeId × Value → H) :
    ReturnsInHanded {} Try.checked os 5 .any (Rows.cursorPlaysSpec.pre6 enc Try.prog Try.f5 Rows.cursorPlaysRow.domain false) (Rows.cursorPlaysSpec.post enc Try.prog Try.f5 false true false false) := by
  refine returnsInHanded_of_change_sized (C := Try.checked) own started (by kernel_rfl) Try.func5
    (ChangeSpec.witness6 (enc := enc) (C := Try.checked) false ⟨#[], #[.string ByteArray.empty, .slice none 0 0], []⟩ 8 (by kernel_rfl) (by kernel_rfl) (by kernel_rfl) (by kernel_rfl)) ?_
  intro W base args ds gs before hval0 hW hcnd hsz0 _
  have hsz : (DataW.weightsEach Try.prog (Try.f5.params.toList ++ Rows.cursorPlaysSpec.plain.varTypes Try.prog) (ds ++ gs)).all (· ≤ reachBytes) = true := hsz0
  have hval : ∀ (j : Nat) t v, Try.f5.params[j]? = some t → args[j]? = some v → Value.okWide Try.prog W .any base t v := hval0
  have hW' := hW
  obtain ⟨p, q, hA0, hV, hbefore, hfz, hnd⟩ := hW
  obtain ⟨rfl, rfl⟩ := trodVars_none hV
  have hA : DataW.TrodAll enc Try.prog W 0 (fun _ => true) true Try.f5.params.toList args.toList ds p := hA0
  rw [Try.params5] at hA hval hsz
  obtain ⟨v0, vs1, d0, ds1, p0, q0, hargs, rfl, hps, h0, r0⟩ := trodAll_cons hA
  obtain ⟨v1, vs2, d1, ds2, p1, q1, rfl, rfl, rfl, h1, r1⟩ := trodAll_cons r0
  obtain ⟨rfl, rfl, rfl⟩ := trodAll_nil r1
  obtain rfl : args = #[v0, v1] := by cases args; simp_all
  have o0 := hval 0 9 v0 rfl rfl
  have o1 := hval 1 36 v1 rfl rfl
  clear hA0 hval0
  obtain ⟨s, rfl, rfl, rfl, ws⟩ := open_string Try.underlying9 o0 h0
  obtain ⟨A, n, c, f, rfl, hnc, hI⟩ := openInS Try.underlying36 Try.underlying40 (by kernel_rfl) (by kernel_rfl) (by decide) KA (by intro j f h; match j, h with | 0, h => (cases h; exact Try.underlying5) | 1, h => (cases h; exact Try.underlying3) | j + 2, h => simp at h) o1 h1
  refine (cursorPlays_walk s A n c f hnc W hI).mono fun e W' ⟨he, hb⟩ => ?_
  subst he
  exact ⟨_, rfl, law_post laidOut (by rw [Try.params5]; intro t ht; simp only [List.mem_cons, List.not_mem_nil, or_false] at ht; rcases ht with rfl | rfl <;> exact ⟨by kernel_rfl, of_decide_eq_true (by kernel_rfl)⟩) (by kernel_rfl) Try.underlying4 hW' rfl rfl hb⟩
theorem said : Rows.CursorPlaysSaid :=
  OpenClaim.holds_of_wide 5 Try.f5 rfl rfl rfl rfl rfl rfl rfl ⟨rfl, rfl, rfl, rfl, rfl⟩ rfl rfl rfl rfl rfl (by kernel_rfl) Try.func5 (by kernel_rfl)
    (of_decide_eq_true (by kernel_rfl)) (by unfold Func.isWrapper; first | (rw [if_pos (by decide +kernel)]; kernel_rfl) | (rw [if_neg (by decide +kernel)]; exact ⟨rfl, rfl⟩))
    (fun os started H enc _ => lifted os started H enc)
#print axioms said
end lawCursorPlays
end Go.Proofs.Ytlfhojmdffkkhaa

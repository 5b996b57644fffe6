/- Tables of other numbers go the same way as blocks do. No condition but the card's own: the table holds what the program's text lays. -/
import Derived.Test.YtalkeefjnejelaaDoorZigC
import Derived.Test.YtalkeefjnejelaaDoorReg
import Derived.Test.YtalkeefjnejelaaDoorCards
import Derived.Test.YtalkeefjnejelaaDoorTie
import Derived.Deep.DeepHandedRow
import Derived.Lib.LaidTab
namespace Go.Proofs.YtalkeefjnejelaaDoor
open Go.RowKit
set_option linter.unusedSimpArgs false
set_option linter.unusedVariables false
set_option maxHeartbeats 3200000 in
theorem zigTables_walk (q : Nat → Int) (bq : ∀ j, j < 64 → 0 ≤ q j ∧ q j ≤ 65535) (w : World) (hL : Laid w) :
    Calls Tryd.prog 8 #[.agg (arrN .u16 64 q)] w fun e w' => e = .returned (.bool true) ∧ Below w.heap.size w w' := by
  have HL := Lib.hid hL; clear hL
  have Bq := Lib.hid bq; clear bq
  go_enter Tryd.func8, Tryd.ntmps8
  go_wp2
  go_loopw [4] (fun i wr => ∃ k : Nat, k ≤ 64 ∧ i = .int .i64 k ∧ Hid (Blk wr w.heap.size 35 (arrN .u16 64 q)) ∧ Hid (Blk wr (w.heap.size + 1) 29 (setTo .i16 64 id (fun j => q j % 30000) k)) ∧ Hid (Below w.heap.size w wr)) (fun i _ => 64 - (intOf i).toNat)
  case atStart =>
    refine ⟨0, by omega, rfl, ?_, ?_, ?_⟩
    · exact Lib.hid ((Blk.new w _ _).alloc _)
    · exact Lib.hid (Blk.nw (by simp))
    · exact Lib.hid (((Below.refl _ _).alloc (Nat.le_refl _) _).alloc (by simp) _)
  case round =>
    obtain ⟨k, hk, rfl, h1, h2, hb⟩ := hrel
    by_cases hlt : k < 64
    · have hf : ∀ i, wr.frozen? ⟨w.heap.size + 1, i, none⟩ = false := h2.out.frozen
      have hc1 := (h1.out.cell k).trans (arrN_get _ _ hlt)
      obtain ⟨u, hu⟩ := setTo_some .i16 id (fun j => q j % 30000) k hlt
      have hc2 : wr.cell? ⟨w.heap.size + 1, k, none⟩ = some u := (h2.out.cell _).trans hu
      have Hu := Lib.hid hu; clear hu
      obtain ⟨b1, b2⟩ := Bq.out k hlt
      go_wp2
      exact ⟨⟨k + 1, by omega, by go_num, Lib.hid (h1.out.far (by simp) _), Lib.hid (h2.out.set_ _ _), Lib.hid (hb.out.setCell (by simp) _)⟩, by simp [intOf]; omega⟩
    · obtain rfl : k = 64 := by omega
      have h3 := h2.out
      rw [setTo_all .i16 64 id id _ 64 (fun _ hj => ⟨hj, rfl, fun _ _ e => e⟩)] at h3
      have H3 := Lib.hid h3
      have hN1 : w.heap.size + 1 < wr.heap.size := h3.lt
      clear hlt h2 h3
      have H1 := h1
      have Hb := hb
      clear h1 hb
      have hu35 := Tryd.underlying35
      have hi35 : (Tryd.prog.info? 35).map (·.size) = some (arrN .u16 64 q).toList.length := by rw [Array.length_toList, arrN_size]; kernel_rfl
      have hu29 := Tryd.underlying29
      have hi29 : (Tryd.prog.info? 29).map (·.size) = some (arrN .i16 64 (fun j => q j % 30000)).toList.length := by rw [Array.length_toList, arrN_size]; kernel_rfl
      have hz35 : (Tryd.prog.info? 35).map (fun i => (i.zero, i.size)) = some (some (.agg (arrN .u16 64 (fun _ => 0))), 64) := by kernel_rfl
      have hz29 : (Tryd.prog.info? 29).map (fun i => (i.zero, i.size)) = some (some (.agg (arrN .i16 64 (fun _ => 0))), 64) := by kernel_rfl
      have hdr : wr.drew.heap.size = wr.heap.size := rfl
      go_upto_region 6 with fail
      go_cut [5, 6] (fun s5 s6 wx => ∃ g5 g6 : Nat, s5 = .pointer (some ⟨g5, 0, none⟩) ∧ s6 = .pointer (some ⟨g6, 0, none⟩) ∧ Hid (Blk wx g5 35 (arrN .u16 64 (fun j => q (ord j)))) ∧ Hid (Blk wx g6 35 (arrN .u16 64 (fun j => q (swp j)))) ∧ Hid (Below wr.heap.size wr wx))
      case first =>
        refine r_start (n := 8) (S := (fun w' => Hid (Below wr.heap.size wr w'))) #[false, false, false, false, false, false, false, false] (by kernel_rfl) rfl rfl (Lib.hid ((Below.refl _ _).drew)) (fun hHeld => ?_)
        refine r_take (i := 0) (N := some 21) (v := .agg (arrN .u16 64 q)) (a' := ?_) #[true, false, false, false, false, false, false, false] rfl rfl (by kernel_rfl) (fun _ _ _ h => h) hHeld (yieldsIf_load_mid (by rfl) _ _ rfl _ _ rfl ((arrN .u16 64 q)).toList _ (fun _ h => rangeOf (H1.out.bel h.out)) hu35 rfl hi35) ?_ ?_
        rotate_left
        · simp only [Act.put, List.setIfInBounds_toArray, List.set_cons_zero, List.set_cons_succ]
          rfl
        refine r_take (i := 2) (N := some 23) (v := .agg (arrN .u16 64 q)) (a' := ?_) #[true, false, true, false, false, false, false, false] rfl rfl (by kernel_rfl) (fun _ _ _ h => h) hHeld (yieldsIf_load_mid (by rfl) _ _ rfl _ _ rfl ((arrN .u16 64 q)).toList _ (fun _ h => rangeOf (H1.out.bel h.out)) hu35 rfl hi35) ?_ ?_
        rotate_left
        · simp only [Act.put, List.setIfInBounds_toArray, List.set_cons_zero, List.set_cons_succ]
          rfl
        refine r_three (i := 1) (Ni := some 22) (j := 4) (Nj := some 5) (k := 5) (Nk := some 6) #[true, true, true, false, false, false, false, false] #[true, false, true, false, true, false, false, false] #[true, false, true, false, false, true, false, false] rfl rfl rfl rfl rfl rfl (by kernel_rfl) ?_ ?_ ?_
        · refine r_call Tryd.func19 (by kernel_rfl) rfl #[.agg (arrN .u16 64 q)] (by rfl) rfl rfl (by simp only [List.map_toArray, List.map_cons, List.map_nil]; first | done | rfl) ?_
          with_reducible refine (zigU _ _ (HL.out.below (Hb.out.trans (hHeld.out.mono Hb.out.size)))).mono ?_
          rintro e w1 ⟨rfl, hb1⟩
          refine ⟨_, rfl, (Lib.hid (hHeld.out.trans (hb1.mono hHeld.out.size))), fun hHeld => ?_⟩
          have hle1 := hb1.size
          try simp only [Act.put, List.setIfInBounds_toArray, List.set_cons_zero, List.set_cons_succ]
          refine r_three (i := 3) (Ni := some 24) (j := 4) (Nj := some 5) (k := 5) (Nk := some 6) #[true, true, true, true, false, false, false, false] #[true, true, true, false, true, false, false, false] #[true, true, true, false, false, true, false, false] rfl rfl rfl rfl rfl rfl (by kernel_rfl) ?_ ?_ ?_
          · refine r_call Tryd.func20 (by kernel_rfl) rfl #[.agg (arrN .u16 64 q)] (by rfl) rfl rfl (by simp only [List.map_toArray, List.map_cons, List.map_nil]; first | done | rfl) ?_
            with_reducible refine (swapU _ _ (HL.out.below (Hb.out.trans (hHeld.out.mono Hb.out.size)))).mono ?_
            rintro e w2 ⟨rfl, hb2⟩
            refine ⟨_, rfl, (Lib.hid (hHeld.out.trans (hb2.mono hHeld.out.size))), fun hHeld => ?_⟩
            have hle2 := hb2.size
            try simp only [Act.put, List.setIfInBounds_toArray, List.set_cons_zero, List.set_cons_succ]
            refine r_two (i := 4) (Ni := some 5) (j := 5) (Nj := some 6) #[true, true, true, true, true, false, false, false] #[true, true, true, true, false, true, false, false] rfl rfl rfl rfl (by kernel_rfl) ?_ ?_
            · refine r_alloc 35 (arrN .u16 64 (fun _ => 0)) (by rfl) rfl (run_alloc_rowOp 35 (arrN .u16 64 (fun _ => 0)) rfl hz35) (fun w3 G5 hb3 hsz3 => ⟨(Lib.hid (hHeld.out.trans (hb3.mono hHeld.out.size))), fun hHeld => ?_⟩)
              have hle3 := hHeld.out.size
              replace G5 := Lib.hid G5
              try simp only [Act.put, List.setIfInBounds_toArray, List.set_cons_zero, List.set_cons_succ]
              refine r_one (i := 5) (N := some 6) #[true, true, true, true, true, true, false, false] rfl rfl (by kernel_rfl) ?_
              refine r_alloc 35 (arrN .u16 64 (fun _ => 0)) (by rfl) rfl (run_alloc_rowOp 35 (arrN .u16 64 (fun _ => 0)) rfl hz35) (fun w4 G6 hb4 hsz4 => ⟨(Lib.hid (hHeld.out.trans (hb4.mono hHeld.out.size))), fun hHeld => ?_⟩)
              have hle4 := hHeld.out.size
              replace G5 := Lib.hid (G5.out.bel hb4)
              replace G6 := Lib.hid G6
              try simp only [Act.put, List.setIfInBounds_toArray, List.set_cons_zero, List.set_cons_succ]
              refine r_one (i := 6) (N := none) #[true, true, true, true, true, true, true, false] rfl rfl (by kernel_rfl) ?_
              have hge5 := hHeld.out.size
              refine r_row 35 (.tmp 5) (.tmp 22) _ (arrN .u16 64 (fun j => q (ord j))) 35 _ (by rfl) rfl rfl rfl rfl G5.out (by rw [arrN_size]; kernel_rfl) (by rw [arrN_size, arrN_size]) (arrN_one _ _ _) (fun w5 G5 hfar5 hb5 hsz5 => ⟨(Lib.hid (hHeld.out.trans (hb5.mono (by omega)))), fun hHeld => ?_⟩)
              replace G6 := Lib.hid ((hfar5 _ (by omega)).trans G6.out)
              replace G5 := Lib.hid G5
              try simp only [Act.put, List.setIfInBounds_toArray, List.set_cons_zero, List.set_cons_succ]
              refine r_one (i := 7) (N := none) #[true, true, true, true, true, true, true, true] rfl rfl (by kernel_rfl) ?_
              have hge6 := hHeld.out.size
              refine r_row 35 (.tmp 6) (.tmp 24) _ (arrN .u16 64 (fun j => q (swp j))) 35 _ (by rfl) rfl rfl rfl rfl G6.out (by rw [arrN_size]; kernel_rfl) (by rw [arrN_size, arrN_size]) (arrN_one _ _ _) (fun w6 G6 hfar6 hb6 hsz6 => ⟨(Lib.hid (hHeld.out.trans (hb6.mono (by omega)))), fun hHeld => ?_⟩)
              replace G5 := Lib.hid ((hfar6 _ (by omega)).trans G5.out)
              replace G6 := Lib.hid G6
              try simp only [Act.put, List.setIfInBounds_toArray, List.set_cons_zero, List.set_cons_succ]
              refine r_done (by kernel_rfl) ?_
              go_wp2_with fail
              go_meet
              exact ⟨_, _, rfl, rfl, G5, G6, hHeld⟩
            · refine r_alloc 35 (arrN .u16 64 (fun _ => 0)) (by rfl) rfl (run_alloc_rowOp 35 (arrN .u16 64 (fun _ => 0)) rfl hz35) (fun w3 G6 hb3 hsz3 => ⟨(Lib.hid (hHeld.out.trans (hb3.mono hHeld.out.size))), fun hHeld => ?_⟩)
              have hle3 := hHeld.out.size
              replace G6 := Lib.hid G6
              try simp only [Act.put, List.setIfInBounds_toArray, List.set_cons_zero, List.set_cons_succ]
              refine r_one (i := 4) (N := some 5) #[true, true, true, true, true, true, false, false] rfl rfl (by kernel_rfl) ?_
              refine r_alloc 35 (arrN .u16 64 (fun _ => 0)) (by rfl) rfl (run_alloc_rowOp 35 (arrN .u16 64 (fun _ => 0)) rfl hz35) (fun w4 G5 hb4 hsz4 => ⟨(Lib.hid (hHeld.out.trans (hb4.mono hHeld.out.size))), fun hHeld => ?_⟩)
              have hle4 := hHeld.out.size
              replace G6 := Lib.hid (G6.out.bel hb4)
              replace G5 := Lib.hid G5
              try simp only [Act.put, List.setIfInBounds_toArray, List.set_cons_zero, List.set_cons_succ]
              refine r_one (i := 6) (N := none) #[true, true, true, true, true, true, true, false] rfl rfl (by kernel_rfl) ?_
              have hge5 := hHeld.out.size
              refine r_row 35 (.tmp 5) (.tmp 22) _ (arrN .u16 64 (fun j => q (ord j))) 35 _ (by rfl) rfl rfl rfl rfl G5.out (by rw [arrN_size]; kernel_rfl) (by rw [arrN_size, arrN_size]) (arrN_one _ _ _) (fun w5 G5 hfar5 hb5 hsz5 => ⟨(Lib.hid (hHeld.out.trans (hb5.mono (by omega)))), fun hHeld => ?_⟩)
              replace G6 := Lib.hid ((hfar5 _ (by omega)).trans G6.out)
              replace G5 := Lib.hid G5
              try simp only [Act.put, List.setIfInBounds_toArray, List.set_cons_zero, List.set_cons_succ]
              refine r_one (i := 7) (N := none) #[true, true, true, true, true, true, true, true] rfl rfl (by kernel_rfl) ?_
              have hge6 := hHeld.out.size
              refine r_row 35 (.tmp 6) (.tmp 24) _ (arrN .u16 64 (fun j => q (swp j))) 35 _ (by rfl) rfl rfl rfl rfl G6.out (by rw [arrN_size]; kernel_rfl) (by rw [arrN_size, arrN_size]) (arrN_one _ _ _) (fun w6 G6 hfar6 hb6 hsz6 => ⟨(Lib.hid (hHeld.out.trans (hb6.mono (by omega)))), fun hHeld => ?_⟩)
              replace G5 := Lib.hid ((hfar6 _ (by omega)).trans G5.out)
              replace G6 := Lib.hid G6
              try simp only [Act.put, List.setIfInBounds_toArray, List.set_cons_zero, List.set_cons_succ]
              refine r_done (by kernel_rfl) ?_
              go_wp2_with fail
              go_meet
              exact ⟨_, _, rfl, rfl, G5, G6, hHeld⟩
          · refine r_alloc 35 (arrN .u16 64 (fun _ => 0)) (by rfl) rfl (run_alloc_rowOp 35 (arrN .u16 64 (fun _ => 0)) rfl hz35) (fun w2 G5 hb2 hsz2 => ⟨(Lib.hid (hHeld.out.trans (hb2.mono hHeld.out.size))), fun hHeld => ?_⟩)
            have hle2 := hHeld.out.size
            replace G5 := Lib.hid G5
            try simp only [Act.put, List.setIfInBounds_toArray, List.set_cons_zero, List.set_cons_succ]
            refine r_two (i := 3) (Ni := some 24) (j := 5) (Nj := some 6) #[true, true, true, true, true, false, false, false] #[true, true, true, false, true, true, false, false] rfl rfl rfl rfl (by kernel_rfl) ?_ ?_
            · refine r_call Tryd.func20 (by kernel_rfl) rfl #[.agg (arrN .u16 64 q)] (by rfl) rfl rfl (by simp only [List.map_toArray, List.map_cons, List.map_nil]; first | done | rfl) ?_
              with_reducible refine (swapU _ _ (HL.out.below (Hb.out.trans (hHeld.out.mono Hb.out.size)))).mono ?_
              rintro e w3 ⟨rfl, hb3⟩
              refine ⟨_, rfl, (Lib.hid (hHeld.out.trans (hb3.mono hHeld.out.size))), fun hHeld => ?_⟩
              replace G5 := Lib.hid (G5.out.bel hb3)
              have hle3 := hb3.size
              try simp only [Act.put, List.setIfInBounds_toArray, List.set_cons_zero, List.set_cons_succ]
              refine r_one (i := 5) (N := some 6) #[true, true, true, true, true, true, false, false] rfl rfl (by kernel_rfl) ?_
              refine r_alloc 35 (arrN .u16 64 (fun _ => 0)) (by rfl) rfl (run_alloc_rowOp 35 (arrN .u16 64 (fun _ => 0)) rfl hz35) (fun w4 G6 hb4 hsz4 => ⟨(Lib.hid (hHeld.out.trans (hb4.mono hHeld.out.size))), fun hHeld => ?_⟩)
              have hle4 := hHeld.out.size
              replace G5 := Lib.hid (G5.out.bel hb4)
              replace G6 := Lib.hid G6
              try simp only [Act.put, List.setIfInBounds_toArray, List.set_cons_zero, List.set_cons_succ]
              refine r_one (i := 6) (N := none) #[true, true, true, true, true, true, true, false] rfl rfl (by kernel_rfl) ?_
              have hge5 := hHeld.out.size
              refine r_row 35 (.tmp 5) (.tmp 22) _ (arrN .u16 64 (fun j => q (ord j))) 35 _ (by rfl) rfl rfl rfl rfl G5.out (by rw [arrN_size]; kernel_rfl) (by rw [arrN_size, arrN_size]) (arrN_one _ _ _) (fun w5 G5 hfar5 hb5 hsz5 => ⟨(Lib.hid (hHeld.out.trans (hb5.mono (by omega)))), fun hHeld => ?_⟩)
              replace G6 := Lib.hid ((hfar5 _ (by omega)).trans G6.out)
              replace G5 := Lib.hid G5
              try simp only [Act.put, List.setIfInBounds_toArray, List.set_cons_zero, List.set_cons_succ]
              refine r_one (i := 7) (N := none) #[true, true, true, true, true, true, true, true] rfl rfl (by kernel_rfl) ?_
              have hge6 := hHeld.out.size
              refine r_row 35 (.tmp 6) (.tmp 24) _ (arrN .u16 64 (fun j => q (swp j))) 35 _ (by rfl) rfl rfl rfl rfl G6.out (by rw [arrN_size]; kernel_rfl) (by rw [arrN_size, arrN_size]) (arrN_one _ _ _) (fun w6 G6 hfar6 hb6 hsz6 => ⟨(Lib.hid (hHeld.out.trans (hb6.mono (by omega)))), fun hHeld => ?_⟩)
              replace G5 := Lib.hid ((hfar6 _ (by omega)).trans G5.out)
              replace G6 := Lib.hid G6
              try simp only [Act.put, List.setIfInBounds_toArray, List.set_cons_zero, List.set_cons_succ]
              refine r_done (by kernel_rfl) ?_
              go_wp2_with fail
              go_meet
              exact ⟨_, _, rfl, rfl, G5, G6, hHeld⟩
            · refine r_alloc 35 (arrN .u16 64 (fun _ => 0)) (by rfl) rfl (run_alloc_rowOp 35 (arrN .u16 64 (fun _ => 0)) rfl hz35) (fun w3 G6 hb3 hsz3 => ⟨(Lib.hid (hHeld.out.trans (hb3.mono hHeld.out.size))), fun hHeld => ?_⟩)
              have hle3 := hHeld.out.size
              replace G5 := Lib.hid (G5.out.bel hb3)
              replace G6 := Lib.hid G6
              try simp only [Act.put, List.setIfInBounds_toArray, List.set_cons_zero, List.set_cons_succ]
              refine r_one (i := 3) (N := some 24) #[true, true, true, true, true, true, false, false] rfl rfl (by kernel_rfl) ?_
              refine r_call Tryd.func20 (by kernel_rfl) rfl #[.agg (arrN .u16 64 q)] (by rfl) rfl rfl (by simp only [List.map_toArray, List.map_cons, List.map_nil]; first | done | rfl) ?_
              with_reducible refine (swapU _ _ (HL.out.below (Hb.out.trans (hHeld.out.mono Hb.out.size)))).mono ?_
              rintro e w4 ⟨rfl, hb4⟩
              refine ⟨_, rfl, (Lib.hid (hHeld.out.trans (hb4.mono hHeld.out.size))), fun hHeld => ?_⟩
              replace G5 := Lib.hid (G5.out.bel hb4)
              replace G6 := Lib.hid (G6.out.bel hb4)
              have hle4 := hb4.size
              try simp only [Act.put, List.setIfInBounds_toArray, List.set_cons_zero, List.set_cons_succ]
              refine r_one (i := 6) (N := none) #[true, true, true, true, true, true, true, false] rfl rfl (by kernel_rfl) ?_
              have hge5 := hHeld.out.size
              refine r_row 35 (.tmp 5) (.tmp 22) _ (arrN .u16 64 (fun j => q (ord j))) 35 _ (by rfl) rfl rfl rfl rfl G5.out (by rw [arrN_size]; kernel_rfl) (by rw [arrN_size, arrN_size]) (arrN_one _ _ _) (fun w5 G5 hfar5 hb5 hsz5 => ⟨(Lib.hid (hHeld.out.trans (hb5.mono (by omega)))), fun hHeld => ?_⟩)
              replace G6 := Lib.hid ((hfar5 _ (by omega)).trans G6.out)
              replace G5 := Lib.hid G5
              try simp only [Act.put, List.setIfInBounds_toArray, List.set_cons_zero, List.set_cons_succ]
              refine r_one (i := 7) (N := none) #[true, true, true, true, true, true, true, true] rfl rfl (by kernel_rfl) ?_
              have hge6 := hHeld.out.size
              refine r_row 35 (.tmp 6) (.tmp 24) _ (arrN .u16 64 (fun j => q (swp j))) 35 _ (by rfl) rfl rfl rfl rfl G6.out (by rw [arrN_size]; kernel_rfl) (by rw [arrN_size, arrN_size]) (arrN_one _ _ _) (fun w6 G6 hfar6 hb6 hsz6 => ⟨(Lib.hid (hHeld.out.trans (hb6.mono (by omega)))), fun hHeld => ?_⟩)
              replace G5 := Lib.hid ((hfar6 _ (by omega)).trans G5.out)
              replace G6 := Lib.hid G6
              try simp only [Act.put, List.setIfInBounds_toArray, List.set_cons_zero, List.set_cons_succ]
              refine r_done (by kernel_rfl) ?_
              go_wp2_with fail
              go_meet
              exact ⟨_, _, rfl, rfl, G5, G6, hHeld⟩
          · refine r_alloc 35 (arrN .u16 64 (fun _ => 0)) (by rfl) rfl (run_alloc_rowOp 35 (arrN .u16 64 (fun _ => 0)) rfl hz35) (fun w2 G6 hb2 hsz2 => ⟨(Lib.hid (hHeld.out.trans (hb2.mono hHeld.out.size))), fun hHeld => ?_⟩)
            have hle2 := hHeld.out.size
            replace G6 := Lib.hid G6
            try simp only [Act.put, List.setIfInBounds_toArray, List.set_cons_zero, List.set_cons_succ]
            refine r_two (i := 3) (Ni := some 24) (j := 4) (Nj := some 5) #[true, true, true, true, false, true, false, false] #[true, true, true, false, true, true, false, false] rfl rfl rfl rfl (by kernel_rfl) ?_ ?_
            · refine r_call Tryd.func20 (by kernel_rfl) rfl #[.agg (arrN .u16 64 q)] (by rfl) rfl rfl (by simp only [List.map_toArray, List.map_cons, List.map_nil]; first | done | rfl) ?_
              with_reducible refine (swapU _ _ (HL.out.below (Hb.out.trans (hHeld.out.mono Hb.out.size)))).mono ?_
              rintro e w3 ⟨rfl, hb3⟩
              refine ⟨_, rfl, (Lib.hid (hHeld.out.trans (hb3.mono hHeld.out.size))), fun hHeld => ?_⟩
              replace G6 := Lib.hid (G6.out.bel hb3)
              have hle3 := hb3.size
              try simp only [Act.put, List.setIfInBounds_toArray, List.set_cons_zero, List.set_cons_succ]
              refine r_one (i := 4) (N := some 5) #[true, true, true, true, true, true, false, false] rfl rfl (by kernel_rfl) ?_
              refine r_alloc 35 (arrN .u16 64 (fun _ => 0)) (by rfl) rfl (run_alloc_rowOp 35 (arrN .u16 64 (fun _ => 0)) rfl hz35) (fun w4 G5 hb4 hsz4 => ⟨(Lib.hid (hHeld.out.trans (hb4.mono hHeld.out.size))), fun hHeld => ?_⟩)
              have hle4 := hHeld.out.size
              replace G6 := Lib.hid (G6.out.bel hb4)
              replace G5 := Lib.hid G5
              try simp only [Act.put, List.setIfInBounds_toArray, List.set_cons_zero, List.set_cons_succ]
              refine r_one (i := 6) (N := none) #[true, true, true, true, true, true, true, false] rfl rfl (by kernel_rfl) ?_
              have hge5 := hHeld.out.size
              refine r_row 35 (.tmp 5) (.tmp 22) _ (arrN .u16 64 (fun j => q (ord j))) 35 _ (by rfl) rfl rfl rfl rfl G5.out (by rw [arrN_size]; kernel_rfl) (by rw [arrN_size, arrN_size]) (arrN_one _ _ _) (fun w5 G5 hfar5 hb5 hsz5 => ⟨(Lib.hid (hHeld.out.trans (hb5.mono (by omega)))), fun hHeld => ?_⟩)
              replace G6 := Lib.hid ((hfar5 _ (by omega)).trans G6.out)
              replace G5 := Lib.hid G5
              try simp only [Act.put, List.setIfInBounds_toArray, List.set_cons_zero, List.set_cons_succ]
              refine r_one (i := 7) (N := none) #[true, true, true, true, true, true, true, true] rfl rfl (by kernel_rfl) ?_
              have hge6 := hHeld.out.size
              refine r_row 35 (.tmp 6) (.tmp 24) _ (arrN .u16 64 (fun j => q (swp j))) 35 _ (by rfl) rfl rfl rfl rfl G6.out (by rw [arrN_size]; kernel_rfl) (by rw [arrN_size, arrN_size]) (arrN_one _ _ _) (fun w6 G6 hfar6 hb6 hsz6 => ⟨(Lib.hid (hHeld.out.trans (hb6.mono (by omega)))), fun hHeld => ?_⟩)
              replace G5 := Lib.hid ((hfar6 _ (by omega)).trans G5.out)
              replace G6 := Lib.hid G6
              try simp only [Act.put, List.setIfInBounds_toArray, List.set_cons_zero, List.set_cons_succ]
              refine r_done (by kernel_rfl) ?_
              go_wp2_with fail
              go_meet
              exact ⟨_, _, rfl, rfl, G5, G6, hHeld⟩
            · refine r_alloc 35 (arrN .u16 64 (fun _ => 0)) (by rfl) rfl (run_alloc_rowOp 35 (arrN .u16 64 (fun _ => 0)) rfl hz35) (fun w3 G5 hb3 hsz3 => ⟨(Lib.hid (hHeld.out.trans (hb3.mono hHeld.out.size))), fun hHeld => ?_⟩)
              have hle3 := hHeld.out.size
              replace G6 := Lib.hid (G6.out.bel hb3)
              replace G5 := Lib.hid G5
              try simp only [Act.put, List.setIfInBounds_toArray, List.set_cons_zero, List.set_cons_succ]
              refine r_one (i := 3) (N := some 24) #[true, true, true, true, true, true, false, false] rfl rfl (by kernel_rfl) ?_
              refine r_call Tryd.func20 (by kernel_rfl) rfl #[.agg (arrN .u16 64 q)] (by rfl) rfl rfl (by simp only [List.map_toArray, List.map_cons, List.map_nil]; first | done | rfl) ?_
              with_reducible refine (swapU _ _ (HL.out.below (Hb.out.trans (hHeld.out.mono Hb.out.size)))).mono ?_
              rintro e w4 ⟨rfl, hb4⟩
              refine ⟨_, rfl, (Lib.hid (hHeld.out.trans (hb4.mono hHeld.out.size))), fun hHeld => ?_⟩
              replace G5 := Lib.hid (G5.out.bel hb4)
              replace G6 := Lib.hid (G6.out.bel hb4)
              have hle4 := hb4.size
              try simp only [Act.put, List.setIfInBounds_toArray, List.set_cons_zero, List.set_cons_succ]
              refine r_one (i := 6) (N := none) #[true, true, true, true, true, true, true, false] rfl rfl (by kernel_rfl) ?_
              have hge5 := hHeld.out.size
              refine r_row 35 (.tmp 5) (.tmp 22) _ (arrN .u16 64 (fun j => q (ord j))) 35 _ (by rfl) rfl rfl rfl rfl G5.out (by rw [arrN_size]; kernel_rfl) (by rw [arrN_size, arrN_size]) (arrN_one _ _ _) (fun w5 G5 hfar5 hb5 hsz5 => ⟨(Lib.hid (hHeld.out.trans (hb5.mono (by omega)))), fun hHeld => ?_⟩)
              replace G6 := Lib.hid ((hfar5 _ (by omega)).trans G6.out)
              replace G5 := Lib.hid G5
              try simp only [Act.put, List.setIfInBounds_toArray, List.set_cons_zero, List.set_cons_succ]
              refine r_one (i := 7) (N := none) #[true, true, true, true, true, true, true, true] rfl rfl (by kernel_rfl) ?_
              have hge6 := hHeld.out.size
              refine r_row 35 (.tmp 6) (.tmp 24) _ (arrN .u16 64 (fun j => q (swp j))) 35 _ (by rfl) rfl rfl rfl rfl G6.out (by rw [arrN_size]; kernel_rfl) (by rw [arrN_size, arrN_size]) (arrN_one _ _ _) (fun w6 G6 hfar6 hb6 hsz6 => ⟨(Lib.hid (hHeld.out.trans (hb6.mono (by omega)))), fun hHeld => ?_⟩)
              replace G5 := Lib.hid ((hfar6 _ (by omega)).trans G5.out)
              replace G6 := Lib.hid G6
              try simp only [Act.put, List.setIfInBounds_toArray, List.set_cons_zero, List.set_cons_succ]
              refine r_done (by kernel_rfl) ?_
              go_wp2_with fail
              go_meet
              exact ⟨_, _, rfl, rfl, G5, G6, hHeld⟩
        · refine r_alloc 35 (arrN .u16 64 (fun _ => 0)) (by rfl) rfl (run_alloc_rowOp 35 (arrN .u16 64 (fun _ => 0)) rfl hz35) (fun w1 G5 hb1 hsz1 => ⟨(Lib.hid (hHeld.out.trans (hb1.mono hHeld.out.size))), fun hHeld => ?_⟩)
          have hle1 := hHeld.out.size
          replace G5 := Lib.hid G5
          try simp only [Act.put, List.setIfInBounds_toArray, List.set_cons_zero, List.set_cons_succ]
          refine r_two (i := 1) (Ni := some 22) (j := 5) (Nj := some 6) #[true, true, true, false, true, false, false, false] #[true, false, true, false, true, true, false, false] rfl rfl rfl rfl (by kernel_rfl) ?_ ?_
          · refine r_call Tryd.func19 (by kernel_rfl) rfl #[.agg (arrN .u16 64 q)] (by rfl) rfl rfl (by simp only [List.map_toArray, List.map_cons, List.map_nil]; first | done | rfl) ?_
            with_reducible refine (zigU _ _ (HL.out.below (Hb.out.trans (hHeld.out.mono Hb.out.size)))).mono ?_
            rintro e w2 ⟨rfl, hb2⟩
            refine ⟨_, rfl, (Lib.hid (hHeld.out.trans (hb2.mono hHeld.out.size))), fun hHeld => ?_⟩
            replace G5 := Lib.hid (G5.out.bel hb2)
            have hle2 := hb2.size
            try simp only [Act.put, List.setIfInBounds_toArray, List.set_cons_zero, List.set_cons_succ]
            refine r_two (i := 3) (Ni := some 24) (j := 5) (Nj := some 6) #[true, true, true, true, true, false, false, false] #[true, true, true, false, true, true, false, false] rfl rfl rfl rfl (by kernel_rfl) ?_ ?_
            · refine r_call Tryd.func20 (by kernel_rfl) rfl #[.agg (arrN .u16 64 q)] (by rfl) rfl rfl (by simp only [List.map_toArray, List.map_cons, List.map_nil]; first | done | rfl) ?_
              with_reducible refine (swapU _ _ (HL.out.below (Hb.out.trans (hHeld.out.mono Hb.out.size)))).mono ?_
              rintro e w3 ⟨rfl, hb3⟩
              refine ⟨_, rfl, (Lib.hid (hHeld.out.trans (hb3.mono hHeld.out.size))), fun hHeld => ?_⟩
              replace G5 := Lib.hid (G5.out.bel hb3)
              have hle3 := hb3.size
              try simp only [Act.put, List.setIfInBounds_toArray, List.set_cons_zero, List.set_cons_succ]
              refine r_one (i := 5) (N := some 6) #[true, true, true, true, true, true, false, false] rfl rfl (by kernel_rfl) ?_
              refine r_alloc 35 (arrN .u16 64 (fun _ => 0)) (by rfl) rfl (run_alloc_rowOp 35 (arrN .u16 64 (fun _ => 0)) rfl hz35) (fun w4 G6 hb4 hsz4 => ⟨(Lib.hid (hHeld.out.trans (hb4.mono hHeld.out.size))), fun hHeld => ?_⟩)
              have hle4 := hHeld.out.size
              replace G5 := Lib.hid (G5.out.bel hb4)
              replace G6 := Lib.hid G6
              try simp only [Act.put, List.setIfInBounds_toArray, List.set_cons_zero, List.set_cons_succ]
              refine r_one (i := 6) (N := none) #[true, true, true, true, true, true, true, false] rfl rfl (by kernel_rfl) ?_
              have hge5 := hHeld.out.size
              refine r_row 35 (.tmp 5) (.tmp 22) _ (arrN .u16 64 (fun j => q (ord j))) 35 _ (by rfl) rfl rfl rfl rfl G5.out (by rw [arrN_size]; kernel_rfl) (by rw [arrN_size, arrN_size]) (arrN_one _ _ _) (fun w5 G5 hfar5 hb5 hsz5 => ⟨(Lib.hid (hHeld.out.trans (hb5.mono (by omega)))), fun hHeld => ?_⟩)
              replace G6 := Lib.hid ((hfar5 _ (by omega)).trans G6.out)
              replace G5 := Lib.hid G5
              try simp only [Act.put, List.setIfInBounds_toArray, List.set_cons_zero, List.set_cons_succ]
              refine r_one (i := 7) (N := none) #[true, true, true, true, true, true, true, true] rfl rfl (by kernel_rfl) ?_
              have hge6 := hHeld.out.size
              refine r_row 35 (.tmp 6) (.tmp 24) _ (arrN .u16 64 (fun j => q (swp j))) 35 _ (by rfl) rfl rfl rfl rfl G6.out (by rw [arrN_size]; kernel_rfl) (by rw [arrN_size, arrN_size]) (arrN_one _ _ _) (fun w6 G6 hfar6 hb6 hsz6 => ⟨(Lib.hid (hHeld.out.trans (hb6.mono (by omega)))), fun hHeld => ?_⟩)
              replace G5 := Lib.hid ((hfar6 _ (by omega)).trans G5.out)
              replace G6 := Lib.hid G6
              try simp only [Act.put, List.setIfInBounds_toArray, List.set_cons_zero, List.set_cons_succ]
              refine r_done (by kernel_rfl) ?_
              go_wp2_with fail
              go_meet
              exact ⟨_, _, rfl, rfl, G5, G6, hHeld⟩
            · refine r_alloc 35 (arrN .u16 64 (fun _ => 0)) (by rfl) rfl (run_alloc_rowOp 35 (arrN .u16 64 (fun _ => 0)) rfl hz35) (fun w3 G6 hb3 hsz3 => ⟨(Lib.hid (hHeld.out.trans (hb3.mono hHeld.out.size))), fun hHeld => ?_⟩)
              have hle3 := hHeld.out.size
              replace G5 := Lib.hid (G5.out.bel hb3)
              replace G6 := Lib.hid G6
              try simp only [Act.put, List.setIfInBounds_toArray, List.set_cons_zero, List.set_cons_succ]
              refine r_one (i := 3) (N := some 24) #[true, true, true, true, true, true, false, false] rfl rfl (by kernel_rfl) ?_
              refine r_call Tryd.func20 (by kernel_rfl) rfl #[.agg (arrN .u16 64 q)] (by rfl) rfl rfl (by simp only [List.map_toArray, List.map_cons, List.map_nil]; first | done | rfl) ?_
              with_reducible refine (swapU _ _ (HL.out.below (Hb.out.trans (hHeld.out.mono Hb.out.size)))).mono ?_
              rintro e w4 ⟨rfl, hb4⟩
              refine ⟨_, rfl, (Lib.hid (hHeld.out.trans (hb4.mono hHeld.out.size))), fun hHeld => ?_⟩
              replace G5 := Lib.hid (G5.out.bel hb4)
              replace G6 := Lib.hid (G6.out.bel hb4)
              have hle4 := hb4.size
              try simp only [Act.put, List.setIfInBounds_toArray, List.set_cons_zero, List.set_cons_succ]
              refine r_one (i := 6) (N := none) #[true, true, true, true, true, true, true, false] rfl rfl (by kernel_rfl) ?_
              have hge5 := hHeld.out.size
              refine r_row 35 (.tmp 5) (.tmp 22) _ (arrN .u16 64 (fun j => q (ord j))) 35 _ (by rfl) rfl rfl rfl rfl G5.out (by rw [arrN_size]; kernel_rfl) (by rw [arrN_size, arrN_size]) (arrN_one _ _ _) (fun w5 G5 hfar5 hb5 hsz5 => ⟨(Lib.hid (hHeld.out.trans (hb5.mono (by omega)))), fun hHeld => ?_⟩)
              replace G6 := Lib.hid ((hfar5 _ (by omega)).trans G6.out)
              replace G5 := Lib.hid G5
              try simp only [Act.put, List.setIfInBounds_toArray, List.set_cons_zero, List.set_cons_succ]
              refine r_one (i := 7) (N := none) #[true, true, true, true, true, true, true, true] rfl rfl (by kernel_rfl) ?_
              have hge6 := hHeld.out.size
              refine r_row 35 (.tmp 6) (.tmp 24) _ (arrN .u16 64 (fun j => q (swp j))) 35 _ (by rfl) rfl rfl rfl rfl G6.out (by rw [arrN_size]; kernel_rfl) (by rw [arrN_size, arrN_size]) (arrN_one _ _ _) (fun w6 G6 hfar6 hb6 hsz6 => ⟨(Lib.hid (hHeld.out.trans (hb6.mono (by omega)))), fun hHeld => ?_⟩)
              replace G5 := Lib.hid ((hfar6 _ (by omega)).trans G5.out)
              replace G6 := Lib.hid G6
              try simp only [Act.put, List.setIfInBounds_toArray, List.set_cons_zero, List.set_cons_succ]
              refine r_done (by kernel_rfl) ?_
              go_wp2_with fail
              go_meet
              exact ⟨_, _, rfl, rfl, G5, G6, hHeld⟩
          · refine r_alloc 35 (arrN .u16 64 (fun _ => 0)) (by rfl) rfl (run_alloc_rowOp 35 (arrN .u16 64 (fun _ => 0)) rfl hz35) (fun w2 G6 hb2 hsz2 => ⟨(Lib.hid (hHeld.out.trans (hb2.mono hHeld.out.size))), fun hHeld => ?_⟩)
            have hle2 := hHeld.out.size
            replace G5 := Lib.hid (G5.out.bel hb2)
            replace G6 := Lib.hid G6
            try simp only [Act.put, List.setIfInBounds_toArray, List.set_cons_zero, List.set_cons_succ]
            refine r_one (i := 1) (N := some 22) #[true, true, true, false, true, true, false, false] rfl rfl (by kernel_rfl) ?_
            refine r_call Tryd.func19 (by kernel_rfl) rfl #[.agg (arrN .u16 64 q)] (by rfl) rfl rfl (by simp only [List.map_toArray, List.map_cons, List.map_nil]; first | done | rfl) ?_
            with_reducible refine (zigU _ _ (HL.out.below (Hb.out.trans (hHeld.out.mono Hb.out.size)))).mono ?_
            rintro e w3 ⟨rfl, hb3⟩
            refine ⟨_, rfl, (Lib.hid (hHeld.out.trans (hb3.mono hHeld.out.size))), fun hHeld => ?_⟩
            replace G5 := Lib.hid (G5.out.bel hb3)
            replace G6 := Lib.hid (G6.out.bel hb3)
            have hle3 := hb3.size
            try simp only [Act.put, List.setIfInBounds_toArray, List.set_cons_zero, List.set_cons_succ]
            refine r_one (i := 3) (N := some 24) #[true, true, true, true, true, true, false, false] rfl rfl (by kernel_rfl) ?_
            refine r_call Tryd.func20 (by kernel_rfl) rfl #[.agg (arrN .u16 64 q)] (by rfl) rfl rfl (by simp only [List.map_toArray, List.map_cons, List.map_nil]; first | done | rfl) ?_
            with_reducible refine (swapU _ _ (HL.out.below (Hb.out.trans (hHeld.out.mono Hb.out.size)))).mono ?_
            rintro e w4 ⟨rfl, hb4⟩
            refine ⟨_, rfl, (Lib.hid (hHeld.out.trans (hb4.mono hHeld.out.size))), fun hHeld => ?_⟩
            replace G5 := Lib.hid (G5.out.bel hb4)
            replace G6 := Lib.hid (G6.out.bel hb4)
            have hle4 := hb4.size
            try simp only [Act.put, List.setIfInBounds_toArray, List.set_cons_zero, List.set_cons_succ]
            refine r_one (i := 6) (N := none) #[true, true, true, true, true, true, true, false] rfl rfl (by kernel_rfl) ?_
            have hge5 := hHeld.out.size
            refine r_row 35 (.tmp 5) (.tmp 22) _ (arrN .u16 64 (fun j => q (ord j))) 35 _ (by rfl) rfl rfl rfl rfl G5.out (by rw [arrN_size]; kernel_rfl) (by rw [arrN_size, arrN_size]) (arrN_one _ _ _) (fun w5 G5 hfar5 hb5 hsz5 => ⟨(Lib.hid (hHeld.out.trans (hb5.mono (by omega)))), fun hHeld => ?_⟩)
            replace G6 := Lib.hid ((hfar5 _ (by omega)).trans G6.out)
            replace G5 := Lib.hid G5
            try simp only [Act.put, List.setIfInBounds_toArray, List.set_cons_zero, List.set_cons_succ]
            refine r_one (i := 7) (N := none) #[true, true, true, true, true, true, true, true] rfl rfl (by kernel_rfl) ?_
            have hge6 := hHeld.out.size
            refine r_row 35 (.tmp 6) (.tmp 24) _ (arrN .u16 64 (fun j => q (swp j))) 35 _ (by rfl) rfl rfl rfl rfl G6.out (by rw [arrN_size]; kernel_rfl) (by rw [arrN_size, arrN_size]) (arrN_one _ _ _) (fun w6 G6 hfar6 hb6 hsz6 => ⟨(Lib.hid (hHeld.out.trans (hb6.mono (by omega)))), fun hHeld => ?_⟩)
            replace G5 := Lib.hid ((hfar6 _ (by omega)).trans G5.out)
            replace G6 := Lib.hid G6
            try simp only [Act.put, List.setIfInBounds_toArray, List.set_cons_zero, List.set_cons_succ]
            refine r_done (by kernel_rfl) ?_
            go_wp2_with fail
            go_meet
            exact ⟨_, _, rfl, rfl, G5, G6, hHeld⟩
        · refine r_alloc 35 (arrN .u16 64 (fun _ => 0)) (by rfl) rfl (run_alloc_rowOp 35 (arrN .u16 64 (fun _ => 0)) rfl hz35) (fun w1 G6 hb1 hsz1 => ⟨(Lib.hid (hHeld.out.trans (hb1.mono hHeld.out.size))), fun hHeld => ?_⟩)
          have hle1 := hHeld.out.size
          replace G6 := Lib.hid G6
          try simp only [Act.put, List.setIfInBounds_toArray, List.set_cons_zero, List.set_cons_succ]
          refine r_two (i := 1) (Ni := some 22) (j := 4) (Nj := some 5) #[true, true, true, false, false, true, false, false] #[true, false, true, false, true, true, false, false] rfl rfl rfl rfl (by kernel_rfl) ?_ ?_
          · refine r_call Tryd.func19 (by kernel_rfl) rfl #[.agg (arrN .u16 64 q)] (by rfl) rfl rfl (by simp only [List.map_toArray, List.map_cons, List.map_nil]; first | done | rfl) ?_
            with_reducible refine (zigU _ _ (HL.out.below (Hb.out.trans (hHeld.out.mono Hb.out.size)))).mono ?_
            rintro e w2 ⟨rfl, hb2⟩
            refine ⟨_, rfl, (Lib.hid (hHeld.out.trans (hb2.mono hHeld.out.size))), fun hHeld => ?_⟩
            replace G6 := Lib.hid (G6.out.bel hb2)
            have hle2 := hb2.size
            try simp only [Act.put, List.setIfInBounds_toArray, List.set_cons_zero, List.set_cons_succ]
            refine r_two (i := 3) (Ni := some 24) (j := 4) (Nj := some 5) #[true, true, true, true, false, true, false, false] #[true, true, true, false, true, true, false, false] rfl rfl rfl rfl (by kernel_rfl) ?_ ?_
            · refine r_call Tryd.func20 (by kernel_rfl) rfl #[.agg (arrN .u16 64 q)] (by rfl) rfl rfl (by simp only [List.map_toArray, List.map_cons, List.map_nil]; first | done | rfl) ?_
              with_reducible refine (swapU _ _ (HL.out.below (Hb.out.trans (hHeld.out.mono Hb.out.size)))).mono ?_
              rintro e w3 ⟨rfl, hb3⟩
              refine ⟨_, rfl, (Lib.hid (hHeld.out.trans (hb3.mono hHeld.out.size))), fun hHeld => ?_⟩
              replace G6 := Lib.hid (G6.out.bel hb3)
              have hle3 := hb3.size
              try simp only [Act.put, List.setIfInBounds_toArray, List.set_cons_zero, List.set_cons_succ]
              refine r_one (i := 4) (N := some 5) #[true, true, true, true, true, true, false, false] rfl rfl (by kernel_rfl) ?_
              refine r_alloc 35 (arrN .u16 64 (fun _ => 0)) (by rfl) rfl (run_alloc_rowOp 35 (arrN .u16 64 (fun _ => 0)) rfl hz35) (fun w4 G5 hb4 hsz4 => ⟨(Lib.hid (hHeld.out.trans (hb4.mono hHeld.out.size))), fun hHeld => ?_⟩)
              have hle4 := hHeld.out.size
              replace G6 := Lib.hid (G6.out.bel hb4)
              replace G5 := Lib.hid G5
              try simp only [Act.put, List.setIfInBounds_toArray, List.set_cons_zero, List.set_cons_succ]
              refine r_one (i := 6) (N := none) #[true, true, true, true, true, true, true, false] rfl rfl (by kernel_rfl) ?_
              have hge5 := hHeld.out.size
              refine r_row 35 (.tmp 5) (.tmp 22) _ (arrN .u16 64 (fun j => q (ord j))) 35 _ (by rfl) rfl rfl rfl rfl G5.out (by rw [arrN_size]; kernel_rfl) (by rw [arrN_size, arrN_size]) (arrN_one _ _ _) (fun w5 G5 hfar5 hb5 hsz5 => ⟨(Lib.hid (hHeld.out.trans (hb5.mono (by omega)))), fun hHeld => ?_⟩)
              replace G6 := Lib.hid ((hfar5 _ (by omega)).trans G6.out)
              replace G5 := Lib.hid G5
              try simp only [Act.put, List.setIfInBounds_toArray, List.set_cons_zero, List.set_cons_succ]
              refine r_one (i := 7) (N := none) #[true, true, true, true, true, true, true, true] rfl rfl (by kernel_rfl) ?_
              have hge6 := hHeld.out.size
              refine r_row 35 (.tmp 6) (.tmp 24) _ (arrN .u16 64 (fun j => q (swp j))) 35 _ (by rfl) rfl rfl rfl rfl G6.out (by rw [arrN_size]; kernel_rfl) (by rw [arrN_size, arrN_size]) (arrN_one _ _ _) (fun w6 G6 hfar6 hb6 hsz6 => ⟨(Lib.hid (hHeld.out.trans (hb6.mono (by omega)))), fun hHeld => ?_⟩)
              replace G5 := Lib.hid ((hfar6 _ (by omega)).trans G5.out)
              replace G6 := Lib.hid G6
              try simp only [Act.put, List.setIfInBounds_toArray, List.set_cons_zero, List.set_cons_succ]
              refine r_done (by kernel_rfl) ?_
              go_wp2_with fail
              go_meet
              exact ⟨_, _, rfl, rfl, G5, G6, hHeld⟩
            · refine r_alloc 35 (arrN .u16 64 (fun _ => 0)) (by rfl) rfl (run_alloc_rowOp 35 (arrN .u16 64 (fun _ => 0)) rfl hz35) (fun w3 G5 hb3 hsz3 => ⟨(Lib.hid (hHeld.out.trans (hb3.mono hHeld.out.size))), fun hHeld => ?_⟩)
              have hle3 := hHeld.out.size
              replace G6 := Lib.hid (G6.out.bel hb3)
              replace G5 := Lib.hid G5
              try simp only [Act.put, List.setIfInBounds_toArray, List.set_cons_zero, List.set_cons_succ]
              refine r_one (i := 3) (N := some 24) #[true, true, true, true, true, true, false, false] rfl rfl (by kernel_rfl) ?_
              refine r_call Tryd.func20 (by kernel_rfl) rfl #[.agg (arrN .u16 64 q)] (by rfl) rfl rfl (by simp only [List.map_toArray, List.map_cons, List.map_nil]; first | done | rfl) ?_
              with_reducible refine (swapU _ _ (HL.out.below (Hb.out.trans (hHeld.out.mono Hb.out.size)))).mono ?_
              rintro e w4 ⟨rfl, hb4⟩
              refine ⟨_, rfl, (Lib.hid (hHeld.out.trans (hb4.mono hHeld.out.size))), fun hHeld => ?_⟩
              replace G5 := Lib.hid (G5.out.bel hb4)
              replace G6 := Lib.hid (G6.out.bel hb4)
              have hle4 := hb4.size
              try simp only [Act.put, List.setIfInBounds_toArray, List.set_cons_zero, List.set_cons_succ]
              refine r_one (i := 6) (N := none) #[true, true, true, true, true, true, true, false] rfl rfl (by kernel_rfl) ?_
              have hge5 := hHeld.out.size
              refine r_row 35 (.tmp 5) (.tmp 22) _ (arrN .u16 64 (fun j => q (ord j))) 35 _ (by rfl) rfl rfl rfl rfl G5.out (by rw [arrN_size]; kernel_rfl) (by rw [arrN_size, arrN_size]) (arrN_one _ _ _) (fun w5 G5 hfar5 hb5 hsz5 => ⟨(Lib.hid (hHeld.out.trans (hb5.mono (by omega)))), fun hHeld => ?_⟩)
              replace G6 := Lib.hid ((hfar5 _ (by omega)).trans G6.out)
              replace G5 := Lib.hid G5
              try simp only [Act.put, List.setIfInBounds_toArray, List.set_cons_zero, List.set_cons_succ]
              refine r_one (i := 7) (N := none) #[true, true, true, true, true, true, true, true] rfl rfl (by kernel_rfl) ?_
              have hge6 := hHeld.out.size
              refine r_row 35 (.tmp 6) (.tmp 24) _ (arrN .u16 64 (fun j => q (swp j))) 35 _ (by rfl) rfl rfl rfl rfl G6.out (by rw [arrN_size]; kernel_rfl) (by rw [arrN_size, arrN_size]) (arrN_one _ _ _) (fun w6 G6 hfar6 hb6 hsz6 => ⟨(Lib.hid (hHeld.out.trans (hb6.mono (by omega)))), fun hHeld => ?_⟩)
              replace G5 := Lib.hid ((hfar6 _ (by omega)).trans G5.out)
              replace G6 := Lib.hid G6
              try simp only [Act.put, List.setIfInBounds_toArray, List.set_cons_zero, List.set_cons_succ]
              refine r_done (by kernel_rfl) ?_
              go_wp2_with fail
              go_meet
              exact ⟨_, _, rfl, rfl, G5, G6, hHeld⟩
          · refine r_alloc 35 (arrN .u16 64 (fun _ => 0)) (by rfl) rfl (run_alloc_rowOp 35 (arrN .u16 64 (fun _ => 0)) rfl hz35) (fun w2 G5 hb2 hsz2 => ⟨(Lib.hid (hHeld.out.trans (hb2.mono hHeld.out.size))), fun hHeld => ?_⟩)
            have hle2 := hHeld.out.size
            replace G6 := Lib.hid (G6.out.bel hb2)
            replace G5 := Lib.hid G5
            try simp only [Act.put, List.setIfInBounds_toArray, List.set_cons_zero, List.set_cons_succ]
            refine r_one (i := 1) (N := some 22) #[true, true, true, false, true, true, false, false] rfl rfl (by kernel_rfl) ?_
            refine r_call Tryd.func19 (by kernel_rfl) rfl #[.agg (arrN .u16 64 q)] (by rfl) rfl rfl (by simp only [List.map_toArray, List.map_cons, List.map_nil]; first | done | rfl) ?_
            with_reducible refine (zigU _ _ (HL.out.below (Hb.out.trans (hHeld.out.mono Hb.out.size)))).mono ?_
            rintro e w3 ⟨rfl, hb3⟩
            refine ⟨_, rfl, (Lib.hid (hHeld.out.trans (hb3.mono hHeld.out.size))), fun hHeld => ?_⟩
            replace G5 := Lib.hid (G5.out.bel hb3)
            replace G6 := Lib.hid (G6.out.bel hb3)
            have hle3 := hb3.size
            try simp only [Act.put, List.setIfInBounds_toArray, List.set_cons_zero, List.set_cons_succ]
            refine r_one (i := 3) (N := some 24) #[true, true, true, true, true, true, false, false] rfl rfl (by kernel_rfl) ?_
            refine r_call Tryd.func20 (by kernel_rfl) rfl #[.agg (arrN .u16 64 q)] (by rfl) rfl rfl (by simp only [List.map_toArray, List.map_cons, List.map_nil]; first | done | rfl) ?_
            with_reducible refine (swapU _ _ (HL.out.below (Hb.out.trans (hHeld.out.mono Hb.out.size)))).mono ?_
            rintro e w4 ⟨rfl, hb4⟩
            refine ⟨_, rfl, (Lib.hid (hHeld.out.trans (hb4.mono hHeld.out.size))), fun hHeld => ?_⟩
            replace G5 := Lib.hid (G5.out.bel hb4)
            replace G6 := Lib.hid (G6.out.bel hb4)
            have hle4 := hb4.size
            try simp only [Act.put, List.setIfInBounds_toArray, List.set_cons_zero, List.set_cons_succ]
            refine r_one (i := 6) (N := none) #[true, true, true, true, true, true, true, false] rfl rfl (by kernel_rfl) ?_
            have hge5 := hHeld.out.size
            refine r_row 35 (.tmp 5) (.tmp 22) _ (arrN .u16 64 (fun j => q (ord j))) 35 _ (by rfl) rfl rfl rfl rfl G5.out (by rw [arrN_size]; kernel_rfl) (by rw [arrN_size, arrN_size]) (arrN_one _ _ _) (fun w5 G5 hfar5 hb5 hsz5 => ⟨(Lib.hid (hHeld.out.trans (hb5.mono (by omega)))), fun hHeld => ?_⟩)
            replace G6 := Lib.hid ((hfar5 _ (by omega)).trans G6.out)
            replace G5 := Lib.hid G5
            try simp only [Act.put, List.setIfInBounds_toArray, List.set_cons_zero, List.set_cons_succ]
            refine r_one (i := 7) (N := none) #[true, true, true, true, true, true, true, true] rfl rfl (by kernel_rfl) ?_
            have hge6 := hHeld.out.size
            refine r_row 35 (.tmp 6) (.tmp 24) _ (arrN .u16 64 (fun j => q (swp j))) 35 _ (by rfl) rfl rfl rfl rfl G6.out (by rw [arrN_size]; kernel_rfl) (by rw [arrN_size, arrN_size]) (arrN_one _ _ _) (fun w6 G6 hfar6 hb6 hsz6 => ⟨(Lib.hid (hHeld.out.trans (hb6.mono (by omega)))), fun hHeld => ?_⟩)
            replace G5 := Lib.hid ((hfar6 _ (by omega)).trans G5.out)
            replace G6 := Lib.hid G6
            try simp only [Act.put, List.setIfInBounds_toArray, List.set_cons_zero, List.set_cons_succ]
            refine r_done (by kernel_rfl) ?_
            go_wp2_with fail
            go_meet
            exact ⟨_, _, rfl, rfl, G5, G6, hHeld⟩
      case rest =>
        obtain ⟨wA, rfl⟩ : ∃ wA : World, wA = wc := ⟨_, rfl⟩
        obtain ⟨g5, g6, rfl, rfl, HG5, HG6, HB6⟩ := hcut
        have hdc : wA.drew.heap.size = wA.heap.size := rfl
        go_upto_region 7 with fail
        go_cut [7, 8] (fun s7 s8 wx => ∃ g7 g8 : Nat, s7 = .pointer (some ⟨g7, 0, none⟩) ∧ s8 = .pointer (some ⟨g8, 0, none⟩) ∧ Hid (Blk wx g7 29 (arrN .i16 64 (fun j => q (ord j) % 30000))) ∧ Hid (Blk wx g8 29 (arrN .i16 64 (fun j => q (swp j) % 30000))) ∧ Hid (Below wA.heap.size wA wx))
        case first =>
          refine r_start (n := 8) (S := (fun w' => Hid (Below wA.heap.size wA w'))) #[false, false, false, false, false, false, false, false] (by kernel_rfl) rfl rfl (Lib.hid ((Below.refl _ _).drew)) (fun hHeld => ?_)
          refine r_take (i := 0) (N := some 25) (v := .agg (arrN .i16 64 (fun j => q j % 30000))) (a' := ?_) #[true, false, false, false, false, false, false, false] rfl rfl (by kernel_rfl) (fun _ _ _ h => h) hHeld (yieldsIf_load_mid (by rfl) _ _ rfl _ _ rfl ((arrN .i16 64 (fun j => q j % 30000))).toList _ (fun _ h => rangeOf ((H3.out.bel HB6.out).bel h.out)) hu29 rfl hi29) ?_ ?_
          rotate_left
          · simp only [Act.put, List.setIfInBounds_toArray, List.set_cons_zero, List.set_cons_succ]
            rfl
          refine r_take (i := 2) (N := some 27) (v := .agg (arrN .i16 64 (fun j => q j % 30000))) (a' := ?_) #[true, false, true, false, false, false, false, false] rfl rfl (by kernel_rfl) (fun _ _ _ h => h) hHeld (yieldsIf_load_mid (by rfl) _ _ rfl _ _ rfl ((arrN .i16 64 (fun j => q j % 30000))).toList _ (fun _ h => rangeOf ((H3.out.bel HB6.out).bel h.out)) hu29 rfl hi29) ?_ ?_
          rotate_left
          · simp only [Act.put, List.setIfInBounds_toArray, List.set_cons_zero, List.set_cons_succ]
            rfl
          refine r_three (i := 1) (Ni := some 26) (j := 4) (Nj := some 7) (k := 5) (Nk := some 8) #[true, true, true, false, false, false, false, false] #[true, false, true, false, true, false, false, false] #[true, false, true, false, false, true, false, false] rfl rfl rfl rfl rfl rfl (by kernel_rfl) ?_ ?_ ?_
          · refine r_call Tryd.func15 (by kernel_rfl) rfl #[.agg (arrN .i16 64 (fun j => q j % 30000))] (by rfl) rfl rfl (by simp only [List.map_toArray, List.map_cons, List.map_nil]; first | done | rfl) ?_
            with_reducible refine (zig16 _ _ (HL.out.below (Hb.out.trans ((HB6.out.trans (hHeld.out.mono HB6.out.size)).mono Hb.out.size)))).mono ?_
            rintro e w1 ⟨rfl, hb1⟩
            refine ⟨_, rfl, (Lib.hid (hHeld.out.trans (hb1.mono hHeld.out.size))), fun hHeld => ?_⟩
            have hle1 := hb1.size
            try simp only [Act.put, List.setIfInBounds_toArray, List.set_cons_zero, List.set_cons_succ]
            refine r_three (i := 3) (Ni := some 28) (j := 4) (Nj := some 7) (k := 5) (Nk := some 8) #[true, true, true, true, false, false, false, false] #[true, true, true, false, true, false, false, false] #[true, true, true, false, false, true, false, false] rfl rfl rfl rfl rfl rfl (by kernel_rfl) ?_ ?_ ?_
            · refine r_call Tryd.func16 (by kernel_rfl) rfl #[.agg (arrN .i16 64 (fun j => q j % 30000))] (by rfl) rfl rfl (by simp only [List.map_toArray, List.map_cons, List.map_nil]; first | done | rfl) ?_
              with_reducible refine (swap16 _ _ (HL.out.below (Hb.out.trans ((HB6.out.trans (hHeld.out.mono HB6.out.size)).mono Hb.out.size)))).mono ?_
              rintro e w2 ⟨rfl, hb2⟩
              refine ⟨_, rfl, (Lib.hid (hHeld.out.trans (hb2.mono hHeld.out.size))), fun hHeld => ?_⟩
              have hle2 := hb2.size
              try simp only [Act.put, List.setIfInBounds_toArray, List.set_cons_zero, List.set_cons_succ]
              refine r_two (i := 4) (Ni := some 7) (j := 5) (Nj := some 8) #[true, true, true, true, true, false, false, false] #[true, true, true, true, false, true, false, false] rfl rfl rfl rfl (by kernel_rfl) ?_ ?_
              · refine r_alloc 29 (arrN .i16 64 (fun _ => 0)) (by rfl) rfl (run_alloc_rowOp 29 (arrN .i16 64 (fun _ => 0)) rfl hz29) (fun w3 G7 hb3 hsz3 => ⟨(Lib.hid (hHeld.out.trans (hb3.mono hHeld.out.size))), fun hHeld => ?_⟩)
                have hle3 := hHeld.out.size
                replace G7 := Lib.hid G7
                try simp only [Act.put, List.setIfInBounds_toArray, List.set_cons_zero, List.set_cons_succ]
                refine r_one (i := 5) (N := some 8) #[true, true, true, true, true, true, false, false] rfl rfl (by kernel_rfl) ?_
                refine r_alloc 29 (arrN .i16 64 (fun _ => 0)) (by rfl) rfl (run_alloc_rowOp 29 (arrN .i16 64 (fun _ => 0)) rfl hz29) (fun w4 G8 hb4 hsz4 => ⟨(Lib.hid (hHeld.out.trans (hb4.mono hHeld.out.size))), fun hHeld => ?_⟩)
                have hle4 := hHeld.out.size
                replace G7 := Lib.hid (G7.out.bel hb4)
                replace G8 := Lib.hid G8
                try simp only [Act.put, List.setIfInBounds_toArray, List.set_cons_zero, List.set_cons_succ]
                refine r_one (i := 6) (N := none) #[true, true, true, true, true, true, true, false] rfl rfl (by kernel_rfl) ?_
                have hge5 := hHeld.out.size
                refine r_row 29 (.tmp 7) (.tmp 26) _ (arrN .i16 64 (fun j => q (ord j) % 30000)) 29 _ (by rfl) rfl rfl rfl rfl G7.out (by rw [arrN_size]; kernel_rfl) (by rw [arrN_size, arrN_size]) (arrN_one _ _ _) (fun w5 G7 hfar5 hb5 hsz5 => ⟨(Lib.hid (hHeld.out.trans (hb5.mono (by omega)))), fun hHeld => ?_⟩)
                replace G8 := Lib.hid ((hfar5 _ (by omega)).trans G8.out)
                replace G7 := Lib.hid G7
                try simp only [Act.put, List.setIfInBounds_toArray, List.set_cons_zero, List.set_cons_succ]
                refine r_one (i := 7) (N := none) #[true, true, true, true, true, true, true, true] rfl rfl (by kernel_rfl) ?_
                have hge6 := hHeld.out.size
                refine r_row 29 (.tmp 8) (.tmp 28) _ (arrN .i16 64 (fun j => q (swp j) % 30000)) 29 _ (by rfl) rfl rfl rfl rfl G8.out (by rw [arrN_size]; kernel_rfl) (by rw [arrN_size, arrN_size]) (arrN_one _ _ _) (fun w6 G8 hfar6 hb6 hsz6 => ⟨(Lib.hid (hHeld.out.trans (hb6.mono (by omega)))), fun hHeld => ?_⟩)
                replace G7 := Lib.hid ((hfar6 _ (by omega)).trans G7.out)
                replace G8 := Lib.hid G8
                try simp only [Act.put, List.setIfInBounds_toArray, List.set_cons_zero, List.set_cons_succ]
                refine r_done (by kernel_rfl) ?_
                go_wp2_with fail
                go_meet
                exact ⟨_, _, rfl, rfl, G7, G8, hHeld⟩
              · refine r_alloc 29 (arrN .i16 64 (fun _ => 0)) (by rfl) rfl (run_alloc_rowOp 29 (arrN .i16 64 (fun _ => 0)) rfl hz29) (fun w3 G8 hb3 hsz3 => ⟨(Lib.hid (hHeld.out.trans (hb3.mono hHeld.out.size))), fun hHeld => ?_⟩)
                have hle3 := hHeld.out.size
                replace G8 := Lib.hid G8
                try simp only [Act.put, List.setIfInBounds_toArray, List.set_cons_zero, List.set_cons_succ]
                refine r_one (i := 4) (N := some 7) #[true, true, true, true, true, true, false, false] rfl rfl (by kernel_rfl) ?_
                refine r_alloc 29 (arrN .i16 64 (fun _ => 0)) (by rfl) rfl (run_alloc_rowOp 29 (arrN .i16 64 (fun _ => 0)) rfl hz29) (fun w4 G7 hb4 hsz4 => ⟨(Lib.hid (hHeld.out.trans (hb4.mono hHeld.out.size))), fun hHeld => ?_⟩)
                have hle4 := hHeld.out.size
                replace G8 := Lib.hid (G8.out.bel hb4)
                replace G7 := Lib.hid G7
                try simp only [Act.put, List.setIfInBounds_toArray, List.set_cons_zero, List.set_cons_succ]
                refine r_one (i := 6) (N := none) #[true, true, true, true, true, true, true, false] rfl rfl (by kernel_rfl) ?_
                have hge5 := hHeld.out.size
                refine r_row 29 (.tmp 7) (.tmp 26) _ (arrN .i16 64 (fun j => q (ord j) % 30000)) 29 _ (by rfl) rfl rfl rfl rfl G7.out (by rw [arrN_size]; kernel_rfl) (by rw [arrN_size, arrN_size]) (arrN_one _ _ _) (fun w5 G7 hfar5 hb5 hsz5 => ⟨(Lib.hid (hHeld.out.trans (hb5.mono (by omega)))), fun hHeld => ?_⟩)
                replace G8 := Lib.hid ((hfar5 _ (by omega)).trans G8.out)
                replace G7 := Lib.hid G7
                try simp only [Act.put, List.setIfInBounds_toArray, List.set_cons_zero, List.set_cons_succ]
                refine r_one (i := 7) (N := none) #[true, true, true, true, true, true, true, true] rfl rfl (by kernel_rfl) ?_
                have hge6 := hHeld.out.size
                refine r_row 29 (.tmp 8) (.tmp 28) _ (arrN .i16 64 (fun j => q (swp j) % 30000)) 29 _ (by rfl) rfl rfl rfl rfl G8.out (by rw [arrN_size]; kernel_rfl) (by rw [arrN_size, arrN_size]) (arrN_one _ _ _) (fun w6 G8 hfar6 hb6 hsz6 => ⟨(Lib.hid (hHeld.out.trans (hb6.mono (by omega)))), fun hHeld => ?_⟩)
                replace G7 := Lib.hid ((hfar6 _ (by omega)).trans G7.out)
                replace G8 := Lib.hid G8
                try simp only [Act.put, List.setIfInBounds_toArray, List.set_cons_zero, List.set_cons_succ]
                refine r_done (by kernel_rfl) ?_
                go_wp2_with fail
                go_meet
                exact ⟨_, _, rfl, rfl, G7, G8, hHeld⟩
            · refine r_alloc 29 (arrN .i16 64 (fun _ => 0)) (by rfl) rfl (run_alloc_rowOp 29 (arrN .i16 64 (fun _ => 0)) rfl hz29) (fun w2 G7 hb2 hsz2 => ⟨(Lib.hid (hHeld.out.trans (hb2.mono hHeld.out.size))), fun hHeld => ?_⟩)
              have hle2 := hHeld.out.size
              replace G7 := Lib.hid G7
              try simp only [Act.put, List.setIfInBounds_toArray, List.set_cons_zero, List.set_cons_succ]
              refine r_two (i := 3) (Ni := some 28) (j := 5) (Nj := some 8) #[true, true, true, true, true, false, false, false] #[true, true, true, false, true, true, false, false] rfl rfl rfl rfl (by kernel_rfl) ?_ ?_
              · refine r_call Tryd.func16 (by kernel_rfl) rfl #[.agg (arrN .i16 64 (fun j => q j % 30000))] (by rfl) rfl rfl (by simp only [List.map_toArray, List.map_cons, List.map_nil]; first | done | rfl) ?_
                with_reducible refine (swap16 _ _ (HL.out.below (Hb.out.trans ((HB6.out.trans (hHeld.out.mono HB6.out.size)).mono Hb.out.size)))).mono ?_
                rintro e w3 ⟨rfl, hb3⟩
                refine ⟨_, rfl, (Lib.hid (hHeld.out.trans (hb3.mono hHeld.out.size))), fun hHeld => ?_⟩
                replace G7 := Lib.hid (G7.out.bel hb3)
                have hle3 := hb3.size
                try simp only [Act.put, List.setIfInBounds_toArray, List.set_cons_zero, List.set_cons_succ]
                refine r_one (i := 5) (N := some 8) #[true, true, true, true, true, true, false, false] rfl rfl (by kernel_rfl) ?_
                refine r_alloc 29 (arrN .i16 64 (fun _ => 0)) (by rfl) rfl (run_alloc_rowOp 29 (arrN .i16 64 (fun _ => 0)) rfl hz29) (fun w4 G8 hb4 hsz4 => ⟨(Lib.hid (hHeld.out.trans (hb4.mono hHeld.out.size))), fun hHeld => ?_⟩)
                have hle4 := hHeld.out.size
                replace G7 := Lib.hid (G7.out.bel hb4)
                replace G8 := Lib.hid G8
                try simp only [Act.put, List.setIfInBounds_toArray, List.set_cons_zero, List.set_cons_succ]
                refine r_one (i := 6) (N := none) #[true, true, true, true, true, true, true, false] rfl rfl (by kernel_rfl) ?_
                have hge5 := hHeld.out.size
                refine r_row 29 (.tmp 7) (.tmp 26) _ (arrN .i16 64 (fun j => q (ord j) % 30000)) 29 _ (by rfl) rfl rfl rfl rfl G7.out (by rw [arrN_size]; kernel_rfl) (by rw [arrN_size, arrN_size]) (arrN_one _ _ _) (fun w5 G7 hfar5 hb5 hsz5 => ⟨(Lib.hid (hHeld.out.trans (hb5.mono (by omega)))), fun hHeld => ?_⟩)
                replace G8 := Lib.hid ((hfar5 _ (by omega)).trans G8.out)
                replace G7 := Lib.hid G7
                try simp only [Act.put, List.setIfInBounds_toArray, List.set_cons_zero, List.set_cons_succ]
                refine r_one (i := 7) (N := none) #[true, true, true, true, true, true, true, true] rfl rfl (by kernel_rfl) ?_
                have hge6 := hHeld.out.size
                refine r_row 29 (.tmp 8) (.tmp 28) _ (arrN .i16 64 (fun j => q (swp j) % 30000)) 29 _ (by rfl) rfl rfl rfl rfl G8.out (by rw [arrN_size]; kernel_rfl) (by rw [arrN_size, arrN_size]) (arrN_one _ _ _) (fun w6 G8 hfar6 hb6 hsz6 => ⟨(Lib.hid (hHeld.out.trans (hb6.mono (by omega)))), fun hHeld => ?_⟩)
                replace G7 := Lib.hid ((hfar6 _ (by omega)).trans G7.out)
                replace G8 := Lib.hid G8
                try simp only [Act.put, List.setIfInBounds_toArray, List.set_cons_zero, List.set_cons_succ]
                refine r_done (by kernel_rfl) ?_
                go_wp2_with fail
                go_meet
                exact ⟨_, _, rfl, rfl, G7, G8, hHeld⟩
              · refine r_alloc 29 (arrN .i16 64 (fun _ => 0)) (by rfl) rfl (run_alloc_rowOp 29 (arrN .i16 64 (fun _ => 0)) rfl hz29) (fun w3 G8 hb3 hsz3 => ⟨(Lib.hid (hHeld.out.trans (hb3.mono hHeld.out.size))), fun hHeld => ?_⟩)
                have hle3 := hHeld.out.size
                replace G7 := Lib.hid (G7.out.bel hb3)
                replace G8 := Lib.hid G8
                try simp only [Act.put, List.setIfInBounds_toArray, List.set_cons_zero, List.set_cons_succ]
                refine r_one (i := 3) (N := some 28) #[true, true, true, true, true, true, false, false] rfl rfl (by kernel_rfl) ?_
                refine r_call Tryd.func16 (by kernel_rfl) rfl #[.agg (arrN .i16 64 (fun j => q j % 30000))] (by rfl) rfl rfl (by simp only [List.map_toArray, List.map_cons, List.map_nil]; first | done | rfl) ?_
                with_reducible refine (swap16 _ _ (HL.out.below (Hb.out.trans ((HB6.out.trans (hHeld.out.mono HB6.out.size)).mono Hb.out.size)))).mono ?_
                rintro e w4 ⟨rfl, hb4⟩
                refine ⟨_, rfl, (Lib.hid (hHeld.out.trans (hb4.mono hHeld.out.size))), fun hHeld => ?_⟩
                replace G7 := Lib.hid (G7.out.bel hb4)
                replace G8 := Lib.hid (G8.out.bel hb4)
                have hle4 := hb4.size
                try simp only [Act.put, List.setIfInBounds_toArray, List.set_cons_zero, List.set_cons_succ]
                refine r_one (i := 6) (N := none) #[true, true, true, true, true, true, true, false] rfl rfl (by kernel_rfl) ?_
                have hge5 := hHeld.out.size
                refine r_row 29 (.tmp 7) (.tmp 26) _ (arrN .i16 64 (fun j => q (ord j) % 30000)) 29 _ (by rfl) rfl rfl rfl rfl G7.out (by rw [arrN_size]; kernel_rfl) (by rw [arrN_size, arrN_size]) (arrN_one _ _ _) (fun w5 G7 hfar5 hb5 hsz5 => ⟨(Lib.hid (hHeld.out.trans (hb5.mono (by omega)))), fun hHeld => ?_⟩)
                replace G8 := Lib.hid ((hfar5 _ (by omega)).trans G8.out)
                replace G7 := Lib.hid G7
                try simp only [Act.put, List.setIfInBounds_toArray, List.set_cons_zero, List.set_cons_succ]
                refine r_one (i := 7) (N := none) #[true, true, true, true, true, true, true, true] rfl rfl (by kernel_rfl) ?_
                have hge6 := hHeld.out.size
                refine r_row 29 (.tmp 8) (.tmp 28) _ (arrN .i16 64 (fun j => q (swp j) % 30000)) 29 _ (by rfl) rfl rfl rfl rfl G8.out (by rw [arrN_size]; kernel_rfl) (by rw [arrN_size, arrN_size]) (arrN_one _ _ _) (fun w6 G8 hfar6 hb6 hsz6 => ⟨(Lib.hid (hHeld.out.trans (hb6.mono (by omega)))), fun hHeld => ?_⟩)
                replace G7 := Lib.hid ((hfar6 _ (by omega)).trans G7.out)
                replace G8 := Lib.hid G8
                try simp only [Act.put, List.setIfInBounds_toArray, List.set_cons_zero, List.set_cons_succ]
                refine r_done (by kernel_rfl) ?_
                go_wp2_with fail
                go_meet
                exact ⟨_, _, rfl, rfl, G7, G8, hHeld⟩
            · refine r_alloc 29 (arrN .i16 64 (fun _ => 0)) (by rfl) rfl (run_alloc_rowOp 29 (arrN .i16 64 (fun _ => 0)) rfl hz29) (fun w2 G8 hb2 hsz2 => ⟨(Lib.hid (hHeld.out.trans (hb2.mono hHeld.out.size))), fun hHeld => ?_⟩)
              have hle2 := hHeld.out.size
              replace G8 := Lib.hid G8
              try simp only [Act.put, List.setIfInBounds_toArray, List.set_cons_zero, List.set_cons_succ]
              refine r_two (i := 3) (Ni := some 28) (j := 4) (Nj := some 7) #[true, true, true, true, false, true, false, false] #[true, true, true, false, true, true, false, false] rfl rfl rfl rfl (by kernel_rfl) ?_ ?_
              · refine r_call Tryd.func16 (by kernel_rfl) rfl #[.agg (arrN .i16 64 (fun j => q j % 30000))] (by rfl) rfl rfl (by simp only [List.map_toArray, List.map_cons, List.map_nil]; first | done | rfl) ?_
                with_reducible refine (swap16 _ _ (HL.out.below (Hb.out.trans ((HB6.out.trans (hHeld.out.mono HB6.out.size)).mono Hb.out.size)))).mono ?_
                rintro e w3 ⟨rfl, hb3⟩
                refine ⟨_, rfl, (Lib.hid (hHeld.out.trans (hb3.mono hHeld.out.size))), fun hHeld => ?_⟩
                replace G8 := Lib.hid (G8.out.bel hb3)
                have hle3 := hb3.size
                try simp only [Act.put, List.setIfInBounds_toArray, List.set_cons_zero, List.set_cons_succ]
                refine r_one (i := 4) (N := some 7) #[true, true, true, true, true, true, false, false] rfl rfl (by kernel_rfl) ?_
                refine r_alloc 29 (arrN .i16 64 (fun _ => 0)) (by rfl) rfl (run_alloc_rowOp 29 (arrN .i16 64 (fun _ => 0)) rfl hz29) (fun w4 G7 hb4 hsz4 => ⟨(Lib.hid (hHeld.out.trans (hb4.mono hHeld.out.size))), fun hHeld => ?_⟩)
                have hle4 := hHeld.out.size
                replace G8 := Lib.hid (G8.out.bel hb4)
                replace G7 := Lib.hid G7
                try simp only [Act.put, List.setIfInBounds_toArray, List.set_cons_zero, List.set_cons_succ]
                refine r_one (i := 6) (N := none) #[true, true, true, true, true, true, true, false] rfl rfl (by kernel_rfl) ?_
                have hge5 := hHeld.out.size
                refine r_row 29 (.tmp 7) (.tmp 26) _ (arrN .i16 64 (fun j => q (ord j) % 30000)) 29 _ (by rfl) rfl rfl rfl rfl G7.out (by rw [arrN_size]; kernel_rfl) (by rw [arrN_size, arrN_size]) (arrN_one _ _ _) (fun w5 G7 hfar5 hb5 hsz5 => ⟨(Lib.hid (hHeld.out.trans (hb5.mono (by omega)))), fun hHeld => ?_⟩)
                replace G8 := Lib.hid ((hfar5 _ (by omega)).trans G8.out)
                replace G7 := Lib.hid G7
                try simp only [Act.put, List.setIfInBounds_toArray, List.set_cons_zero, List.set_cons_succ]
                refine r_one (i := 7) (N := none) #[true, true, true, true, true, true, true, true] rfl rfl (by kernel_rfl) ?_
                have hge6 := hHeld.out.size
                refine r_row 29 (.tmp 8) (.tmp 28) _ (arrN .i16 64 (fun j => q (swp j) % 30000)) 29 _ (by rfl) rfl rfl rfl rfl G8.out (by rw [arrN_size]; kernel_rfl) (by rw [arrN_size, arrN_size]) (arrN_one _ _ _) (fun w6 G8 hfar6 hb6 hsz6 => ⟨(Lib.hid (hHeld.out.trans (hb6.mono (by omega)))), fun hHeld => ?_⟩)
                replace G7 := Lib.hid ((hfar6 _ (by omega)).trans G7.out)
                replace G8 := Lib.hid G8
                try simp only [Act.put, List.setIfInBounds_toArray, List.set_cons_zero, List.set_cons_succ]
                refine r_done (by kernel_rfl) ?_
                go_wp2_with fail
                go_meet
                exact ⟨_, _, rfl, rfl, G7, G8, hHeld⟩
              · refine r_alloc 29 (arrN .i16 64 (fun _ => 0)) (by rfl) rfl (run_alloc_rowOp 29 (arrN .i16 64 (fun _ => 0)) rfl hz29) (fun w3 G7 hb3 hsz3 => ⟨(Lib.hid (hHeld.out.trans (hb3.mono hHeld.out.size))), fun hHeld => ?_⟩)
                have hle3 := hHeld.out.size
                replace G8 := Lib.hid (G8.out.bel hb3)
                replace G7 := Lib.hid G7
                try simp only [Act.put, List.setIfInBounds_toArray, List.set_cons_zero, List.set_cons_succ]
                refine r_one (i := 3) (N := some 28) #[true, true, true, true, true, true, false, false] rfl rfl (by kernel_rfl) ?_
                refine r_call Tryd.func16 (by kernel_rfl) rfl #[.agg (arrN .i16 64 (fun j => q j % 30000))] (by rfl) rfl rfl (by simp only [List.map_toArray, List.map_cons, List.map_nil]; first | done | rfl) ?_
                with_reducible refine (swap16 _ _ (HL.out.below (Hb.out.trans ((HB6.out.trans (hHeld.out.mono HB6.out.size)).mono Hb.out.size)))).mono ?_
                rintro e w4 ⟨rfl, hb4⟩
                refine ⟨_, rfl, (Lib.hid (hHeld.out.trans (hb4.mono hHeld.out.size))), fun hHeld => ?_⟩
                replace G7 := Lib.hid (G7.out.bel hb4)
                replace G8 := Lib.hid (G8.out.bel hb4)
                have hle4 := hb4.size
                try simp only [Act.put, List.setIfInBounds_toArray, List.set_cons_zero, List.set_cons_succ]
                refine r_one (i := 6) (N := none) #[true, true, true, true, true, true, true, false] rfl rfl (by kernel_rfl) ?_
                have hge5 := hHeld.out.size
                refine r_row 29 (.tmp 7) (.tmp 26) _ (arrN .i16 64 (fun j => q (ord j) % 30000)) 29 _ (by rfl) rfl rfl rfl rfl G7.out (by rw [arrN_size]; kernel_rfl) (by rw [arrN_size, arrN_size]) (arrN_one _ _ _) (fun w5 G7 hfar5 hb5 hsz5 => ⟨(Lib.hid (hHeld.out.trans (hb5.mono (by omega)))), fun hHeld => ?_⟩)
                replace G8 := Lib.hid ((hfar5 _ (by omega)).trans G8.out)
                replace G7 := Lib.hid G7
                try simp only [Act.put, List.setIfInBounds_toArray, List.set_cons_zero, List.set_cons_succ]
                refine r_one (i := 7) (N := none) #[true, true, true, true, true, true, true, true] rfl rfl (by kernel_rfl) ?_
                have hge6 := hHeld.out.size
                refine r_row 29 (.tmp 8) (.tmp 28) _ (arrN .i16 64 (fun j => q (swp j) % 30000)) 29 _ (by rfl) rfl rfl rfl rfl G8.out (by rw [arrN_size]; kernel_rfl) (by rw [arrN_size, arrN_size]) (arrN_one _ _ _) (fun w6 G8 hfar6 hb6 hsz6 => ⟨(Lib.hid (hHeld.out.trans (hb6.mono (by omega)))), fun hHeld => ?_⟩)
                replace G7 := Lib.hid ((hfar6 _ (by omega)).trans G7.out)
                replace G8 := Lib.hid G8
                try simp only [Act.put, List.setIfInBounds_toArray, List.set_cons_zero, List.set_cons_succ]
                refine r_done (by kernel_rfl) ?_
                go_wp2_with fail
                go_meet
                exact ⟨_, _, rfl, rfl, G7, G8, hHeld⟩
          · refine r_alloc 29 (arrN .i16 64 (fun _ => 0)) (by rfl) rfl (run_alloc_rowOp 29 (arrN .i16 64 (fun _ => 0)) rfl hz29) (fun w1 G7 hb1 hsz1 => ⟨(Lib.hid (hHeld.out.trans (hb1.mono hHeld.out.size))), fun hHeld => ?_⟩)
            have hle1 := hHeld.out.size
            replace G7 := Lib.hid G7
            try simp only [Act.put, List.setIfInBounds_toArray, List.set_cons_zero, List.set_cons_succ]
            refine r_two (i := 1) (Ni := some 26) (j := 5) (Nj := some 8) #[true, true, true, false, true, false, false, false] #[true, false, true, false, true, true, false, false] rfl rfl rfl rfl (by kernel_rfl) ?_ ?_
            · refine r_call Tryd.func15 (by kernel_rfl) rfl #[.agg (arrN .i16 64 (fun j => q j % 30000))] (by rfl) rfl rfl (by simp only [List.map_toArray, List.map_cons, List.map_nil]; first | done | rfl) ?_
              with_reducible refine (zig16 _ _ (HL.out.below (Hb.out.trans ((HB6.out.trans (hHeld.out.mono HB6.out.size)).mono Hb.out.size)))).mono ?_
              rintro e w2 ⟨rfl, hb2⟩
              refine ⟨_, rfl, (Lib.hid (hHeld.out.trans (hb2.mono hHeld.out.size))), fun hHeld => ?_⟩
              replace G7 := Lib.hid (G7.out.bel hb2)
              have hle2 := hb2.size
              try simp only [Act.put, List.setIfInBounds_toArray, List.set_cons_zero, List.set_cons_succ]
              refine r_two (i := 3) (Ni := some 28) (j := 5) (Nj := some 8) #[true, true, true, true, true, false, false, false] #[true, true, true, false, true, true, false, false] rfl rfl rfl rfl (by kernel_rfl) ?_ ?_
              · refine r_call Tryd.func16 (by kernel_rfl) rfl #[.agg (arrN .i16 64 (fun j => q j % 30000))] (by rfl) rfl rfl (by simp only [List.map_toArray, List.map_cons, List.map_nil]; first | done | rfl) ?_
                with_reducible refine (swap16 _ _ (HL.out.below (Hb.out.trans ((HB6.out.trans (hHeld.out.mono HB6.out.size)).mono Hb.out.size)))).mono ?_
                rintro e w3 ⟨rfl, hb3⟩
                refine ⟨_, rfl, (Lib.hid (hHeld.out.trans (hb3.mono hHeld.out.size))), fun hHeld => ?_⟩
                replace G7 := Lib.hid (G7.out.bel hb3)
                have hle3 := hb3.size
                try simp only [Act.put, List.setIfInBounds_toArray, List.set_cons_zero, List.set_cons_succ]
                refine r_one (i := 5) (N := some 8) #[true, true, true, true, true, true, false, false] rfl rfl (by kernel_rfl) ?_
                refine r_alloc 29 (arrN .i16 64 (fun _ => 0)) (by rfl) rfl (run_alloc_rowOp 29 (arrN .i16 64 (fun _ => 0)) rfl hz29) (fun w4 G8 hb4 hsz4 => ⟨(Lib.hid (hHeld.out.trans (hb4.mono hHeld.out.size))), fun hHeld => ?_⟩)
                have hle4 := hHeld.out.size
                replace G7 := Lib.hid (G7.out.bel hb4)
                replace G8 := Lib.hid G8
                try simp only [Act.put, List.setIfInBounds_toArray, List.set_cons_zero, List.set_cons_succ]
                refine r_one (i := 6) (N := none) #[true, true, true, true, true, true, true, false] rfl rfl (by kernel_rfl) ?_
                have hge5 := hHeld.out.size
                refine r_row 29 (.tmp 7) (.tmp 26) _ (arrN .i16 64 (fun j => q (ord j) % 30000)) 29 _ (by rfl) rfl rfl rfl rfl G7.out (by rw [arrN_size]; kernel_rfl) (by rw [arrN_size, arrN_size]) (arrN_one _ _ _) (fun w5 G7 hfar5 hb5 hsz5 => ⟨(Lib.hid (hHeld.out.trans (hb5.mono (by omega)))), fun hHeld => ?_⟩)
                replace G8 := Lib.hid ((hfar5 _ (by omega)).trans G8.out)
                replace G7 := Lib.hid G7
                try simp only [Act.put, List.setIfInBounds_toArray, List.set_cons_zero, List.set_cons_succ]
                refine r_one (i := 7) (N := none) #[true, true, true, true, true, true, true, true] rfl rfl (by kernel_rfl) ?_
                have hge6 := hHeld.out.size
                refine r_row 29 (.tmp 8) (.tmp 28) _ (arrN .i16 64 (fun j => q (swp j) % 30000)) 29 _ (by rfl) rfl rfl rfl rfl G8.out (by rw [arrN_size]; kernel_rfl) (by rw [arrN_size, arrN_size]) (arrN_one _ _ _) (fun w6 G8 hfar6 hb6 hsz6 => ⟨(Lib.hid (hHeld.out.trans (hb6.mono (by omega)))), fun hHeld => ?_⟩)
                replace G7 := Lib.hid ((hfar6 _ (by omega)).trans G7.out)
                replace G8 := Lib.hid G8
                try simp only [Act.put, List.setIfInBounds_toArray, List.set_cons_zero, List.set_cons_succ]
                refine r_done (by kernel_rfl) ?_
                go_wp2_with fail
                go_meet
                exact ⟨_, _, rfl, rfl, G7, G8, hHeld⟩
              · refine r_alloc 29 (arrN .i16 64 (fun _ => 0)) (by rfl) rfl (run_alloc_rowOp 29 (arrN .i16 64 (fun _ => 0)) rfl hz29) (fun w3 G8 hb3 hsz3 => ⟨(Lib.hid (hHeld.out.trans (hb3.mono hHeld.out.size))), fun hHeld => ?_⟩)
                have hle3 := hHeld.out.size
                replace G7 := Lib.hid (G7.out.bel hb3)
                replace G8 := Lib.hid G8
                try simp only [Act.put, List.setIfInBounds_toArray, List.set_cons_zero, List.set_cons_succ]
                refine r_one (i := 3) (N := some 28) #[true, true, true, true, true, true, false, false] rfl rfl (by kernel_rfl) ?_
                refine r_call Tryd.func16 (by kernel_rfl) rfl #[.agg (arrN .i16 64 (fun j => q j % 30000))] (by rfl) rfl rfl (by simp only [List.map_toArray, List.map_cons, List.map_nil]; first | done | rfl) ?_
                with_reducible refine (swap16 _ _ (HL.out.below (Hb.out.trans ((HB6.out.trans (hHeld.out.mono HB6.out.size)).mono Hb.out.size)))).mono ?_
                rintro e w4 ⟨rfl, hb4⟩
                refine ⟨_, rfl, (Lib.hid (hHeld.out.trans (hb4.mono hHeld.out.size))), fun hHeld => ?_⟩
                replace G7 := Lib.hid (G7.out.bel hb4)
                replace G8 := Lib.hid (G8.out.bel hb4)
                have hle4 := hb4.size
                try simp only [Act.put, List.setIfInBounds_toArray, List.set_cons_zero, List.set_cons_succ]
                refine r_one (i := 6) (N := none) #[true, true, true, true, true, true, true, false] rfl rfl (by kernel_rfl) ?_
                have hge5 := hHeld.out.size
                refine r_row 29 (.tmp 7) (.tmp 26) _ (arrN .i16 64 (fun j => q (ord j) % 30000)) 29 _ (by rfl) rfl rfl rfl rfl G7.out (by rw [arrN_size]; kernel_rfl) (by rw [arrN_size, arrN_size]) (arrN_one _ _ _) (fun w5 G7 hfar5 hb5 hsz5 => ⟨(Lib.hid (hHeld.out.trans (hb5.mono (by omega)))), fun hHeld => ?_⟩)
                replace G8 := Lib.hid ((hfar5 _ (by omega)).trans G8.out)
                replace G7 := Lib.hid G7
                try simp only [Act.put, List.setIfInBounds_toArray, List.set_cons_zero, List.set_cons_succ]
                refine r_one (i := 7) (N := none) #[true, true, true, true, true, true, true, true] rfl rfl (by kernel_rfl) ?_
                have hge6 := hHeld.out.size
                refine r_row 29 (.tmp 8) (.tmp 28) _ (arrN .i16 64 (fun j => q (swp j) % 30000)) 29 _ (by rfl) rfl rfl rfl rfl G8.out (by rw [arrN_size]; kernel_rfl) (by rw [arrN_size, arrN_size]) (arrN_one _ _ _) (fun w6 G8 hfar6 hb6 hsz6 => ⟨(Lib.hid (hHeld.out.trans (hb6.mono (by omega)))), fun hHeld => ?_⟩)
                replace G7 := Lib.hid ((hfar6 _ (by omega)).trans G7.out)
                replace G8 := Lib.hid G8
                try simp only [Act.put, List.setIfInBounds_toArray, List.set_cons_zero, List.set_cons_succ]
                refine r_done (by kernel_rfl) ?_
                go_wp2_with fail
                go_meet
                exact ⟨_, _, rfl, rfl, G7, G8, hHeld⟩
            · refine r_alloc 29 (arrN .i16 64 (fun _ => 0)) (by rfl) rfl (run_alloc_rowOp 29 (arrN .i16 64 (fun _ => 0)) rfl hz29) (fun w2 G8 hb2 hsz2 => ⟨(Lib.hid (hHeld.out.trans (hb2.mono hHeld.out.size))), fun hHeld => ?_⟩)
              have hle2 := hHeld.out.size
              replace G7 := Lib.hid (G7.out.bel hb2)
              replace G8 := Lib.hid G8
              try simp only [Act.put, List.setIfInBounds_toArray, List.set_cons_zero, List.set_cons_succ]
              refine r_one (i := 1) (N := some 26) #[true, true, true, false, true, true, false, false] rfl rfl (by kernel_rfl) ?_
              refine r_call Tryd.func15 (by kernel_rfl) rfl #[.agg (arrN .i16 64 (fun j => q j % 30000))] (by rfl) rfl rfl (by simp only [List.map_toArray, List.map_cons, List.map_nil]; first | done | rfl) ?_
              with_reducible refine (zig16 _ _ (HL.out.below (Hb.out.trans ((HB6.out.trans (hHeld.out.mono HB6.out.size)).mono Hb.out.size)))).mono ?_
              rintro e w3 ⟨rfl, hb3⟩
              refine ⟨_, rfl, (Lib.hid (hHeld.out.trans (hb3.mono hHeld.out.size))), fun hHeld => ?_⟩
              replace G7 := Lib.hid (G7.out.bel hb3)
              replace G8 := Lib.hid (G8.out.bel hb3)
              have hle3 := hb3.size
              try simp only [Act.put, List.setIfInBounds_toArray, List.set_cons_zero, List.set_cons_succ]
              refine r_one (i := 3) (N := some 28) #[true, true, true, true, true, true, false, false] rfl rfl (by kernel_rfl) ?_
              refine r_call Tryd.func16 (by kernel_rfl) rfl #[.agg (arrN .i16 64 (fun j => q j % 30000))] (by rfl) rfl rfl (by simp only [List.map_toArray, List.map_cons, List.map_nil]; first | done | rfl) ?_
              with_reducible refine (swap16 _ _ (HL.out.below (Hb.out.trans ((HB6.out.trans (hHeld.out.mono HB6.out.size)).mono Hb.out.size)))).mono ?_
              rintro e w4 ⟨rfl, hb4⟩
              refine ⟨_, rfl, (Lib.hid (hHeld.out.trans (hb4.mono hHeld.out.size))), fun hHeld => ?_⟩
              replace G7 := Lib.hid (G7.out.bel hb4)
              replace G8 := Lib.hid (G8.out.bel hb4)
              have hle4 := hb4.size
              try simp only [Act.put, List.setIfInBounds_toArray, List.set_cons_zero, List.set_cons_succ]
              refine r_one (i := 6) (N := none) #[true, true, true, true, true, true, true, false] rfl rfl (by kernel_rfl) ?_
              have hge5 := hHeld.out.size
              refine r_row 29 (.tmp 7) (.tmp 26) _ (arrN .i16 64 (fun j => q (ord j) % 30000)) 29 _ (by rfl) rfl rfl rfl rfl G7.out (by rw [arrN_size]; kernel_rfl) (by rw [arrN_size, arrN_size]) (arrN_one _ _ _) (fun w5 G7 hfar5 hb5 hsz5 => ⟨(Lib.hid (hHeld.out.trans (hb5.mono (by omega)))), fun hHeld => ?_⟩)
              replace G8 := Lib.hid ((hfar5 _ (by omega)).trans G8.out)
              replace G7 := Lib.hid G7
              try simp only [Act.put, List.setIfInBounds_toArray, List.set_cons_zero, List.set_cons_succ]
              refine r_one (i := 7) (N := none) #[true, true, true, true, true, true, true, true] rfl rfl (by kernel_rfl) ?_
              have hge6 := hHeld.out.size
              refine r_row 29 (.tmp 8) (.tmp 28) _ (arrN .i16 64 (fun j => q (swp j) % 30000)) 29 _ (by rfl) rfl rfl rfl rfl G8.out (by rw [arrN_size]; kernel_rfl) (by rw [arrN_size, arrN_size]) (arrN_one _ _ _) (fun w6 G8 hfar6 hb6 hsz6 => ⟨(Lib.hid (hHeld.out.trans (hb6.mono (by omega)))), fun hHeld => ?_⟩)
              replace G7 := Lib.hid ((hfar6 _ (by omega)).trans G7.out)
              replace G8 := Lib.hid G8
              try simp only [Act.put, List.setIfInBounds_toArray, List.set_cons_zero, List.set_cons_succ]
              refine r_done (by kernel_rfl) ?_
              go_wp2_with fail
              go_meet
              exact ⟨_, _, rfl, rfl, G7, G8, hHeld⟩
          · refine r_alloc 29 (arrN .i16 64 (fun _ => 0)) (by rfl) rfl (run_alloc_rowOp 29 (arrN .i16 64 (fun _ => 0)) rfl hz29) (fun w1 G8 hb1 hsz1 => ⟨(Lib.hid (hHeld.out.trans (hb1.mono hHeld.out.size))), fun hHeld => ?_⟩)
            have hle1 := hHeld.out.size
            replace G8 := Lib.hid G8
            try simp only [Act.put, List.setIfInBounds_toArray, List.set_cons_zero, List.set_cons_succ]
            refine r_two (i := 1) (Ni := some 26) (j := 4) (Nj := some 7) #[true, true, true, false, false, true, false, false] #[true, false, true, false, true, true, false, false] rfl rfl rfl rfl (by kernel_rfl) ?_ ?_
            · refine r_call Tryd.func15 (by kernel_rfl) rfl #[.agg (arrN .i16 64 (fun j => q j % 30000))] (by rfl) rfl rfl (by simp only [List.map_toArray, List.map_cons, List.map_nil]; first | done | rfl) ?_
              with_reducible refine (zig16 _ _ (HL.out.below (Hb.out.trans ((HB6.out.trans (hHeld.out.mono HB6.out.size)).mono Hb.out.size)))).mono ?_
              rintro e w2 ⟨rfl, hb2⟩
              refine ⟨_, rfl, (Lib.hid (hHeld.out.trans (hb2.mono hHeld.out.size))), fun hHeld => ?_⟩
              replace G8 := Lib.hid (G8.out.bel hb2)
              have hle2 := hb2.size
              try simp only [Act.put, List.setIfInBounds_toArray, List.set_cons_zero, List.set_cons_succ]
              refine r_two (i := 3) (Ni := some 28) (j := 4) (Nj := some 7) #[true, true, true, true, false, true, false, false] #[true, true, true, false, true, true, false, false] rfl rfl rfl rfl (by kernel_rfl) ?_ ?_
              · refine r_call Tryd.func16 (by kernel_rfl) rfl #[.agg (arrN .i16 64 (fun j => q j % 30000))] (by rfl) rfl rfl (by simp only [List.map_toArray, List.map_cons, List.map_nil]; first | done | rfl) ?_
                with_reducible refine (swap16 _ _ (HL.out.below (Hb.out.trans ((HB6.out.trans (hHeld.out.mono HB6.out.size)).mono Hb.out.size)))).mono ?_
                rintro e w3 ⟨rfl, hb3⟩
                refine ⟨_, rfl, (Lib.hid (hHeld.out.trans (hb3.mono hHeld.out.size))), fun hHeld => ?_⟩
                replace G8 := Lib.hid (G8.out.bel hb3)
                have hle3 := hb3.size
                try simp only [Act.put, List.setIfInBounds_toArray, List.set_cons_zero, List.set_cons_succ]
                refine r_one (i := 4) (N := some 7) #[true, true, true, true, true, true, false, false] rfl rfl (by kernel_rfl) ?_
                refine r_alloc 29 (arrN .i16 64 (fun _ => 0)) (by rfl) rfl (run_alloc_rowOp 29 (arrN .i16 64 (fun _ => 0)) rfl hz29) (fun w4 G7 hb4 hsz4 => ⟨(Lib.hid (hHeld.out.trans (hb4.mono hHeld.out.size))), fun hHeld => ?_⟩)
                have hle4 := hHeld.out.size
                replace G8 := Lib.hid (G8.out.bel hb4)
                replace G7 := Lib.hid G7
                try simp only [Act.put, List.setIfInBounds_toArray, List.set_cons_zero, List.set_cons_succ]
                refine r_one (i := 6) (N := none) #[true, true, true, true, true, true, true, false] rfl rfl (by kernel_rfl) ?_
                have hge5 := hHeld.out.size
                refine r_row 29 (.tmp 7) (.tmp 26) _ (arrN .i16 64 (fun j => q (ord j) % 30000)) 29 _ (by rfl) rfl rfl rfl rfl G7.out (by rw [arrN_size]; kernel_rfl) (by rw [arrN_size, arrN_size]) (arrN_one _ _ _) (fun w5 G7 hfar5 hb5 hsz5 => ⟨(Lib.hid (hHeld.out.trans (hb5.mono (by omega)))), fun hHeld => ?_⟩)
                replace G8 := Lib.hid ((hfar5 _ (by omega)).trans G8.out)
                replace G7 := Lib.hid G7
                try simp only [Act.put, List.setIfInBounds_toArray, List.set_cons_zero, List.set_cons_succ]
                refine r_one (i := 7) (N := none) #[true, true, true, true, true, true, true, true] rfl rfl (by kernel_rfl) ?_
                have hge6 := hHeld.out.size
                refine r_row 29 (.tmp 8) (.tmp 28) _ (arrN .i16 64 (fun j => q (swp j) % 30000)) 29 _ (by rfl) rfl rfl rfl rfl G8.out (by rw [arrN_size]; kernel_rfl) (by rw [arrN_size, arrN_size]) (arrN_one _ _ _) (fun w6 G8 hfar6 hb6 hsz6 => ⟨(Lib.hid (hHeld.out.trans (hb6.mono (by omega)))), fun hHeld => ?_⟩)
                replace G7 := Lib.hid ((hfar6 _ (by omega)).trans G7.out)
                replace G8 := Lib.hid G8
                try simp only [Act.put, List.setIfInBounds_toArray, List.set_cons_zero, List.set_cons_succ]
                refine r_done (by kernel_rfl) ?_
                go_wp2_with fail
                go_meet
                exact ⟨_, _, rfl, rfl, G7, G8, hHeld⟩
              · refine r_alloc 29 (arrN .i16 64 (fun _ => 0)) (by rfl) rfl (run_alloc_rowOp 29 (arrN .i16 64 (fun _ => 0)) rfl hz29) (fun w3 G7 hb3 hsz3 => ⟨(Lib.hid (hHeld.out.trans (hb3.mono hHeld.out.size))), fun hHeld => ?_⟩)
                have hle3 := hHeld.out.size
                replace G8 := Lib.hid (G8.out.bel hb3)
                replace G7 := Lib.hid G7
                try simp only [Act.put, List.setIfInBounds_toArray, List.set_cons_zero, List.set_cons_succ]
                refine r_one (i := 3) (N := some 28) #[true, true, true, true, true, true, false, false] rfl rfl (by kernel_rfl) ?_
                refine r_call Tryd.func16 (by kernel_rfl) rfl #[.agg (arrN .i16 64 (fun j => q j % 30000))] (by rfl) rfl rfl (by simp only [List.map_toArray, List.map_cons, List.map_nil]; first | done | rfl) ?_
                with_reducible refine (swap16 _ _ (HL.out.below (Hb.out.trans ((HB6.out.trans (hHeld.out.mono HB6.out.size)).mono Hb.out.size)))).mono ?_
                rintro e w4 ⟨rfl, hb4⟩
                refine ⟨_, rfl, (Lib.hid (hHeld.out.trans (hb4.mono hHeld.out.size))), fun hHeld => ?_⟩
                replace G7 := Lib.hid (G7.out.bel hb4)
                replace G8 := Lib.hid (G8.out.bel hb4)
                have hle4 := hb4.size
                try simp only [Act.put, List.setIfInBounds_toArray, List.set_cons_zero, List.set_cons_succ]
                refine r_one (i := 6) (N := none) #[true, true, true, true, true, true, true, false] rfl rfl (by kernel_rfl) ?_
                have hge5 := hHeld.out.size
                refine r_row 29 (.tmp 7) (.tmp 26) _ (arrN .i16 64 (fun j => q (ord j) % 30000)) 29 _ (by rfl) rfl rfl rfl rfl G7.out (by rw [arrN_size]; kernel_rfl) (by rw [arrN_size, arrN_size]) (arrN_one _ _ _) (fun w5 G7 hfar5 hb5 hsz5 => ⟨(Lib.hid (hHeld.out.trans (hb5.mono (by omega)))), fun hHeld => ?_⟩)
                replace G8 := Lib.hid ((hfar5 _ (by omega)).trans G8.out)
                replace G7 := Lib.hid G7
                try simp only [Act.put, List.setIfInBounds_toArray, List.set_cons_zero, List.set_cons_succ]
                refine r_one (i := 7) (N := none) #[true, true, true, true, true, true, true, true] rfl rfl (by kernel_rfl) ?_
                have hge6 := hHeld.out.size
                refine r_row 29 (.tmp 8) (.tmp 28) _ (arrN .i16 64 (fun j => q (swp j) % 30000)) 29 _ (by rfl) rfl rfl rfl rfl G8.out (by rw [arrN_size]; kernel_rfl) (by rw [arrN_size, arrN_size]) (arrN_one _ _ _) (fun w6 G8 hfar6 hb6 hsz6 => ⟨(Lib.hid (hHeld.out.trans (hb6.mono (by omega)))), fun hHeld => ?_⟩)
                replace G7 := Lib.hid ((hfar6 _ (by omega)).trans G7.out)
                replace G8 := Lib.hid G8
                try simp only [Act.put, List.setIfInBounds_toArray, List.set_cons_zero, List.set_cons_succ]
                refine r_done (by kernel_rfl) ?_
                go_wp2_with fail
                go_meet
                exact ⟨_, _, rfl, rfl, G7, G8, hHeld⟩
            · refine r_alloc 29 (arrN .i16 64 (fun _ => 0)) (by rfl) rfl (run_alloc_rowOp 29 (arrN .i16 64 (fun _ => 0)) rfl hz29) (fun w2 G7 hb2 hsz2 => ⟨(Lib.hid (hHeld.out.trans (hb2.mono hHeld.out.size))), fun hHeld => ?_⟩)
              have hle2 := hHeld.out.size
              replace G8 := Lib.hid (G8.out.bel hb2)
              replace G7 := Lib.hid G7
              try simp only [Act.put, List.setIfInBounds_toArray, List.set_cons_zero, List.set_cons_succ]
              refine r_one (i := 1) (N := some 26) #[true, true, true, false, true, true, false, false] rfl rfl (by kernel_rfl) ?_
              refine r_call Tryd.func15 (by kernel_rfl) rfl #[.agg (arrN .i16 64 (fun j => q j % 30000))] (by rfl) rfl rfl (by simp only [List.map_toArray, List.map_cons, List.map_nil]; first | done | rfl) ?_
              with_reducible refine (zig16 _ _ (HL.out.below (Hb.out.trans ((HB6.out.trans (hHeld.out.mono HB6.out.size)).mono Hb.out.size)))).mono ?_
              rintro e w3 ⟨rfl, hb3⟩
              refine ⟨_, rfl, (Lib.hid (hHeld.out.trans (hb3.mono hHeld.out.size))), fun hHeld => ?_⟩
              replace G7 := Lib.hid (G7.out.bel hb3)
              replace G8 := Lib.hid (G8.out.bel hb3)
              have hle3 := hb3.size
              try simp only [Act.put, List.setIfInBounds_toArray, List.set_cons_zero, List.set_cons_succ]
              refine r_one (i := 3) (N := some 28) #[true, true, true, true, true, true, false, false] rfl rfl (by kernel_rfl) ?_
              refine r_call Tryd.func16 (by kernel_rfl) rfl #[.agg (arrN .i16 64 (fun j => q j % 30000))] (by rfl) rfl rfl (by simp only [List.map_toArray, List.map_cons, List.map_nil]; first | done | rfl) ?_
              with_reducible refine (swap16 _ _ (HL.out.below (Hb.out.trans ((HB6.out.trans (hHeld.out.mono HB6.out.size)).mono Hb.out.size)))).mono ?_
              rintro e w4 ⟨rfl, hb4⟩
              refine ⟨_, rfl, (Lib.hid (hHeld.out.trans (hb4.mono hHeld.out.size))), fun hHeld => ?_⟩
              replace G7 := Lib.hid (G7.out.bel hb4)
              replace G8 := Lib.hid (G8.out.bel hb4)
              have hle4 := hb4.size
              try simp only [Act.put, List.setIfInBounds_toArray, List.set_cons_zero, List.set_cons_succ]
              refine r_one (i := 6) (N := none) #[true, true, true, true, true, true, true, false] rfl rfl (by kernel_rfl) ?_
              have hge5 := hHeld.out.size
              refine r_row 29 (.tmp 7) (.tmp 26) _ (arrN .i16 64 (fun j => q (ord j) % 30000)) 29 _ (by rfl) rfl rfl rfl rfl G7.out (by rw [arrN_size]; kernel_rfl) (by rw [arrN_size, arrN_size]) (arrN_one _ _ _) (fun w5 G7 hfar5 hb5 hsz5 => ⟨(Lib.hid (hHeld.out.trans (hb5.mono (by omega)))), fun hHeld => ?_⟩)
              replace G8 := Lib.hid ((hfar5 _ (by omega)).trans G8.out)
              replace G7 := Lib.hid G7
              try simp only [Act.put, List.setIfInBounds_toArray, List.set_cons_zero, List.set_cons_succ]
              refine r_one (i := 7) (N := none) #[true, true, true, true, true, true, true, true] rfl rfl (by kernel_rfl) ?_
              have hge6 := hHeld.out.size
              refine r_row 29 (.tmp 8) (.tmp 28) _ (arrN .i16 64 (fun j => q (swp j) % 30000)) 29 _ (by rfl) rfl rfl rfl rfl G8.out (by rw [arrN_size]; kernel_rfl) (by rw [arrN_size, arrN_size]) (arrN_one _ _ _) (fun w6 G8 hfar6 hb6 hsz6 => ⟨(Lib.hid (hHeld.out.trans (hb6.mono (by omega)))), fun hHeld => ?_⟩)
              replace G7 := Lib.hid ((hfar6 _ (by omega)).trans G7.out)
              replace G8 := Lib.hid G8
              try simp only [Act.put, List.setIfInBounds_toArray, List.set_cons_zero, List.set_cons_succ]
              refine r_done (by kernel_rfl) ?_
              go_wp2_with fail
              go_meet
              exact ⟨_, _, rfl, rfl, G7, G8, hHeld⟩
        case rest =>
          obtain ⟨wd, rfl⟩ : ∃ wd : World, wd = wc := ⟨_, rfl⟩
          clear hi29 hu29 hz35 hz29 hdr hdc hN1
          obtain ⟨g7, g8, rfl, rfl, HG7, HG8, HB7⟩ := hcut
          have K5 := Lib.hid (HG5.out.bel HB7.out)
          have K6 := Lib.hid (HG6.out.bel HB7.out)
          have K1 := Lib.hid ((H1.out.bel HB6.out).bel HB7.out)
          have hq : ∀ B : World, Below wd.heap.size wd B → Below w.heap.size w B := fun B h => Hb.out.trans ((HB6.out.trans ((HB7.out.trans (h.mono HB7.out.size)).mono HB6.out.size)).mono Hb.out.size)
          have HQ := Lib.hid hq
          clear HG5 HG6 H1 H3 hq
          go_wp2_with fail
          go_loopw [9] (fun i wx => ∃ k : Nat, k ≤ 64 ∧ i = .int .i64 k ∧ Hid (Below wd.heap.size wd wx)) (fun i _ => 64 - (intOf i).toNat)
          case atStart => exact ⟨0, by omega, rfl, Lib.hid (Below.refl _ _)⟩
          case round =>
            obtain ⟨k, hk, rfl, hB⟩ := hrel
            have J5 := Lib.hid (K5.out.bel hB.out)
            have J6 := Lib.hid (K6.out.bel hB.out)
            have J7 := Lib.hid (HG7.out.bel hB.out)
            have J8 := Lib.hid (HG8.out.bel hB.out)
            have J1 := Lib.hid (K1.out.bel hB.out)
            by_cases hlt : k < 64
            · have d5 := (J5.out.cell k).trans (arrN_get _ _ hlt)
              have d6 := (J6.out.cell k).trans (arrN_get _ _ hlt)
              have d7 := (J7.out.cell k).trans (arrN_get _ _ hlt)
              have d8 := (J8.out.cell k).trans (arrN_get _ _ hlt)
              obtain ⟨a1, a2⟩ := Bq.out _ (ord_lt k hlt)
              obtain ⟨a3, a4⟩ := Bq.out _ (swp_lt k hlt)
              go_wp2
              go_region
              go_wp2
              first | exact ⟨⟨k + 1, by omega, by go_num, Lib.hid hB.out.drew⟩, by simp [intOf]; omega⟩ | (go_roundw; (case rel => exact ⟨k + 1, by omega, by go_num, Lib.hid hB.out.drew⟩); (case measure => simp [intOf]; omega))
            · obtain rfl : k = 64 := by omega
              obtain ⟨we, rfl⟩ : ∃ we : World, we = wr := ⟨_, rfl⟩
              have e1 : ∀ W, (binOp .eql 35 (.agg (arrN .u16 64 (fun j => q (ord (inv j))))) (.agg (arrN .u16 64 q))).run Tryd.prog W = .ok (.bool true) W := fun W => by
                obtain ⟨i, hi⟩ := Option.isSome_iff_exists.1 (show (Tryd.prog.info? 34).isSome = true by kernel_rfl)
                rw [run_eql_arr W Tryd.underlying35 Tryd.underlying34 (by kernel_rfl) hi (by kernel_rfl) _ q]
                simp only [Result.ok.injEq, Value.bool.injEq, decide_eq_true_eq, and_true]
                exact fun j hj => by rw [ord_inv j hj]
              go_wp2_with fail
              refine r_start (n := 8) (S := (fun w' => Hid (Below we.heap.size we w'))) #[false, false, false, false, false, false, false, false] (by kernel_rfl) rfl rfl (Lib.hid ((Below.refl _ _).drew)) (fun hHeld => ?_)
              refine r_one (i := 0) (N := some 53) #[true, false, false, false, false, false, false, false] rfl rfl (by kernel_rfl) ?_
              refine r_call Tryd.func12 (by kernel_rfl) rfl #[] (by rfl) rfl rfl (by simp only [List.map_toArray, List.map_cons, List.map_nil]; first | done | rfl) ?_
              with_reducible refine (awake_true _ (HL.out.below (HQ.out _ (hB.out.trans (hHeld.out.mono hB.out.size))))).mono ?_
              rintro e w1 ⟨rfl, rfl⟩
              refine ⟨_, rfl, hHeld, fun hHeld => ?_⟩
              try simp only [Act.put, List.setIfInBounds_toArray, List.set_cons_zero, List.set_cons_succ]
              refine r_take (i := 1) (N := some 54) (v := ?_) (a' := ?_) #[true, true, false, false, false, false, false, false] rfl rfl (by kernel_rfl) (fun _ _ _ h => h) hHeld (Or.inl ⟨by rfl, ?_⟩) ?_ ?_
              rotate_left
              · intro w' hSw
                (try dsimp only at hSw)
                go_simp
                try with_reducible rfl
              rotate_left
              · simp only [Act.put, List.setIfInBounds_toArray, List.set_cons_zero, List.set_cons_succ]
                rfl
              refine r_take (i := 2) (N := some 55) (v := .agg (arrN .u16 64 (fun j => q (ord j)))) (a' := ?_) #[true, true, true, false, false, false, false, false] rfl rfl (by kernel_rfl) (fun _ _ _ h => h) hHeld (yieldsIf_load_mid (by rfl) _ _ rfl _ _ rfl ((arrN .u16 64 (fun j => q (ord j)))).toList _ (fun _ h => rangeOf (J5.out.bel h.out)) hu35 rfl hi35) ?_ ?_
              rotate_left
              · simp only [Act.put, List.setIfInBounds_toArray, List.set_cons_zero, List.set_cons_succ]
                rfl
              refine r_take (i := 4) (N := some 57) (v := .agg (arrN .u16 64 q)) (a' := ?_) #[true, true, true, false, true, false, false, false] rfl rfl (by kernel_rfl) (fun _ _ _ h => h) hHeld (yieldsIf_load_mid (by rfl) _ _ rfl _ _ rfl ((arrN .u16 64 q)).toList _ (fun _ h => rangeOf (J1.out.bel h.out)) hu35 rfl hi35) ?_ ?_
              rotate_left
              · simp only [Act.put, List.setIfInBounds_toArray, List.set_cons_zero, List.set_cons_succ]
                rfl
              refine r_one (i := 3) (N := some 56) #[true, true, true, true, true, false, false, false] rfl rfl (by kernel_rfl) ?_
              refine r_call Tryd.func21 (by kernel_rfl) rfl #[.agg (arrN .u16 64 (fun j => q (ord j)))] (by rfl) rfl rfl (by simp only [List.map_toArray, List.map_cons, List.map_nil]; first | done | rfl) ?_
              with_reducible refine (backU _ _ (HL.out.below (HQ.out _ (hB.out.trans (hHeld.out.mono hB.out.size))))).mono ?_
              rintro e w2 ⟨rfl, hb2⟩
              refine ⟨_, rfl, (Lib.hid (hHeld.out.trans (hb2.mono hHeld.out.size))), fun hHeld => ?_⟩
              try simp only [Act.put, List.setIfInBounds_toArray, List.set_cons_zero, List.set_cons_succ]
              refine r_take (i := 5) (N := some 58) (v := ?_) (a' := ?_) #[true, true, true, true, true, true, false, false] rfl rfl (by kernel_rfl) (fun _ _ _ h => h) hHeld (Or.inl ⟨by rfl, ?_⟩) ?_ ?_
              rotate_left
              · intro w' hSw
                (try dsimp only at hSw)
                go_simp
                try with_reducible rfl
              rotate_left
              · simp only [Act.put, List.setIfInBounds_toArray, List.set_cons_zero, List.set_cons_succ]
                rfl
              refine r_take (i := 6) (N := some 59) (v := ?_) (a' := ?_) #[true, true, true, true, true, true, true, false] rfl rfl (by kernel_rfl) (fun _ _ _ h => h) hHeld (Or.inl ⟨by rfl, ?_⟩) ?_ ?_
              rotate_left
              · intro w' hSw
                (try dsimp only at hSw)
                go_simp
                try with_reducible rfl
              rotate_left
              · simp only [Act.put, List.setIfInBounds_toArray, List.set_cons_zero, List.set_cons_succ]
                rfl
              refine r_take (i := 7) (N := some 2) (v := ?_) (a' := ?_) #[true, true, true, true, true, true, true, true] rfl rfl (by kernel_rfl) (fun _ _ _ h => h) hHeld (Or.inl ⟨by rfl, ?_⟩) ?_ ?_
              rotate_left
              · intro w' hSw
                (try dsimp only at hSw)
                go_simp
                try with_reducible rfl
              rotate_left
              · simp only [Act.put, List.setIfInBounds_toArray, List.set_cons_zero, List.set_cons_succ]
                rfl
              refine r_done (by kernel_rfl) ?_
              go_wp2
              go_ret
              exact ⟨rfl, HQ.out _ (hB.out.trans (hHeld.out.mono hB.out.size))⟩

namespace lawZigTables
open Go.ChangeShapes Go.WideShapes Go.ChangeAt Go.RowKit
theorem own : ownKnob Tryd.prog.godebug = none := by kernel_rfl
theorem laidOut : laidOutB Tryd.prog = true := by kernel_rfl
theorem gTab0 : Tryd.prog.globalNamed "aquatint/zig.order" = some 0 := by kernel_rfl
theorem gTabType0 : (Tryd.prog.globals[0]?).map (·.type) = some 22 := by kernel_rfl
theorem cellsT : Tryd.prog.cellsOf 22 = 64 := by kernel_rfl
theorem cellsE : Tryd.prog.cellsOf 3 = 1 := by kernel_rfl
theorem table {W : World} (h : laidMetH Tryd.prog Rows.zigTablesRow.laid W) : Lib.TabIs Tryd.prog W "aquatint/zig.order" .i64 (ordL.map fun (n : Nat) => (n : Int)) :=
  Lib.tabIs_of_head (rest := []) gTab0 gTabType0 Tryd.underlying22 Tryd.underlying3 cellsE cellsT h
theorem laid_of {W : World} (h : laidMetH Tryd.prog Rows.zigTablesRow.laid W) : Laid W := by
  have H : ∀ k, k < 64 → W.cell? ⟨0, k, none⟩ = some (.int .i64 (ord k)) := fun k hk => by
    have h1 := (table h).cell gTab0 k (by simpa [ordL] using hk)
    rw [h1]
    have h2 : ord k = ordL[k]'(by simpa [ordL] using hk) := by
      unfold ord
      rw [List.getD_eq_getElem?_getD, List.getElem?_eq_getElem (by simpa [ordL] using hk)]
      rfl
    rw [h2, List.getD_eq_getElem?_getD, List.getElem?_map, List.getElem?_eq_getElem (by simpa [ordL] using hk)]
    rfl
  exact ⟨block_lt_of_cell (H 0 (by omega)), H⟩
theorem contract (H : Type) (enc : TypeId × Value → H) (W : World) (base : Nat) (args : Array Value) (ds gs : List (DataW H)) (before : List MemPlace)
    (hval : ∀ (j : Nat) t v, Tryd.f8.params[j]? = some t → args[j]? = some v → Value.okWide Tryd.prog W .any base t v)
    (hW : DataW.Whole enc Tryd.prog Tryd.f8.params.toList Rows.zigTablesSpec.vars false W args.toList ds gs before) (hL : laidMetH Tryd.prog Rows.zigTablesRow.laid W) (_hsz : (DataW.weightsEach Tryd.prog (Tryd.f8.params.toList ++ (OpenSpec.ofChange Rows.zigTablesSpec).bare.plain.varTypes Tryd.prog) (ds ++ gs)).all (· ≤ reachBytes) = true) :
    Calls Tryd.prog 8 args W fun e W' => ∃ v, e = .returned v ∧ Rows.zigTablesSpec.post enc Tryd.prog Tryd.f8 false true false false W args v W' := by
  have hW' := hW
  obtain ⟨p, q, hA0, hV, hbefore, hfz, hnd⟩ := hW
  obtain ⟨rfl, rfl⟩ := trodVars_none hV
  have hA : DataW.TrodAll enc Tryd.prog W 0 (fun _ => true) true Tryd.f8.params.toList args.toList ds p := hA0
  rw [Tryd.params8] at hA hval
  obtain ⟨v0, vs1, d0, ds1, p0, q0, hargs, rfl, hps, h0, r0⟩ := trodAll_cons hA
  obtain ⟨rfl, rfl, rfl⟩ := trodAll_nil r0
  obtain rfl : args = #[v0] := by cases args; simp_all
  have o0 := hval 0 35 v0 rfl rfl
  clear hA0
  obtain ⟨q, rfl, wq⟩ := open_arrN Tryd.underlying35 Tryd.underlying34 (by kernel_rfl) (by kernel_rfl) o0 h0
  have bq : ∀ j, j < 64 → 0 ≤ q j ∧ q j ≤ 65535 := fun j hj => by have h := wq j hj; have hmin : IntKind.u16.min = 0 := rfl; have hmax : IntKind.u16.max = 65535 := rfl; simp only [Lit.wf, Bool.and_eq_true, decide_eq_true_eq] at h; omega
  refine (zigTables_walk q bq W (laid_of hL)).mono fun e W' ⟨he, hb⟩ => ?_
  subst he
  exact ⟨_, rfl, law_post laidOut (by rw [Tryd.params8]; intro t ht; simp only [List.mem_cons, List.not_mem_nil, or_false] at ht; subst ht; exact ⟨by kernel_rfl, of_decide_eq_true (by kernel_rfl)⟩) (by kernel_rfl) Tryd.underlying4 hW' rfl rfl hb⟩
theorem gTab : Tryd.prog.globalNamed "aquatint/zig.order" = some 0 := by kernel_rfl
theorem gTabType : (Tryd.prog.globals[0]?).map (·.type) = some 22 := by kernel_rfl
/-- A world for the witness: the settled one, the table holding what its initialiser lays. -/
noncomputable def laidWorld (os : Os) : World :=
  { World.holding Tryd.prog os ⟨#[], #[], []⟩ with heap := (World.holding Tryd.prog os ⟨#[], #[], []⟩).heap.modify 0 fun
      | .cells _ t frozen => .cells #[.int .i64 0, .int .i64 1, .int .i64 8, .int .i64 16, .int .i64 9, .int .i64 2, .int .i64 3, .int .i64 10, .int .i64 17, .int .i64 24, .int .i64 32, .int .i64 25, .int .i64 18, .int .i64 11, .int .i64 4, .int .i64 5, .int .i64 12, .int .i64 19, .int .i64 26, .int .i64 33, .int .i64 40, .int .i64 48, .int .i64 41, .int .i64 34, .int .i64 27, .int .i64 20, .int .i64 13, .int .i64 6, .int .i64 7, .int .i64 14, .int .i64 21, .int .i64 28, .int .i64 35, .int .i64 42, .int .i64 49, .int .i64 56, .int .i64 57, .int .i64 50, .int .i64 43, .int .i64 36, .int .i64 29, .int .i64 22, .int .i64 15, .int .i64 23, .int .i64 30, .int .i64 37, .int .i64 44, .int .i64 51, .int .i64 58, .int .i64 59, .int .i64 52, .int .i64 45, .int .i64 38, .int .i64 31, .int .i64 39, .int .i64 46, .int .i64 53, .int .i64 60, .int .i64 61, .int .i64 54, .int .i64 47, .int .i64 55, .int .i64 62, .int .i64 63] t frozen
      | o => o }
theorem laid_met (os : Os) : laidMet Tryd.prog Rows.zigTablesRow.laid ((laidWorld os).forCall (fun _ _ => 0) ⟨#[], #[.agg #[Value.int .u16 0, Value.int .u16 0, Value.int .u16 0, Value.int .u16 0, Value.int .u16 0, Value.int .u16 0, Value.int .u16 0, Value.int .u16 0, Value.int .u16 0, Value.int .u16 0, Value.int .u16 0, Value.int .u16 0, Value.int .u16 0, Value.int .u16 0, Value.int .u16 0, Value.int .u16 0, Value.int .u16 0, Value.int .u16 0, Value.int .u16 0, Value.int .u16 0, Value.int .u16 0, Value.int .u16 0, Value.int .u16 0, Value.int .u16 0, Value.int .u16 0, Value.int .u16 0, Value.int .u16 0, Value.int .u16 0, Value.int .u16 0, Value.int .u16 0, Value.int .u16 0, Value.int .u16 0, Value.int .u16 0, Value.int .u16 0, Value.int .u16 0, Value.int .u16 0, Value.int .u16 0, Value.int .u16 0, Value.int .u16 0, Value.int .u16 0, Value.int .u16 0, Value.int .u16 0, Value.int .u16 0, Value.int .u16 0, Value.int .u16 0, Value.int .u16 0, Value.int .u16 0, Value.int .u16 0, Value.int .u16 0, Value.int .u16 0, Value.int .u16 0, Value.int .u16 0, Value.int .u16 0, Value.int .u16 0, Value.int .u16 0, Value.int .u16 0, Value.int .u16 0, Value.int .u16 0, Value.int .u16 0, Value.int .u16 0, Value.int .u16 0, Value.int .u16 0, Value.int .u16 0, Value.int .u16 0]], []⟩).memory :=
  laidMet_of_run' 8 (by kernel_rfl) (by kernel_rfl)
theorem reads (os : Os) {H : Type} (enc : TypeId × Value → H) : ∃ places, DataW.whole enc Tryd.prog ((laidWorld os).forCall (fun _ _ => 0) ⟨#[], #[.agg #[Value.int .u16 0, Value.int .u16 0, Value.int .u16 0, Value.int .u16 0, Value.int .u16 0, Value.int .u16 0, Value.int .u16 0, Value.int .u16 0, Value.int .u16 0, Value.int .u16 0, Value.int .u16 0, Value.int .u16 0, Value.int .u16 0, Value.int .u16 0, Value.int .u16 0, Value.int .u16 0, Value.int .u16 0, Value.int .u16 0, Value.int .u16 0, Value.int .u16 0, Value.int .u16 0, Value.int .u16 0, Value.int .u16 0, Value.int .u16 0, Value.int .u16 0, Value.int .u16 0, Value.int .u16 0, Value.int .u16 0, Value.int .u16 0, Value.int .u16 0, Value.int .u16 0, Value.int .u16 0, Value.int .u16 0, Value.int .u16 0, Value.int .u16 0, Value.int .u16 0, Value.int .u16 0, Value.int .u16 0, Value.int .u16 0, Value.int .u16 0, Value.int .u16 0, Value.int .u16 0, Value.int .u16 0, Value.int .u16 0, Value.int .u16 0, Value.int .u16 0, Value.int .u16 0, Value.int .u16 0, Value.int .u16 0, Value.int .u16 0, Value.int .u16 0, Value.int .u16 0, Value.int .u16 0, Value.int .u16 0, Value.int .u16 0, Value.int .u16 0, Value.int .u16 0, Value.int .u16 0, Value.int .u16 0, Value.int .u16 0, Value.int .u16 0, Value.int .u16 0, Value.int .u16 0, Value.int .u16 0]], []⟩).memory Tryd.f8.params.toList Rows.zigTablesSpec.vars false #[.agg #[Value.int .u16 0, Value.int .u16 0, Value.int .u16 0, Value.int .u16 0, Value.int .u16 0, Value.int .u16 0, Value.int .u16 0, Value.int .u16 0, Value.int .u16 0, Value.int .u16 0, Value.int .u16 0, Value.int .u16 0, Value.int .u16 0, Value.int .u16 0, Value.int .u16 0, Value.int .u16 0, Value.int .u16 0, Value.int .u16 0, Value.int .u16 0, Value.int .u16 0, Value.int .u16 0, Value.int .u16 0, Value.int .u16 0, Value.int .u16 0, Value.int .u16 0, Value.int .u16 0, Value.int .u16 0, Value.int .u16 0, Value.int .u16 0, Value.int .u16 0, Value.int .u16 0, Value.int .u16 0, Value.int .u16 0, Value.int .u16 0, Value.int .u16 0, Value.int .u16 0, Value.int .u16 0, Value.int .u16 0, Value.int .u16 0, Value.int .u16 0, Value.int .u16 0, Value.int .u16 0, Value.int .u16 0, Value.int .u16 0, Value.int .u16 0, Value.int .u16 0, Value.int .u16 0, Value.int .u16 0, Value.int .u16 0, Value.int .u16 0, Value.int .u16 0, Value.int .u16 0, Value.int .u16 0, Value.int .u16 0, Value.int .u16 0, Value.int .u16 0, Value.int .u16 0, Value.int .u16 0, Value.int .u16 0, Value.int .u16 0, Value.int .u16 0, Value.int .u16 0, Value.int .u16 0, Value.int .u16 0]].toList 8 = some ([(.agg [.lit (.int .u16 0), .lit (.int .u16 0), .lit (.int .u16 0), .lit (.int .u16 0), .lit (.int .u16 0), .lit (.int .u16 0), .lit (.int .u16 0), .lit (.int .u16 0), .lit (.int .u16 0), .lit (.int .u16 0), .lit (.int .u16 0), .lit (.int .u16 0), .lit (.int .u16 0), .lit (.int .u16 0), .lit (.int .u16 0), .lit (.int .u16 0), .lit (.int .u16 0), .lit (.int .u16 0), .lit (.int .u16 0), .lit (.int .u16 0), .lit (.int .u16 0), .lit (.int .u16 0), .lit (.int .u16 0), .lit (.int .u16 0), .lit (.int .u16 0), .lit (.int .u16 0), .lit (.int .u16 0), .lit (.int .u16 0), .lit (.int .u16 0), .lit (.int .u16 0), .lit (.int .u16 0), .lit (.int .u16 0), .lit (.int .u16 0), .lit (.int .u16 0), .lit (.int .u16 0), .lit (.int .u16 0), .lit (.int .u16 0), .lit (.int .u16 0), .lit (.int .u16 0), .lit (.int .u16 0), .lit (.int .u16 0), .lit (.int .u16 0), .lit (.int .u16 0), .lit (.int .u16 0), .lit (.int .u16 0), .lit (.int .u16 0), .lit (.int .u16 0), .lit (.int .u16 0), .lit (.int .u16 0), .lit (.int .u16 0), .lit (.int .u16 0), .lit (.int .u16 0), .lit (.int .u16 0), .lit (.int .u16 0), .lit (.int .u16 0), .lit (.int .u16 0), .lit (.int .u16 0), .lit (.int .u16 0), .lit (.int .u16 0), .lit (.int .u16 0), .lit (.int .u16 0), .lit (.int .u16 0), .lit (.int .u16 0), .lit (.int .u16 0)])], [], places) :=
  ⟨[], by kernel_rfl⟩
set_option maxRecDepth 100000 in
theorem lifted (os : Os) (started : os.Started) (H : Type) (enc : TypeId × Value → H) (F : Stop.Interp) :
    ReturnsInHanded {} Tryd.checked os 8 .any ((OpenSpec.ofChange Rows.zigTablesSpec).preRow enc Tryd.prog Tryd.f8 Rows.zigTablesRow.domain false Rows.zigTablesRow.laid) (((OpenSpec.ofChange Rows.zigTablesSpec).at F).post enc Tryd.prog Tryd.f8 false true false false) := by
  obtain ⟨places, hx⟩ := reads os enc
  refine returnsInHanded_of_row (C := Tryd.checked) (s := (OpenSpec.ofChange Rows.zigTablesSpec)) own started (by kernel_rfl) Tryd.func8
    (witness_row_at (enc := enc) (C := Tryd.checked) false (laidWorld os) #[.agg #[Value.int .u16 0, Value.int .u16 0, Value.int .u16 0, Value.int .u16 0, Value.int .u16 0, Value.int .u16 0, Value.int .u16 0, Value.int .u16 0, Value.int .u16 0, Value.int .u16 0, Value.int .u16 0, Value.int .u16 0, Value.int .u16 0, Value.int .u16 0, Value.int .u16 0, Value.int .u16 0, Value.int .u16 0, Value.int .u16 0, Value.int .u16 0, Value.int .u16 0, Value.int .u16 0, Value.int .u16 0, Value.int .u16 0, Value.int .u16 0, Value.int .u16 0, Value.int .u16 0, Value.int .u16 0, Value.int .u16 0, Value.int .u16 0, Value.int .u16 0, Value.int .u16 0, Value.int .u16 0, Value.int .u16 0, Value.int .u16 0, Value.int .u16 0, Value.int .u16 0, Value.int .u16 0, Value.int .u16 0, Value.int .u16 0, Value.int .u16 0, Value.int .u16 0, Value.int .u16 0, Value.int .u16 0, Value.int .u16 0, Value.int .u16 0, Value.int .u16 0, Value.int .u16 0, Value.int .u16 0, Value.int .u16 0, Value.int .u16 0, Value.int .u16 0, Value.int .u16 0, Value.int .u16 0, Value.int .u16 0, Value.int .u16 0, Value.int .u16 0, Value.int .u16 0, Value.int .u16 0, Value.int .u16 0, Value.int .u16 0, Value.int .u16 0, Value.int .u16 0, Value.int .u16 0, Value.int .u16 0]] rfl (by kernel_rfl) (by kernel_rfl) (by kernel_rfl)
      (OpenSpec.preRow_of_cond 8 hx (by kernel_rfl) (fun k hk => by cases hk) (by kernel_rfl) (laid_met os))) ?_
  intro W base args ds gs before hval hW _ _ hsz hL _ _
  exact contract H enc W base args ds gs before hval hW hL hsz
theorem said : Rows.ZigTablesSaid :=
  OpenClaim.holds_of_cond 8 Tryd.f8 rfl rfl rfl rfl rfl rfl rfl ⟨rfl, rfl, rfl, rfl, rfl⟩ rfl rfl rfl rfl rfl (by kernel_rfl) Tryd.func8 (by kernel_rfl)
    (of_decide_eq_true (by kernel_rfl)) (by unfold Func.isWrapper; first | (rw [if_pos (by decide +kernel)]; kernel_rfl) | (rw [if_neg (by decide +kernel)]; exact ⟨rfl, rfl⟩))
    (fun os started H enc _ F => by rw [OpenClaim.pre_eq_preRow]; exact lifted os started H enc F)
theorem plain (f : FuncId) (fn : Func) (hf : Tryd.pinned.checked.prog.funcNamed "aquatint/aquatintlaw04.ZigTables" = some f) (hfn : Tryd.pinned.checked.prog.funcs[f]? = some fn) :
    false = Tryd.pinned.checked.prog.looks [] ∧ ∀ (j : Nat) t, fn.params[j]? = some t → Tryd.pinned.checked.prog.wantsStandIn t = false := by
  obtain rfl : f = 8 := Option.some.inj ((show Tryd.prog.funcNamed "aquatint/aquatintlaw04.ZigTables" = some 8 by kernel_rfl).symm.trans hf) |>.symm
  obtain rfl : fn = Tryd.f8 := (Option.some.inj (Tryd.func8.symm.trans hfn)).symm
  refine ⟨by kernel_rfl, fun j t ht => ?_⟩
  rw [Tryd.params8] at ht
  have hm := Array.mem_of_getElem? ht
  simp only [List.mem_toArray, List.mem_cons, List.not_mem_nil, or_false] at hm
  subst hm
  exact (show Tryd.prog.wantsStandIn 35 = false by kernel_rfl)
/-- The card. -/
theorem card : Rows.ZigTablesCardSaid :=
  Claim7.holds_tied_plain_at .later [] _ _ _ _ said (fun _ h => by cases h) (by kernel_rfl) (fun _ h => by cases h) zigTables_row_tie rfl ⟨rfl, rfl⟩ (by kernel_rfl) rfl plain (by kernel_rfl)
#print axioms card
end lawZigTables
end Go.Proofs.YtalkeefjnejelaaDoor

/- The walks of the reference's two turns of a block. -/
import Derived.Test.YtalkeefjnejelaaDoorZigB
namespace Go.Proofs.YtalkeefjnejelaaDoor
open Go.RowKit
set_option maxHeartbeats 800000 in
theorem refZig (v : Nat → Int) (w : World) :
    Calls Tryd.prog 14 #[.agg (arrN .i16 64 v)] w fun e w' => e = .returned (.agg (arrN .i16 64 (fun j => v (ord j)))) ∧ Below w.heap.size w w' := by
  obtain ⟨cs, hcs, hget⟩ : ∃ cs, cs = arrN .i16 64 v ∧ ∀ j, j < 64 → cs[j]? = some (.int .i16 (v j)) := ⟨_, rfl, fun j hj => arrN_get .i16 v hj⟩
  rw [← hcs]
  clear hcs
  have Hcs := Lib.hid hget; clear hget
  go_enter Tryd.func14, Tryd.ntmps14
  go_wp2_with (first | (go_at_call 9; refine (order_walk _).mono ?_; rintro e w1 ⟨rfl, hb1⟩) | (refine wpList_store_row rfl 22 (.tmp 4) (.tmp 6) rfl w1.heap.size (arrN .i64 64 (fun k => (ord k : Nat))) rfl rfl 22 _ (Blk.nw rfl) (by rw [arrN_size]; kernel_rfl) (by rw [arrN_size]; rfl) (arrN_one _ _ _) ?_))
  have hN : w.heap.size + 1 + 1 + 1 ≤ w1.heap.size := by have := hb1.size; simpa using this
  go_loopw [5] (fun i wr => ∃ k : Nat, k ≤ 64 ∧ i = .int .i64 k ∧ Hid (Blk wr w.heap.size 29 cs) ∧ Hid (∃ z, Blk wr (w.heap.size + 1) 29 z ∧ z.size = 64) ∧ Hid (Blk wr (w.heap.size + 1 + 1) 29 (setTo .i16 64 id (fun k => v (ord k)) k)) ∧ Hid (Blk wr w1.heap.size 22 (arrN .i64 64 (fun k => (ord k : Nat)))) ∧ Hid (Below w.heap.size w wr)) (fun i _ => 64 - (intOf i).toNat)
  case atStart =>
    refine ⟨0, by omega, rfl, ?_, ?_, ?_, ?_, ?_⟩
    · exact Lib.hid (((((Blk.new w _ _).alloc _).alloc _).bel hb1 |>.alloc _).rowFar (by omega) _)
    · exact Lib.hid ⟨_, (((Blk.nw (by simp)).alloc _).bel hb1 |>.alloc _).rowFar (by omega) _, rfl⟩
    · exact Lib.hid (((Blk.nw (by simp)).bel hb1 |>.alloc _).rowFar (by omega) _)
    · exact Lib.hid ((Blk.new w1 _ _).row _)
    · have b0 := ((((Below.refl _ _).alloc (Nat.le_refl _) (.cells cs 29)).alloc (by simp) (.cells (arrN .i16 64 fun _ => 0) 29)).alloc (by simp; omega) (.cells (arrN .i16 64 fun _ => 0) 29) : Below w.heap.size w _)
      exact Lib.hid (below_row ((b0.trans (hb1.mono (by simp; omega))).alloc (by omega) _) (by omega) _)
  case round =>
    have Hb1 := Lib.hid hb1
    clear hb1
    obtain ⟨k, hk, rfl, h1, h2, h3, h4, hb⟩ := hrel
    have hf : ∀ i, wr.frozen? ⟨w.heap.size + 1 + 1, i, none⟩ = false := h3.out.frozen
    by_cases hlt : k < 64
    · have ho := ord_lt k hlt
      have hc0 : wr.cell? ⟨w1.heap.size, k, none⟩ = some (.int .i64 (ord k : Nat)) := (h4.out.cell _).trans (arrN_get _ _ hlt)
      have hc1 : wr.cell? ⟨w.heap.size, ord k, none⟩ = some (.int .i16 (v (ord k))) := (h1.out.cell _).trans (Hcs.out _ ho)
      obtain ⟨u, hu⟩ := setTo_some .i16 id (fun k => v (ord k)) k hlt
      have hc2 : wr.cell? ⟨w.heap.size + 1 + 1, k, none⟩ = some u := (h3.out.cell _).trans hu
      have Hu := Lib.hid hu; clear hu
      go_wp2
      refine ⟨⟨k + 1, by omega, by go_num, Lib.hid (h1.out.far (by simp; omega) _), ?_, Lib.hid (h3.out.set_ _ _), Lib.hid (h4.out.far (by simp; omega) _), Lib.hid (hb.out.setCell (by simp; omega) _)⟩, by simp [intOf]; omega⟩
      obtain ⟨z, hz, hzs⟩ := h2.out
      exact Lib.hid ⟨z, hz.far (by simp) _, hzs⟩
    · obtain rfl : k = 64 := by omega
      obtain ⟨z, hz, hzs⟩ := h2.out
      clear hlt
      have Hz := Lib.hid hz
      have Hzs := Lib.hid hzs
      clear hz hzs
      go_wp2_with (first | (refine wpList_load_row rfl 29 (.tmp 3) rfl (w.heap.size + 1 + 1) rfl 29 (setTo .i16 64 id (fun k => v (ord k)) 64) (0, 0) _ h3.out Tryd.underlying29 rfl (by rw [setTo_size]; kernel_rfl) ?_) | (refine wpList_store_row rfl 29 (.tmp 2) (.tmp 18) rfl (w.heap.size + 1) (setTo .i16 64 id (fun k => v (ord k)) 64) rfl rfl 29 z Hz.out (by rw [setTo_size]; kernel_rfl) (by rw [setTo_size, Hzs.out]) (setTo_one _ _ _ _ _) ?_))
      exact bodyPost_ret (results_cell_row rfl _ _ (w.heap.size + 1) 29 _ (0, 0) _ rfl (setRow_heap _ _ _ _ _ _ Hz.out) Tryd.underlying29 rfl (by rw [setTo_size]; kernel_rfl)) rfl ⟨by rw [all_zig], below_setRow hb.out (by omega) _⟩
theorem swp_at (u v : Nat) (_hu : u < 8) (hv : v < 8) : swp (8 * u + v) = 8 * v + u := by unfold swp; omega
theorem all_refSwap (v : Nat → Int) : setTo .i16 64 id (fun k => v (swp k)) 64 = arrN .i16 64 (fun j => v (swp j)) :=
  setTo_all .i16 64 id id _ 64 (fun _ hj => ⟨hj, rfl, fun _ _ e => e⟩)
set_option maxHeartbeats 800000 in
theorem refSwap (v : Nat → Int) (w : World) :
    Calls Tryd.prog 18 #[.agg (arrN .i16 64 v)] w fun e w' => e = .returned (.agg (arrN .i16 64 (fun j => v (swp j)))) ∧ Below w.heap.size w w' := by
  obtain ⟨cs, hcs, hget⟩ : ∃ cs, cs = arrN .i16 64 v ∧ ∀ j, j < 64 → cs[j]? = some (.int .i16 (v j)) := ⟨_, rfl, fun j hj => arrN_get .i16 v hj⟩
  rw [← hcs]
  clear hcs
  have Hcs := Lib.hid hget; clear hget
  go_enter Tryd.func18, Tryd.ntmps18
  go_wp2
  go_loopw [4] (fun i wr => ∃ n : Nat, n ≤ 8 ∧ i = .int .i64 n ∧ Hid (Blk wr w.heap.size 29 cs) ∧ Hid (∃ z, Blk wr (w.heap.size + 1) 29 z ∧ z.size = 64) ∧ Hid (Blk wr (w.heap.size + 1 + 1) 29 (setTo .i16 64 id (fun k => v (swp k)) (8 * n))) ∧ Hid (Below w.heap.size w wr)) (fun i _ => 8 - (intOf i).toNat)
  case atStart =>
    refine ⟨0, by omega, rfl, ?_, ?_, ?_, ?_⟩
    · exact Lib.hid (((Blk.new w _ _).alloc _).alloc _)
    · exact Lib.hid ⟨_, (Blk.nw (by simp)).alloc _, rfl⟩
    · exact Lib.hid (Blk.nw (by simp))
    · exact Lib.hid ((((Below.refl _ _).alloc (Nat.le_refl _) _).alloc (by simp) _).alloc (by simp; omega) _)
  case round =>
    obtain ⟨n, hn, rfl, h1, h2, h3, hb⟩ := hrel
    by_cases hlt : n < 8
    · have hltd : decide ((n : Int) < 8) = true := by simp; omega
      go_wp2
      obtain ⟨wo, rfl⟩ : ∃ wo : World, wo = wr := ⟨_, rfl⟩
      go_loopw [5] (fun i wr => ∃ m : Nat, m ≤ 8 ∧ i = .int .i64 m ∧ Hid (Blk wr w.heap.size 29 cs) ∧ Hid (∃ z, Blk wr (w.heap.size + 1) 29 z ∧ z.size = 64) ∧ Hid (Blk wr (w.heap.size + 1 + 1) 29 (setTo .i16 64 id (fun k => v (swp k)) (8 * n + m))) ∧ Hid (Below w.heap.size w wr)) (fun i _ => 8 - (intOf i).toNat)
      case atStart => exact ⟨0, by omega, rfl, h1, h2, h3, hb⟩
      case round =>
        clear h1 h2 h3 hb
        obtain ⟨m, hm, rfl, h1, h2, h3, hb⟩ := hrel
        by_cases hle : m < 8
        · have hf : ∀ i, wr.frozen? ⟨w.heap.size + 1 + 1, i, none⟩ = false := h3.out.frozen
          have hs := Lib.hid (swp_at n m hlt hle)
          have hp : 8 * m + n < 64 := by omega
          have hq : 8 * n + m < 64 := by omega
          have hc1 : wr.cell? ⟨w.heap.size, 8 * m + n, none⟩ = some (.int .i16 (v (8 * m + n))) := (h1.out.cell _).trans (Hcs.out _ hp)
          obtain ⟨u, hu⟩ := setTo_some .i16 id (fun k => v (swp k)) (8 * n + m) hq
          have hc2 : wr.cell? ⟨w.heap.size + 1 + 1, 8 * n + m, none⟩ = some u := (h3.out.cell _).trans hu
          have Hu := Lib.hid hu; clear hu
          go_wp2
          refine ⟨⟨m + 1, by omega, by go_num, Lib.hid (h1.out.far (by simp; omega) _), ?_, ?_, Lib.hid (hb.out.setCell (by simp; omega) _)⟩, by simp [intOf]; omega⟩
          · obtain ⟨z, hz, hzs⟩ := h2.out
            exact Lib.hid ⟨z, hz.far (by simp) _, hzs⟩
          · have := h3.out.set_ (8 * n + m) (.int .i16 (v (8 * m + n)))
            rw [← hs.out] at this
            exact Lib.hid (hs.out ▸ this)
        · obtain rfl : m = 8 := by omega
          go_wp2
          first | exact ⟨⟨n + 1, by omega, by go_num, h1, h2, h3, hb⟩, by simp [intOf]; omega⟩ | (go_roundw; (case rel => exact ⟨n + 1, by omega, by go_num, h1, h2, h3, hb⟩); (case measure => simp [intOf]; omega))
    · obtain rfl : n = 8 := by omega
      obtain ⟨z, hz, hzs⟩ := h2.out
      clear hlt
      have Hz := Lib.hid hz
      have Hzs := Lib.hid hzs
      clear hz hzs
      go_wp2_with (first | (refine wpList_load_row rfl 29 (.tmp 3) rfl (w.heap.size + 1 + 1) rfl 29 (setTo .i16 64 id (fun k => v (swp k)) 64) (0, 0) _ h3.out Tryd.underlying29 rfl (by rw [setTo_size]; kernel_rfl) ?_) | (refine wpList_store_row rfl 29 (.tmp 2) (.tmp 25) rfl (w.heap.size + 1) (setTo .i16 64 id (fun k => v (swp k)) 64) rfl rfl 29 z Hz.out (by rw [setTo_size]; kernel_rfl) (by rw [setTo_size, Hzs.out]) (setTo_one _ _ _ _ _) ?_))
      exact bodyPost_ret (results_cell_row rfl _ _ (w.heap.size + 1) 29 _ (0, 0) _ rfl (setRow_heap _ _ _ _ _ _ Hz.out) Tryd.underlying29 rfl (by rw [setTo_size]; kernel_rfl)) rfl ⟨by rw [all_refSwap], below_setRow hb.out (by omega) _⟩
end Go.Proofs.YtalkeefjnejelaaDoor

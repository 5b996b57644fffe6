/- The walks of package zig and of its reference: each function answers the plain function named beside it, where the table of places lies as the program's text lays it. -/
import Derived.Test.YtdohhhkondokkaaDoorBase
namespace Go.Proofs.YtdohhhkondokkaaDoor
open Go.RowKit
def ordL : List Nat := [0, 1, 8, 16, 9, 2, 3, 10, 17, 24, 32, 25, 18, 11, 4, 5, 12, 19, 26, 33, 40, 48, 41, 34, 27, 20, 13, 6, 7, 14, 21, 28, 35, 42, 49, 56, 57, 50, 43, 36, 29, 22, 15, 23, 30, 37, 44, 51, 58, 59, 52, 45, 38, 31, 39, 46, 53, 60, 61, 54, 47, 55, 62, 63]
/-- Which place comes k-th; when place i comes; the place over the diagonal. -/
def ord (k : Nat) : Nat := ordL.getD k 0
def inv (i : Nat) : Nat := ordL.idxOf i
def swp (i : Nat) : Nat := i % 8 * 8 + i / 8
theorem ord_lt (k : Nat) (h : k < 64) : ord k < 64 := (by decide +kernel : ∀ k < 64, ord k < 64) k h
theorem inv_lt (k : Nat) (h : k < 64) : inv k < 64 := (by decide +kernel : ∀ k < 64, inv k < 64) k h
theorem swp_lt (k : Nat) (h : k < 64) : swp k < 64 := (by decide +kernel : ∀ k < 64, swp k < 64) k h
theorem ord_inv (k : Nat) (h : k < 64) : ord (inv k) = k := (by decide +kernel : ∀ k < 64, ord (inv k) = k) k h
theorem inv_ord (k : Nat) (h : k < 64) : inv (ord k) = k := (by decide +kernel : ∀ k < 64, inv (ord k) = k) k h
theorem swp_swp (k : Nat) (h : k < 64) : swp (swp k) = k := (by decide +kernel : ∀ k < 64, swp (swp k) = k) k h
theorem inv_first (i k : Nat) (hi : i < 64) (hk : k < inv i) : ord k ≠ i := (by decide +kernel : ∀ i < 64, ∀ k < inv i, ord k ≠ i) i hi k hk
/-- The table lies as the program's text lays it. -/
def Laid (w : World) : Prop := 0 < w.heap.size ∧ ∀ k, k < 64 → w.cell? ⟨0, k, none⟩ = some (.int .i64 (ord k))
theorem Laid.below {w w' : World} (h : Laid w) (hb : Below w.heap.size w w') : Laid w' := ⟨Nat.lt_of_lt_of_le h.1 hb.size, fun k hk => (hb.cell (p := ⟨0, k, none⟩) h.1).trans (h.2 k hk)⟩
theorem all_zig (K : IntKind) (v : Nat → Int) : setTo K 64 id (fun k => v (ord k)) 64 = arrN K 64 (fun j => v (ord j)) :=
  setTo_all K 64 id id _ 64 (fun _ hj => ⟨hj, rfl, fun _ _ e => e⟩)
theorem all_back (K : IntKind) (v : Nat → Int) : setTo K 64 ord v 64 = arrN K 64 (fun j => v (inv j)) :=
  setTo_all K 64 ord inv _ 64 (fun j hj => ⟨inv_lt j hj, ord_inv j hj, fun i hi e => by rw [← e, inv_ord i hi]⟩)
theorem all_swap (K : IntKind) (v : Nat → Int) : setTo K 64 swp v 64 = arrN K 64 (fun j => v (swp j)) :=
  setTo_all K 64 swp swp _ 64 (fun j hj => ⟨swp_lt j hj, swp_swp j hj, fun i hi e => by rw [← e, swp_swp i hi]⟩)
/-! ### At, Spot, awake -/
set_option maxHeartbeats 400000 in
theorem zigU (v : Nat → Int) (w : World) (hL : Laid w) :
    Calls Tryd.prog 57 #[.agg (arrN .u16 64 v)] w fun e w' => e = .returned (.agg (arrN .u16 64 (fun j => v (ord j)))) ∧ Below w.heap.size w w' := by
  obtain ⟨cs, hcs, hget⟩ : ∃ cs, cs = arrN .u16 64 v ∧ ∀ j, j < 64 → cs[j]? = some (.int .u16 (v j)) := ⟨_, rfl, fun j hj => arrN_get .u16 v hj⟩
  rw [← hcs]
  clear hcs
  have Hcs := Lib.hid hget; clear hget
  have HL := Lib.hid hL; clear hL
  go_enter Tryd.func57, Tryd.ntmps57
  go_wp2
  go_loopw [5] (fun i wr => ∃ k : Nat, k ≤ 64 ∧ i = .int .i64 k ∧ Hid (Blk wr w.heap.size 49 cs) ∧ Hid (∃ z, Blk wr (w.heap.size + 1) 49 z ∧ z.size = 64) ∧ Hid (Blk wr (w.heap.size + 1 + 1) 49 (setTo .u16 64 id (fun k => v (ord k)) k)) ∧ Hid (Below w.heap.size w wr)) (fun i _ => 64 - (intOf i).toNat)
  case atStart =>
    refine ⟨0, by omega, rfl, ?_, ?_, ?_, ?_⟩
    · exact Lib.hid (((Blk.new w _ _).alloc _).alloc _)
    · exact Lib.hid ⟨_, (Blk.nw (by simp)).alloc _, rfl⟩
    · exact Lib.hid (Blk.nw (by simp))
    · exact Lib.hid ((((Below.refl _ _).alloc (Nat.le_refl _) _).alloc (by simp) _).alloc (by simp; omega) _)
  case round =>
    obtain ⟨k, hk, rfl, h1, h2, h3, hb⟩ := hrel
    have hf : ∀ i, wr.frozen? ⟨w.heap.size + 1 + 1, i, none⟩ = false := h3.out.frozen
    have hL : Laid wr := HL.out.below hb.out
    by_cases hlt : k < 64
    · have hc0 := hL.2 k hlt
      have ho := ord_lt k hlt
      have hc1 : wr.cell? ⟨w.heap.size, ord k, none⟩ = some (.int .u16 (v (ord k))) := (h1.out.cell _).trans (Hcs.out _ ho)
      obtain ⟨u, hu⟩ := setTo_some .u16 id (fun k => v (ord k)) k hlt
      have hc2 : wr.cell? ⟨w.heap.size + 1 + 1, k, none⟩ = some u := (h3.out.cell _).trans hu
      have HL2 := Lib.hid hL; clear hL
      have Hu := Lib.hid hu; clear hu
      go_wp2
      refine ⟨⟨k + 1, by omega, by go_num, Lib.hid (h1.out.far (by simp; omega) _), ?_, Lib.hid (h3.out.set_ _ _), Lib.hid ((hb.out.setCell (by simp; omega) _))⟩, by simp [intOf]; omega⟩
      obtain ⟨z, hz, hzs⟩ := h2.out
      exact Lib.hid ⟨z, hz.far (by simp) _, hzs⟩
    · obtain rfl : k = 64 := by omega
      obtain ⟨z, hz, hzs⟩ := h2.out
      clear hlt
      have Hz := Lib.hid hz
      have Hzs := Lib.hid hzs
      clear hz hzs
      go_wp2_with (first | (refine wpList_load_row rfl 49 (.tmp 3) rfl (w.heap.size + 1 + 1) rfl 49 (setTo .u16 64 id (fun k => v (ord k)) 64) (0, 0) _ h3.out Tryd.underlying49 rfl (by rw [setTo_size]; kernel_rfl) ?_) | (refine wpList_store_row rfl 49 (.tmp 2) (.tmp 16) rfl (w.heap.size + 1) (setTo .u16 64 id (fun k => v (ord k)) 64) rfl rfl 49 z Hz.out (by rw [setTo_size]; kernel_rfl) (by rw [setTo_size, Hzs.out]) (setTo_one _ _ _ _ _) ?_))
      exact bodyPost_ret (results_cell_row rfl _ _ (w.heap.size + 1) 49 _ (0, 0) _ rfl (setRow_heap _ _ _ _ _ _ Hz.out) Tryd.underlying49 rfl (by rw [setTo_size]; kernel_rfl)) rfl ⟨by rw [all_zig], below_setRow hb.out (by omega) _⟩
set_option maxHeartbeats 400000 in
theorem backU (v : Nat → Int) (w : World) (hL : Laid w) :
    Calls Tryd.prog 39 #[.agg (arrN .u16 64 v)] w fun e w' => e = .returned (.agg (arrN .u16 64 (fun j => v (inv j)))) ∧ Below w.heap.size w w' := by
  obtain ⟨cs, hcs, hget⟩ : ∃ cs, cs = arrN .u16 64 v ∧ ∀ j, j < 64 → cs[j]? = some (.int .u16 (v j)) := ⟨_, rfl, fun j hj => arrN_get .u16 v hj⟩
  rw [← hcs]
  clear hcs
  have Hcs := Lib.hid hget; clear hget
  have HL := Lib.hid hL; clear hL
  go_enter Tryd.func39, Tryd.ntmps39
  go_wp2
  go_loopw [5] (fun i wr => ∃ k : Nat, k ≤ 64 ∧ i = .int .i64 k ∧ Hid (Blk wr w.heap.size 49 cs) ∧ Hid (∃ z, Blk wr (w.heap.size + 1) 49 z ∧ z.size = 64) ∧ Hid (Blk wr (w.heap.size + 1 + 1) 49 (setTo .u16 64 ord v k)) ∧ Hid (Below w.heap.size w wr)) (fun i _ => 64 - (intOf i).toNat)
  case atStart =>
    refine ⟨0, by omega, rfl, ?_, ?_, ?_, ?_⟩
    · exact Lib.hid (((Blk.new w _ _).alloc _).alloc _)
    · exact Lib.hid ⟨_, (Blk.nw (by simp)).alloc _, rfl⟩
    · exact Lib.hid (Blk.nw (by simp))
    · exact Lib.hid ((((Below.refl _ _).alloc (Nat.le_refl _) _).alloc (by simp) _).alloc (by simp; omega) _)
  case round =>
    obtain ⟨k, hk, rfl, h1, h2, h3, hb⟩ := hrel
    have hf : ∀ i, wr.frozen? ⟨w.heap.size + 1 + 1, i, none⟩ = false := h3.out.frozen
    have hL : Laid wr := HL.out.below hb.out
    by_cases hlt : k < 64
    · have hc0 := hL.2 k hlt
      have ho := ord_lt k hlt
      have hc1 : wr.cell? ⟨w.heap.size, k, none⟩ = some (.int .u16 (v k)) := (h1.out.cell _).trans (Hcs.out _ hlt)
      obtain ⟨u, hu⟩ := setTo_some .u16 ord v k ho
      have hc2 : wr.cell? ⟨w.heap.size + 1 + 1, ord k, none⟩ = some u := (h3.out.cell _).trans hu
      have HL2 := Lib.hid hL; clear hL
      have Hu := Lib.hid hu; clear hu
      go_wp2
      go_region
      go_wp2
      refine ⟨⟨k + 1, by omega, by go_num, Lib.hid (h1.out.far (by simp; omega) _), ?_, Lib.hid (h3.out.set_ _ _), Lib.hid ((hb.out.setCell (by simp; omega) _).drew)⟩, by simp [intOf]; omega⟩
      obtain ⟨z, hz, hzs⟩ := h2.out
      exact Lib.hid ⟨z, hz.far (by simp) _, hzs⟩
    · obtain rfl : k = 64 := by omega
      obtain ⟨z, hz, hzs⟩ := h2.out
      clear hlt
      have Hz := Lib.hid hz
      have Hzs := Lib.hid hzs
      clear hz hzs
      go_wp2_with (first | (refine wpList_load_row rfl 49 (.tmp 3) rfl (w.heap.size + 1 + 1) rfl 49 (setTo .u16 64 ord v 64) (0, 0) _ h3.out Tryd.underlying49 rfl (by rw [setTo_size]; kernel_rfl) ?_) | (refine wpList_store_row rfl 49 (.tmp 2) (.tmp 16) rfl (w.heap.size + 1) (setTo .u16 64 ord v 64) rfl rfl 49 z Hz.out (by rw [setTo_size]; kernel_rfl) (by rw [setTo_size, Hzs.out]) (setTo_one _ _ _ _ _) ?_))
      exact bodyPost_ret (results_cell_row rfl _ _ (w.heap.size + 1) 49 _ (0, 0) _ rfl (setRow_heap _ _ _ _ _ _ Hz.out) Tryd.underlying49 rfl (by rw [setTo_size]; kernel_rfl)) rfl ⟨by rw [all_back], below_setRow hb.out (by omega) _⟩
end Go.Proofs.YtdohhhkondokkaaDoor

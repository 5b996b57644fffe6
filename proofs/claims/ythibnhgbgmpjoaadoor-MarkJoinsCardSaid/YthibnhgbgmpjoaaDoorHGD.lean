/- The walks of package zig and of its reference: each function answers the plain function named beside it, where the table of places lies as the program's text lays it. -/
import Derived.Test.YthibnhgbgmpjoaaDoorHBase
import Derived.Test.YthibnhgbgmpjoaaDoorHGC
import Derived.Laws.Tables
import Derived.Deep.MidRow
namespace Go.Proofs.YthibnhgbgmpjoaaDoor
open Go.RowKit
def ordL : List Nat := [0, 1, 8, 16, 9, 2, 3, 10, 17, 24, 32, 25, 18, 11, 4, 5, 12, 19, 26, 33, 40, 48, 41, 34, 27, 20, 13, 6, 7, 14, 21, 28, 35, 42, 49, 56, 57, 50, 43, 36, 29, 22, 15, 23, 30, 37, 44, 51, 58, 59, 52, 45, 38, 31, 39, 46, 53, 60, 61, 54, 47, 55, 62, 63]
/-- Which place comes k-th; when place i comes; the place over the diagonal. -/
def ord (k : Nat) : Nat := ordL.getD k 0
def inv (i : Nat) : Nat := ordL.idxOf i
def swp (i : Nat) : Nat := i % 8 * 8 + i / 8
theorem ord_lt (k : Nat) (h : k < 64) : ord k < 64 := (by decide +kernel : ∀ k < 64, ord k < 64) k h
theorem inv_lt (k : Nat) (h : k < 64) : inv k < 64 := (by decide +kernel : ∀ k < 64, inv k < 64) k h
theorem swp_lt (k : Nat) (h : k < 64) : swp k < 64 := (by decide +kernel : ∀ k < 64, swp k < 64) k h
theorem ord_inv (k : Nat) (h : k < 64) : ord (inv k) = k := (by decide +kernel : ∀ k < 64, ord (inv k) = k) k h
theorem inv_ord (k : Nat) (h : k < 64) : inv (ord k) = k := (by decide +kernel : ∀ k < 64, inv (ord k) = k) k h
theorem swp_swp (k : Nat) (h : k < 64) : swp (swp k) = k := (by decide +kernel : ∀ k < 64, swp (swp k) = k) k h
theorem inv_first (i k : Nat) (hi : i < 64) (hk : k < inv i) : ord k ≠ i := (by decide +kernel : ∀ i < 64, ∀ k < inv i, ord k ≠ i) i hi k hk
/-- The table lies as the program's text lays it. -/
def Laid (w : World) : Prop := 0 < w.heap.size ∧ ∀ k, k < 64 → w.cell? ⟨0, k, none⟩ = some (.int .i64 (ord k))
theorem Laid.below {w w' : World} (h : Laid w) (hb : Below w.heap.size w w') : Laid w' := ⟨Nat.lt_of_lt_of_le h.1 hb.size, fun k hk => (hb.cell (p := ⟨0, k, none⟩) h.1).trans (h.2 k hk)⟩
theorem all_zig (K : IntKind) (v : Nat → Int) : setTo K 64 id (fun k => v (ord k)) 64 = arrN K 64 (fun j => v (ord j)) :=
  setTo_all K 64 id id _ 64 (fun _ hj => ⟨hj, rfl, fun _ _ e => e⟩)
theorem all_back (K : IntKind) (v : Nat → Int) : setTo K 64 ord v 64 = arrN K 64 (fun j => v (inv j)) :=
  setTo_all K 64 ord inv _ 64 (fun j hj => ⟨inv_lt j hj, ord_inv j hj, fun i hi e => by rw [← e, inv_ord i hi]⟩)
theorem all_swap (K : IntKind) (v : Nat → Int) : setTo K 64 swp v 64 = arrN K 64 (fun j => v (swp j)) :=
  setTo_all K 64 swp swp _ 64 (fun j hj => ⟨swp_lt j hj, swp_swp j hj, fun i hi e => by rw [← e, swp_swp i hi]⟩)
/-! ### At, Spot, awake -/
set_option maxHeartbeats 400000 in
theorem zigU (v : Nat → Int) (w : World) (hL : Laid w) :
    Calls Tryd.prog 62 #[.agg (arrN .u16 64 v)] w fun e w' => e = .returned (.agg (arrN .u16 64 (fun j => v (ord j)))) ∧ Below w.heap.size w w' := by
  obtain ⟨cs, hcs, hget⟩ : ∃ cs, cs = arrN .u16 64 v ∧ ∀ j, j < 64 → cs[j]? = some (.int .u16 (v j)) := ⟨_, rfl, fun j hj => arrN_get .u16 v hj⟩
  rw [← hcs]
  clear hcs
  have Hcs := Lib.hid hget; clear hget
  have HL := Lib.hid hL; clear hL
  go_enter Tryd.func62, Tryd.ntmps62
  go_wp2
  go_loopw [5] (fun i wr => ∃ k : Nat, k ≤ 64 ∧ i = .int .i64 k ∧ Hid (Blk wr w.heap.size 134 cs) ∧ Hid (∃ z, Blk wr (w.heap.size + 1) 134 z ∧ z.size = 64) ∧ Hid (Blk wr (w.heap.size + 1 + 1) 134 (setTo .u16 64 id (fun k => v (ord k)) k)) ∧ Hid (Below w.heap.size w wr)) (fun i _ => 64 - (intOf i).toNat)
  case atStart =>
    refine ⟨0, by omega, rfl, ?_, ?_, ?_, ?_⟩
    · exact Lib.hid (((Blk.new w _ _).alloc _).alloc _)
    · exact Lib.hid ⟨_, (Blk.nw (by simp)).alloc _, rfl⟩
    · exact Lib.hid (Blk.nw (by simp))
    · exact Lib.hid ((((Below.refl _ _).alloc (Nat.le_refl _) _).alloc (by simp) _).alloc (by simp; omega) _)
  case round =>
    obtain ⟨k, hk, rfl, h1, h2, h3, hb⟩ := hrel
    have hf : ∀ i, wr.frozen? ⟨w.heap.size + 1 + 1, i, none⟩ = false := h3.out.frozen
    have hL : Laid wr := HL.out.below hb.out
    by_cases hlt : k < 64
    · have hc0 := hL.2 k hlt
      have ho := ord_lt k hlt
      have hc1 : wr.cell? ⟨w.heap.size, ord k, none⟩ = some (.int .u16 (v (ord k))) := (h1.out.cell _).trans (Hcs.out _ ho)
      obtain ⟨u, hu⟩ := setTo_some .u16 id (fun k => v (ord k)) k hlt
      have hc2 : wr.cell? ⟨w.heap.size + 1 + 1, k, none⟩ = some u := (h3.out.cell _).trans hu
      have HL2 := Lib.hid hL; clear hL
      have Hu := Lib.hid hu; clear hu
      go_wp2
      refine ⟨⟨k + 1, by omega, by go_num, Lib.hid (h1.out.far (by simp; omega) _), ?_, Lib.hid (h3.out.set_ _ _), Lib.hid ((hb.out.setCell (by simp; omega) _))⟩, by simp [intOf]; omega⟩
      obtain ⟨z, hz, hzs⟩ := h2.out
      exact Lib.hid ⟨z, hz.far (by simp) _, hzs⟩
    · obtain rfl : k = 64 := by omega
      obtain ⟨z, hz, hzs⟩ := h2.out
      clear hlt
      have Hz := Lib.hid hz
      have Hzs := Lib.hid hzs
      clear hz hzs
      go_wp2_with (first | (refine wpList_load_row rfl 134 (.tmp 3) rfl (w.heap.size + 1 + 1) rfl 134 (setTo .u16 64 id (fun k => v (ord k)) 64) (0, 0) _ h3.out Tryd.underlying134 rfl (by rw [setTo_size]; kernel_rfl) ?_) | (refine wpList_store_row rfl 134 (.tmp 2) (.tmp 16) rfl (w.heap.size + 1) (setTo .u16 64 id (fun k => v (ord k)) 64) rfl rfl 134 z Hz.out (by rw [setTo_size]; kernel_rfl) (by rw [setTo_size, Hzs.out]) (setTo_one _ _ _ _ _) ?_))
      exact bodyPost_ret (results_cell_row rfl _ _ (w.heap.size + 1) 134 _ (0, 0) _ rfl (setRow_heap _ _ _ _ _ _ Hz.out) Tryd.underlying134 rfl (by rw [setTo_size]; kernel_rfl)) rfl ⟨by rw [all_zig], below_setRow hb.out (by omega) _⟩
set_option maxHeartbeats 400000 in
theorem backU (v : Nat → Int) (w : World) (hL : Laid w) :
    Calls Tryd.prog 53 #[.agg (arrN .u16 64 v)] w fun e w' => e = .returned (.agg (arrN .u16 64 (fun j => v (inv j)))) ∧ Below w.heap.size w w' := by
  obtain ⟨cs, hcs, hget⟩ : ∃ cs, cs = arrN .u16 64 v ∧ ∀ j, j < 64 → cs[j]? = some (.int .u16 (v j)) := ⟨_, rfl, fun j hj => arrN_get .u16 v hj⟩
  rw [← hcs]
  clear hcs
  have Hcs := Lib.hid hget; clear hget
  have HL := Lib.hid hL; clear hL
  go_enter Tryd.func53, Tryd.ntmps53
  go_wp2
  go_loopw [5] (fun i wr => ∃ k : Nat, k ≤ 64 ∧ i = .int .i64 k ∧ Hid (Blk wr w.heap.size 134 cs) ∧ Hid (∃ z, Blk wr (w.heap.size + 1) 134 z ∧ z.size = 64) ∧ Hid (Blk wr (w.heap.size + 1 + 1) 134 (setTo .u16 64 ord v k)) ∧ Hid (Below w.heap.size w wr)) (fun i _ => 64 - (intOf i).toNat)
  case atStart =>
    refine ⟨0, by omega, rfl, ?_, ?_, ?_, ?_⟩
    · exact Lib.hid (((Blk.new w _ _).alloc _).alloc _)
    · exact Lib.hid ⟨_, (Blk.nw (by simp)).alloc _, rfl⟩
    · exact Lib.hid (Blk.nw (by simp))
    · exact Lib.hid ((((Below.refl _ _).alloc (Nat.le_refl _) _).alloc (by simp) _).alloc (by simp; omega) _)
  case round =>
    obtain ⟨k, hk, rfl, h1, h2, h3, hb⟩ := hrel
    have hf : ∀ i, wr.frozen? ⟨w.heap.size + 1 + 1, i, none⟩ = false := h3.out.frozen
    have hL : Laid wr := HL.out.below hb.out
    by_cases hlt : k < 64
    · have hc0 := hL.2 k hlt
      have ho := ord_lt k hlt
      have hc1 : wr.cell? ⟨w.heap.size, k, none⟩ = some (.int .u16 (v k)) := (h1.out.cell _).trans (Hcs.out _ hlt)
      obtain ⟨u, hu⟩ := setTo_some .u16 ord v k ho
      have hc2 : wr.cell? ⟨w.heap.size + 1 + 1, ord k, none⟩ = some u := (h3.out.cell _).trans hu
      have HL2 := Lib.hid hL; clear hL
      have Hu := Lib.hid hu; clear hu
      go_wp2
      go_region
      go_wp2
      refine ⟨⟨k + 1, by omega, by go_num, Lib.hid (h1.out.far (by simp; omega) _), ?_, Lib.hid (h3.out.set_ _ _), Lib.hid ((hb.out.setCell (by simp; omega) _).drew)⟩, by simp [intOf]; omega⟩
      obtain ⟨z, hz, hzs⟩ := h2.out
      exact Lib.hid ⟨z, hz.far (by simp) _, hzs⟩
    · obtain rfl : k = 64 := by omega
      obtain ⟨z, hz, hzs⟩ := h2.out
      clear hlt
      have Hz := Lib.hid hz
      have Hzs := Lib.hid hzs
      clear hz hzs
      go_wp2_with (first | (refine wpList_load_row rfl 134 (.tmp 3) rfl (w.heap.size + 1 + 1) rfl 134 (setTo .u16 64 ord v 64) (0, 0) _ h3.out Tryd.underlying134 rfl (by rw [setTo_size]; kernel_rfl) ?_) | (refine wpList_store_row rfl 134 (.tmp 2) (.tmp 16) rfl (w.heap.size + 1) (setTo .u16 64 ord v 64) rfl rfl 134 z Hz.out (by rw [setTo_size]; kernel_rfl) (by rw [setTo_size, Hzs.out]) (setTo_one _ _ _ _ _) ?_))
      exact bodyPost_ret (results_cell_row rfl _ _ (w.heap.size + 1) 134 _ (0, 0) _ rfl (setRow_heap _ _ _ _ _ _ Hz.out) Tryd.underlying134 rfl (by rw [setTo_size]; kernel_rfl)) rfl ⟨by rw [all_back], below_setRow hb.out (by omega) _⟩
end Go.Proofs.YthibnhgbgmpjoaaDoor
namespace Go.Proofs.YthibnhgbgmpjoaaDoor
open Go.RowKit
set_option linter.unusedSimpArgs false
set_option linter.unusedVariables false
section
variable {P : Program} {ops : Array Oper} {rest : List Oper} {o : Oper} {a : Act} {w : World} {Q : Exit → Act → World → Prop}
theorem wpList_val {v : Value} (hgd : o.guard = none) (hr : (execOp a.eval o).run P w = .ok (.value v) w) (h : wpList P ops Q rest (a.put o.dst v) w) : wpList P ops Q (o :: rest) a w :=
  wpList_plain hgd fun K hK => by
    unfold Oper.wp
    rw [hr]
    exact hK _ _ h
theorem wpList_max {k k2 : IntKind} {x y : Int} (z : Int) (p q : Operand) (ts : Array TypeId) (hgd : o.guard = none) (ho : o.op = .call { callee := .builtin .max, args := #[p, q], argTypes := ts }) (hp : a.eval p = .int k x) (hq : a.eval q = .int k2 y) (hz : (if y > x then y else x) = z)
    (h : wpList P ops Q rest (a.put o.dst (.int k z)) w) : wpList P ops Q (o :: rest) a w := by
  refine wpList_val (v := .int k z) hgd ?_ h
  rw [max_exec a.eval o _ ho rfl]
  simp only [List.map_toArray, List.map_cons, List.map_nil, hp, hq]
  rw [← hz]
  rfl
theorem wpList_min {k k2 : IntKind} {x y : Int} (z : Int) (p q : Operand) (ts : Array TypeId) (hgd : o.guard = none) (ho : o.op = .call { callee := .builtin .min, args := #[p, q], argTypes := ts }) (hp : a.eval p = .int k x) (hq : a.eval q = .int k2 y) (hz : (if y < x then y else x) = z)
    (h : wpList P ops Q rest (a.put o.dst (.int k z)) w) : wpList P ops Q (o :: rest) a w := by
  refine wpList_val (v := .int k z) hgd ?_ h
  rw [min_exec a.eval o _ ho rfl]
  simp only [List.map_toArray, List.map_cons, List.map_nil, hp, hq]
  rw [← hz]
  rfl
end
end Go.Proofs.YthibnhgbgmpjoaaDoor
namespace Go.Proofs.YthibnhgbgmpjoaaDoor
open Go.RowKit
set_option linter.unusedSimpArgs false
set_option linter.unusedVariables false
def arrV (n : Nat) (v : Nat → Value) : Array Value := ((List.range n).map v).toArray
theorem arrV_size (n : Nat) (v : Nat → Value) : (arrV n v).size = n := by simp [arrV]
theorem arrV_get {n : Nat} (v : Nat → Value) {j : Nat} (h : j < n) : (arrV n v)[j]? = some (v j) := by simp [arrV, h]
theorem arrV_congr {n : Nat} {u v : Nat → Value} (h : ∀ j, j < n → u j = v j) : arrV n u = arrV n v := by
  unfold arrV; congr 1; exact List.map_congr_left fun j hj => h j (List.mem_range.1 hj)
theorem arrV_one {n : Nat} {v : Nat → Value} (h : ∀ j, j < n → (v j).oneCell' = true) : (arrV n v).all (·.oneCell') = true := by
  rw [Array.all_eq_true_iff_forall_mem]
  intro x hx
  simp only [arrV, List.mem_toArray, List.mem_map, List.mem_range] at hx
  obtain ⟨j, hj, rfl⟩ := hx
  exact h j hj
theorem arrV_set {n : Nat} (v : Nat → Value) {i : Nat} (x : Value) (_h : i < n) : (arrV n v).setIfInBounds i x = arrV n (fun j => if j = i then x else v j) := by
  apply Array.ext_getElem?
  intro j
  by_cases hj : j < n
  · rw [arrV_get _ hj, Array.getElem?_setIfInBounds]
    by_cases hij : i = j
    · subst hij; simp [arrV_size, hj]
    · have hji : ¬ j = i := fun e => hij e.symm
      simp [hij, hji, arrV_get v hj]
  · rw [Array.getElem?_eq_none (by simp [arrV_size]; omega), Array.getElem?_eq_none (by simp [arrV_size]; omega)]
/-- A table's cells. -/
def tabV (cnt : Nat → Int) (s : ByteArray) (cb cn fs at_ : Nat → Int) (j : Nat) : Value :=
  if j < 16 then .int .u8 (cnt j) else if j = 16 then .string s else if j < 529 then .int .i64 (if (j - 17) % 2 = 0 then cb ((j - 17) / 2) else cn ((j - 17) / 2)) else if j < 546 then .int .i64 (fs (j - 529)) else .int .i64 (at_ (j - 546))
def tabA (cnt : Nat → Int) (s : ByteArray) (cb cn fs at_ : Nat → Int) : Array Value := arrV 563 (tabV cnt s cb cn fs at_)
theorem tabA_size (cnt : Nat → Int) (s : ByteArray) (cb cn fs at_ : Nat → Int) : (tabA cnt s cb cn fs at_).size = 563 := arrV_size _ _
theorem tabA_one (cnt : Nat → Int) (s : ByteArray) (cb cn fs at_ : Nat → Int) : (tabA cnt s cb cn fs at_).all (·.oneCell') = true := arrV_one fun j _ => by
  unfold tabV; repeat' split
  all_goals rfl
def zf : Nat → Int := fun _ => 0
def Tab (w : World) (g : Nat) (cnt : Nat → Int) (s : ByteArray) (cb cn fs at_ : Nat → Int) : Prop := Blk w g 169 (tabA cnt s cb cn fs at_)
def upd (f : Nat → Int) (i : Nat) (x : Int) : Nat → Int := fun j => if j = i then x else f j
section
variable {w w' wd : World} {g : Nat} {cnt : Nat → Int} {s : ByteArray} {cb cn fs at_ : Nat → Int}
theorem Tab.lt (h : Tab w g cnt s cb cn fs at_) : g < w.heap.size := Blk.lt h
theorem Tab.bel (h : Tab w g cnt s cb cn fs at_) (hb : Below w.heap.size w w') : Tab w' g cnt s cb cn fs at_ := Blk.bel h hb
theorem Tab.drewE (h : Tab w g cnt s cb cn fs at_) (hd : wd = w.drew) : Tab wd g cnt s cb cn fs at_ := Blk.drewE h hd
theorem Tab.frozen (h : Tab w g cnt s cb cn fs at_) (i : Nat) : w.frozen? ⟨g, i, none⟩ = false := Blk.frozen h i
theorem Tab.cell (h : Tab w g cnt s cb cn fs at_) {i : Nat} (hi : i < 563) : w.cell? ⟨g, i, none⟩ = some (tabV cnt s cb cn fs at_ i) := by rw [Blk.cell h, tabA, arrV_get _ hi]
theorem Tab.gCnt (h : Tab w g cnt s cb cn fs at_) {i : Nat} (hi : i < 16) : w.cell? ⟨g, i, none⟩ = some (.int .u8 (cnt i)) := by rw [h.cell (by omega)]; unfold tabV; rw [if_pos hi]
theorem Tab.sym (h : Tab w g cnt s cb cn fs at_) : w.cell? ⟨g, 16, none⟩ = some (.string s) := h.cell (by decide)
theorem Tab.gCb (h : Tab w g cnt s cb cn fs at_) {i : Nat} (hi : i < 256) : w.cell? ⟨g, 17 + i * 2, none⟩ = some (.int .i64 (cb i)) := by
  rw [h.cell (by omega)]; unfold tabV; rw [if_neg (by omega), if_neg (by omega), if_pos (by omega), if_pos (by omega), show (17 + i * 2 - 17) / 2 = i by omega]
theorem Tab.gCn (h : Tab w g cnt s cb cn fs at_) {i : Nat} (hi : i < 256) : w.cell? ⟨g, 17 + i * 2 + 1, none⟩ = some (.int .i64 (cn i)) := by
  rw [h.cell (by omega)]; unfold tabV; rw [if_neg (by omega), if_neg (by omega), if_pos (by omega), if_neg (by omega), show (17 + i * 2 + 1 - 17) / 2 = i by omega]
theorem Tab.gFs (h : Tab w g cnt s cb cn fs at_) {i : Nat} (hi : i < 17) : w.cell? ⟨g, 529 + i, none⟩ = some (.int .i64 (fs i)) := by
  rw [h.cell (by omega)]; unfold tabV; rw [if_neg (by omega), if_neg (by omega), if_neg (by omega), if_pos (by omega), show 529 + i - 529 = i by omega]
theorem Tab.gAt (h : Tab w g cnt s cb cn fs at_) {i : Nat} (hi : i < 17) : w.cell? ⟨g, 546 + i, none⟩ = some (.int .i64 (at_ i)) := by
  rw [h.cell (by omega)]; unfold tabV; rw [if_neg (by omega), if_neg (by omega), if_neg (by omega), if_neg (by omega), show 546 + i - 546 = i by omega]
theorem Tab.setFs (h : Tab w g cnt s cb cn fs at_) {i : Nat} (hi : i < 17) (x : Int) : Tab (w.setCell ⟨g, 529 + i, none⟩ (.int .i64 x)) g cnt s cb cn (upd fs i x) at_ := by
  have h1 := Blk.set_ h (529 + i) (.int .i64 x)
  unfold Tab
  have e : (tabA cnt s cb cn fs at_).setIfInBounds (529 + i) (.int .i64 x) = tabA cnt s cb cn (upd fs i x) at_ := by
    unfold tabA
    rw [arrV_set _ _ (by omega)]
    refine arrV_congr fun j hj => ?_
    by_cases e : j = 529 + i
    · subst e; rw [if_pos rfl]; unfold tabV; rw [if_neg (by omega), if_neg (by omega), if_neg (by omega), if_pos (by omega), upd, if_pos (by omega)]
    · rw [if_neg e]; unfold tabV upd
      by_cases h1 : j < 16 <;> by_cases h2 : j = 16 <;> by_cases h3 : j < 529 <;> by_cases h4 : j < 546 <;> simp [h1, h2, h3, h4]
      have : ¬ j - 529 = i := by omega
      simp [this]
  rw [← e]; exact h1
theorem Tab.setAt (h : Tab w g cnt s cb cn fs at_) {i : Nat} (hi : i < 17) (x : Int) : Tab (w.setCell ⟨g, 546 + i, none⟩ (.int .i64 x)) g cnt s cb cn fs (upd at_ i x) := by
  have h1 := Blk.set_ h (546 + i) (.int .i64 x)
  unfold Tab
  have e : (tabA cnt s cb cn fs at_).setIfInBounds (546 + i) (.int .i64 x) = tabA cnt s cb cn fs (upd at_ i x) := by
    unfold tabA
    rw [arrV_set _ _ (by omega)]
    refine arrV_congr fun j hj => ?_
    by_cases e : j = 546 + i
    · subst e; rw [if_pos rfl]; unfold tabV; rw [if_neg (by omega), if_neg (by omega), if_neg (by omega), if_neg (by omega), upd, if_pos (by omega)]
    · rw [if_neg e]; unfold tabV upd
      by_cases h1 : j < 16 <;> by_cases h2 : j = 16 <;> by_cases h3 : j < 529 <;> by_cases h4 : j < 546 <;> simp [h1, h2, h3, h4]
      have : ¬ j - 546 = i := by omega
      simp [this]
  rw [← e]; exact h1
theorem Tab.setC (h : Tab w g cnt s cb cn fs at_) {i : Nat} (hi : i < 256) (x y : Int) : Tab ((w.setCell ⟨g, 17 + i * 2, none⟩ (.int .i64 x)).setCell ⟨g, 17 + i * 2 + 1, none⟩ (.int .i64 y)) g cnt s (upd cb i x) (upd cn i y) fs at_ := by
  have h1 := Blk.set_ (Blk.set_ h (17 + i * 2) (.int .i64 x)) (17 + i * 2 + 1) (.int .i64 y)
  unfold Tab
  have e : ((tabA cnt s cb cn fs at_).setIfInBounds (17 + i * 2) (.int .i64 x)).setIfInBounds (17 + i * 2 + 1) (.int .i64 y) = tabA cnt s (upd cb i x) (upd cn i y) fs at_ := by
    unfold tabA
    rw [arrV_set _ _ (by omega), arrV_set _ _ (by omega)]
    refine arrV_congr fun j hj => ?_
    by_cases e : j = 17 + i * 2 + 1
    · subst e; rw [if_pos rfl]; unfold tabV; rw [if_neg (by omega), if_neg (by omega), if_pos (by omega), if_neg (by omega), upd, if_pos (by omega)]
    · rw [if_neg e]
      by_cases e2 : j = 17 + i * 2
      · subst e2; rw [if_pos rfl]; unfold tabV; rw [if_neg (by omega), if_neg (by omega), if_pos (by omega), if_pos (by omega), upd, if_pos (by omega)]
      · rw [if_neg e2]; unfold tabV upd
        by_cases h1 : j < 16 <;> by_cases h2 : j = 16 <;> by_cases h3 : j < 529 <;> simp [h1, h2, h3]
        by_cases h4 : (j - 17) % 2 = 0
        · have : ¬ (j - 17) / 2 = i := by omega
          simp [h4, this]
        · have : ¬ (j - 17) / 2 = i := by omega
          simp [h4, this]
  rw [← e]; exact h1
end
theorem wpList_buildT {P : Program} {ops : Array Oper} {rest : List Oper} {o : Oper} {a : Act} {w : World} {Q : Exit → Act → World → Prop} {cells : Array Value} (hg : o.guard = none) (t : TypeId) (parts : Array (Nat × Operand)) (ho : o.op = .build t parts)
    (hf : P.built t (parts.map fun (i, x) => (i, a.eval x)).toList = some cells)
    (h : wpList P ops Q rest (a.put o.dst (.agg cells)) w) : wpList P ops Q (o :: rest) a w :=
  wpList_build hg t parts ho (by rw [hf]; rfl) (by rw [hf]; exact h)
theorem wpList_build2 {P : Program} {ops : Array Oper} {rest : List Oper} {o : Oper} {a : Act} {w : World} {Q : Exit → Act → World → Prop} {cells : Array Value} (hg : o.guard = none) (t : TypeId) (x y : Operand) (u v : Value) (ho : o.op = .build t #[(0, x), (1, y)])
    (hx : a.eval x = u) (hy : a.eval y = v) (hf : P.built t [(0, u), (1, v)] = some cells)
    (h : wpList P ops Q rest (a.put o.dst (.agg cells)) w) : wpList P ops Q (o :: rest) a w := by
  subst hx hy
  exact wpList_buildT hg t #[(0, x), (1, y)] ho (by simpa using hf) h
theorem tab_built (cnt : Nat → Int) (s : ByteArray) : Tryd.prog.built 169 [(0, .agg (arrN .u8 16 cnt)), (1, .string s)] = some (tabA cnt s zf zf zf zf) := by kernel_rfl
theorem wpList_store_code {ops : Array Oper} {rest : List Oper} {o : Oper} {a : Act} {w : World} {Q : Exit → Act → World → Prop} {cnt : Nat → Int} {s : ByteArray} {cb cn fs at_ : Nat → Int} (hgd : o.guard = none) (x y : Operand) (ho : o.op = .store 165 x y) (g i : Nat) (p q : Int) (hi : i < 256)
    (hx : a.eval x = .pointer (some ⟨g, 17 + i * 2, none⟩)) (hy : a.eval y = .agg #[.int .i64 p, .int .i64 q]) (hT : Tab w g cnt s cb cn fs at_)
    (h : ∀ w', Tab w' g cnt s (upd cb i p) (upd cn i q) fs at_ → (∀ g' t cs, g' ≠ g → Blk w g' t cs → Blk w' g' t cs) → (∀ B w0, B ≤ g → Below B w0 w → Below B w0 w') → wpList Tryd.prog ops Q rest (a.put o.dst undef) w') : wpList Tryd.prog ops Q (o :: rest) a w := by
  refine wpList_store_mid hgd 165 x y ho g (17 + i * 2) #[.int .i64 p, .int .i64 q] hx hy (fun j hj => ?_) (by kernel_rfl) (by simp [Value.oneCell']) (h _ (hT.setC hi p q) (fun g' t cs hne hB => (hB.far hne _).far hne _) (fun B w0 hB hb => (hb.setCell hB _).setCell hB _))
  have hj : j < 2 := hj
  exact ⟨by rw [hT.cell (by omega)]; rfl, hT.frozen _⟩
/-! What New does. -/
structure HS where
  next : Nat
  at_ : Nat
  cb : Nat → Int
  cn : Nat → Int
def symN (s : ByteArray) (i : Nat) : Nat := (s.data.getD i 0).toNat
theorem symN_eq {s : ByteArray} {i : Nat} (h : i < s.size) : s[i].toNat = symN s i := by
  unfold symN
  have h2 : i < s.data.size := h
  rw [Array.getD_eq_getD_getElem?, Array.getElem?_eq_getElem h2]
  rfl
def hIn (s : ByteArray) (n : Nat) : Nat → HS → Option HS
  | 0, st => some st
  | k + 1, st => match hIn s n k st with
    | none => none
    | some st => if s.size ≤ st.at_ ∨ 2 ^ n - 1 ≤ st.next ∨ 0 < st.cn (symN s st.at_) then none else
        some ⟨st.next + 1, st.at_ + 1, upd st.cb (symN s st.at_) st.next, upd st.cn (symN s st.at_) n⟩
def hOut (cnt : Nat → Int) (s : ByteArray) : Nat → Option HS
  | 0 => some ⟨0, 0, zf, zf⟩
  | n + 1 => match hOut cnt s n with
    | none => none
    | some st => hIn s (n + 1) (cnt n).toNat { st with next := 2 * st.next }
def fsF (cnt : Nat → Int) (s : ByteArray) (n : Nat) : Int := match n with
  | 0 => 0
  | n + 1 => match hOut cnt s n with | none => 0 | some st => 2 * st.next
def atF (cnt : Nat → Int) (s : ByteArray) (n : Nat) : Int := match n with
  | 0 => 0
  | n + 1 => match hOut cnt s n with | none => 0 | some st => st.at_
def hufNew (cnt : Nat → Int) (s : ByteArray) : Option HS := match hOut cnt s 16 with
  | none => none
  | some st => if st.at_ = 0 ∨ st.at_ ≠ s.size then none else some st
theorem hIn_none {s : ByteArray} {n k : Nat} {st : HS} (h : hIn s n k st = none) (K : Nat) (hK : k ≤ K) : hIn s n K st = none := by
  induction K with
  | zero => obtain rfl : k = 0 := by omega
            exact h
  | succ K ih =>
    rcases Nat.lt_or_ge k (K + 1) with h1 | h1
    · rw [hIn, ih (by omega)]
    · obtain rfl : k = K + 1 := by omega
      exact h
theorem hOut_none {cnt : Nat → Int} {s : ByteArray} {k : Nat} (h : hOut cnt s k = none) (K : Nat) (hK : k ≤ K) : hOut cnt s K = none := by
  induction K with
  | zero => obtain rfl : k = 0 := by omega
            exact h
  | succ K ih =>
    rcases Nat.lt_or_ge k (K + 1) with h1 | h1
    · rw [hOut, ih (by omega)]
    · obtain rfl : k = K + 1 := by omega
      exact h
theorem hIn_bd {s : ByteArray} {n k : Nat} {st st' : HS} (h : hIn s n k st = some st') (h0 : st.next ≤ 2 ^ n - 1) (h1 : st.at_ ≤ s.size) : st'.next ≤ 2 ^ n - 1 ∧ st'.at_ ≤ s.size := by
  induction k generalizing st' with
  | zero => simp [hIn] at h; subst h; exact ⟨h0, h1⟩
  | succ k ih =>
    rw [hIn] at h
    cases hk : hIn s n k st with
    | none => rw [hk] at h; cases h
    | some st2 =>
      rw [hk] at h
      have := ih hk
      simp only at h
      split at h
      · cases h
      · injection h with h; subst h; simp only; omega
theorem hOut_bd {cnt : Nat → Int} {s : ByteArray} {n : Nat} {st : HS} (h : hOut cnt s n = some st) : st.next ≤ 2 ^ n - 1 ∧ st.at_ ≤ s.size := by
  induction n generalizing st with
  | zero => simp [hOut] at h; subst h; simp
  | succ n ih =>
    rw [hOut] at h
    cases hk : hOut cnt s n with
    | none => rw [hk] at h; cases h
    | some st2 =>
      rw [hk] at h
      have h2 := ih hk
      refine hIn_bd h ?_ h2.2
      have : 2 ^ (n + 1) = 2 * 2 ^ n := by rw [Nat.pow_succ]; omega
      simp only; omega
end Go.Proofs.YthibnhgbgmpjoaaDoor

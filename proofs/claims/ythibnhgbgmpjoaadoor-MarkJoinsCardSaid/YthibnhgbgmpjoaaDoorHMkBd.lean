/- A strings.Builder of one's own (gen_mkbd.py). No condition. -/
import Derived.Test.YthibnhgbgmpjoaaDoorHGB
import Derived.Lib.Builder
import Derived.Lib.UnsafeStr
import Derived.Lib.AppendStr
import Derived.Shelf.RegionOpenPlain
import Derived.Lib.SlicesS
namespace Go.Proofs.YthibnhgbgmpjoaaDoor
open Go.RowKit
set_option linter.unusedSimpArgs false
set_option linter.unusedVariables false
/-- The writer of block b: what was written, and whether it is. p: whether it was written to before. -/
def BdrP (B b : Nat) (p : Value) (l : List UInt8) (w : World) : Prop :=
  B ≤ b ∧ B ≤ w.heap.size ∧ ∃ v, Blk w b 75 #[p, v] ∧ w.ownsRow B 5 1 v l.length (Lib.byteCells l) ∧ v.ownBlock ≠ some b
def Bdr (B b : Nat) (l : List UInt8) (w : World) : Prop := BdrP B b (.pointer none) l w ∨ BdrP B b (.pointer (some ⟨b, 0, none⟩)) l w
/-- Every block but a writer's and a row of bytes stands. -/
def KeepB (w w' : World) : Prop := ∀ g t cs, t ≠ 75 → t ≠ 5 → Blk w g t cs → Blk w' g t cs
theorem KeepB.refl (w : World) : KeepB w w := fun _ _ _ _ _ h => h
theorem KeepB.trans {a b c : World} (h : KeepB a b) (k : KeepB b c) : KeepB a c := fun g t cs h1 h2 hB => k g t cs h1 h2 (h g t cs h1 h2 hB)
theorem KeepB.of_below {w w' : World} (h : Below w.heap.size w w') : KeepB w w' := fun _ _ _ _ _ hB => hB.bel h
theorem KeepB.set {w : World} {b : Nat} {cs : Array Value} (hb : Blk w b 75 cs) (i : Nat) (u : Value) : KeepB w (w.setCell ⟨b, i, none⟩ u) := fun g t cs' h1 _ hB => hB.far (p := ⟨b, i, none⟩) (by
  rintro rfl
  unfold Blk at hb hB
  rw [hb] at hB
  simp at hB
  exact h1 hB.2.symm) u
theorem KeepB.grown {base n : Nat} {v : Value} {xs : List Value} {w w' : World} (hO : w.ownsRow base 5 1 v n xs) (hg : w.grownBy w' v.ownBlock) : KeepB w w' := fun g t cs _ h2 hB => by
  by_cases e' : some g = v.ownBlock
  · exfalso
    rcases hO.2 with ⟨rfl, _⟩ | ⟨g', cap, cur, rfl, _, hc, _⟩
    · simp [Value.ownBlock] at e'
    · simp [Value.ownBlock] at e'
      subst e'
      unfold Blk at hB
      rw [hB] at hc
      simp at hc
      exact h2 hc.2
  · exact (hg.block g hB.lt e').trans hB
set_option maxHeartbeats 1000000 in
set_option maxRecDepth 100000 in
theorem bCheck_fresh (b : Nat) (v : Value) (w : World) (h : Blk w b 75 #[.pointer none, v]) :
    Calls Tryd.prog 51 #[.pointer (some ⟨b, 0, none⟩)] w fun e w' => e = .returned (.tuple #[]) ∧ w' = w.setCell ⟨b, 0, none⟩ (.pointer (some ⟨b, 0, none⟩)) := by
  have h0 := h.cell 0
  have hf := h.frozen 0
  have hsh : w.shape? b = some (75, 2) := by simp [World.shape?, show w.heap[b]? = _ from h]
  clear h
  obtain ⟨j, hj⟩ := Option.isSome_iff_exists.1 (show (Tryd.prog.info? 75).isSome = true by kernel_rfl)
  have hjs : (Tryd.prog.info? 75).map (fun j => j.size == 0) = some false := by kernel_rfl
  rw [hj] at hjs
  simp only [Option.map_some, Option.some.injEq, beq_eq_false_iff_ne] at hjs
  have HSH := Lib.hid hsh; clear hsh
  have HJ := Lib.hid hj; clear hj
  have HJS := Lib.hid hjs; clear hjs
  go_enter Tryd.func51, Tryd.ntmps51
  go_wp2
  rw [Lib.run_to_unsafe w ⟨b, 0, none⟩ (t := 75) (by kernel_rfl) (by kernel_rfl) HJ.out HJS.out HSH.out (Nat.zero_lt_succ 1)]
  simp only [Result.andThen]
  rw [Oper.upon_value]
  go_wp2
  rw [run_callFunc_extern Tryd.func63 (by kernel_rfl) (by kernel_rfl) (by kernel_rfl) (e := Extern.AbiNoEscape.same) (by kernel_rfl)]
  rw [Lib.run_noEscape]
  simp only [Result.andThen]
  rw [Oper.upon_value]
  go_wp2
  rw [Lib.run_from_unsafe w ⟨b, 0, none⟩ (u := 75) (by kernel_rfl) (by kernel_rfl) HJ.out HSH.out (by kernel_rfl)]
  simp only [Result.andThen]
  rw [Oper.upon_value]
  go_wp2
  go_end0
  exact ⟨rfl, rfl⟩
set_option maxHeartbeats 1000000 in
set_option maxRecDepth 100000 in
theorem bCheck_used (b : Nat) (v : Value) (w : World) (h : Blk w b 75 #[.pointer (some ⟨b, 0, none⟩), v]) :
    Calls Tryd.prog 51 #[.pointer (some ⟨b, 0, none⟩)] w fun e w' => e = .returned (.tuple #[]) ∧ w' = w := by
  have h0 := h.cell 0
  clear h
  obtain ⟨j, hj⟩ := Option.isSome_iff_exists.1 (show (Tryd.prog.info? 75).isSome = true by kernel_rfl)
  have HJ := Lib.hid hj; clear hj
  go_enter Tryd.func51, Tryd.ntmps51
  go_wp2
  rw [Lib.run_neq_ptr_same w _ (te := 75) (by kernel_rfl) HJ.out]
  go_wp2
  go_end0
  exact ⟨rfl, rfl⟩
theorem bCheck_walk (B b : Nat) (l : List UInt8) (w : World) (h : Bdr B b l w) :
    Calls Tryd.prog 51 #[.pointer (some ⟨b, 0, none⟩)] w fun e w' => e = .returned (.tuple #[]) ∧ BdrP B b (.pointer (some ⟨b, 0, none⟩)) l w' ∧ Below B w w' ∧ KeepB w w' := by
  rcases h with ⟨hB, hw, v, hb, ho, hne⟩ | h
  · refine (bCheck_fresh b v w hb).mono ?_
    rintro e w' ⟨rfl, rfl⟩
    exact ⟨rfl, ⟨hB, by simpa [World.setCell] using hw, v, Blk.set_ hb 0 _, ownsRow_setCell_other ho hne _, hne⟩, (Below.refl B w).setCell (p := ⟨b, 0, none⟩) hB _, KeepB.set hb 0 _⟩
  · have h2 := h
    obtain ⟨hB, hw, v, hb, ho, hne⟩ := h
    refine (bCheck_used b v w hb).mono ?_
    rintro e w' ⟨rfl, rfl⟩
    exact ⟨rfl, h2, Below.refl B _, KeepB.refl _⟩
set_option maxHeartbeats 2000000 in
set_option maxRecDepth 100000 in
theorem bWrite_walk (B b : Nat) (l : List UInt8) (s : ByteArray) (w : World) (hl : l.length + s.size ≤ 140737488355328) (h : Bdr B b l w) :
    Calls Tryd.prog 25 #[.pointer (some ⟨b, 0, none⟩), .string s] w fun e w' => (∃ x, e = .returned x) ∧ BdrP B b (.pointer (some ⟨b, 0, none⟩)) (l ++ s.data.toList) w' ∧ Below B w w' ∧ KeepB w w' := by
  obtain ⟨i0, hi⟩ := Option.isSome_iff_exists.1 (show (Tryd.prog.info? 5).isSome = true by kernel_rfl)
  have h3 : (Tryd.prog.info? 5).map (fun i => (i.zero, i.size, i.bytes)) = some (some (Value.int .u8 0), 1, 1) := by kernel_rfl
  rw [hi] at h3
  simp only [Option.map_some, Option.some.injEq, Prod.mk.injEq] at h3
  obtain ⟨hz0, hz1, hz2⟩ := h3
  have HC := Lib.hid (bCheck_walk B b l w h)
  clear h
  have HI := Lib.hid hi; clear hi
  go_enter Tryd.func25, Tryd.ntmps25
  go_wp2_with (go_at_call 51; refine HC.out.mono ?_)
  rintro e w1 ⟨rfl, ⟨hB, hw1, v, hbk, hown, hne⟩, hb1, kb1⟩
  have KB1 := Lib.hid kb1; clear kb1
  have c1 : w1.cell? ⟨b, 1, none⟩ = some v := hbk.cell 1
  go_wp2_with (at_builtin; refine Lib.wpList_append_own_string _ rfl _ _ 71 9 rfl B 5 i0 (by kernel_rfl) (by kernel_rfl) HI.out hz0 hz1 hz2 v l.length (Lib.byteCells l) rfl hown s rfl ?_ ?_ hw1 ?_)
  · simp only [maxLen]; omega
  · exact hl
  intro v' w2 hown' hgrow _
  have hb2 : Blk w2 b 75 #[.pointer (some ⟨b, 0, none⟩), v] := (hgrow.block b hbk.lt (fun e => hne e.symm)).trans hbk
  have d0 : w2.cell? ⟨b, 0, none⟩ = some (.pointer (some ⟨b, 0, none⟩)) := hb2.cell 0
  have d1 : w2.cell? ⟨b, 1, none⟩ = some v := hb2.cell 1
  have f1 := hb2.frozen 1
  obtain ⟨ao, n', cap, rfl⟩ : ∃ ao n' cap, v' = .slice ao n' cap := by
    rcases hown'.2 with ⟨hv, _⟩ | ⟨g, cap, cur, hv, _⟩
    · exact ⟨_, _, _, hv⟩
    · exact ⟨_, _, _, hv⟩
  have hne2 : (Value.slice ao n' cap).ownBlock ≠ some b := Lib.ownBlock_ne hown' hb2 (by decide)
  go_wp2
  go_ret2
  refine ⟨⟨_, rfl⟩, ⟨hB, ?_, _, Blk.set_ hb2 1 _, ?_, hne2⟩, ?_, (KB1.out.trans (KeepB.grown hown hgrow)).trans (KeepB.set hb2 1 _)⟩
  · have := hgrow.size; simp [World.setCell]; omega
  · refine ownsRow_setCell_other (a := ⟨b, 1, none⟩) ?_ hne2 _
    rw [Lib.strCells_eq, ← Lib.byteCells_append] at hown'
    simpa using hown'
  · exact (hb1.grown hgrow hw1 (fun k hk => (hown.lt k hk).1)).setCell (p := ⟨b, 1, none⟩) hB _
set_option maxHeartbeats 2000000 in
set_option maxRecDepth 100000 in
theorem bString_some (B b : Nat) (p : Value) (l : List UInt8) (w : World) (h : BdrP B b p l w) (h0 : l ≠ []) :
    Calls Tryd.prog 23 #[.pointer (some ⟨b, 0, none⟩)] w fun e w' => e = .returned (.string ⟨l.toArray⟩) ∧ Below B w w' := by
  obtain ⟨hB, hw, v, hbk, hown, hne⟩ := h
  have hl0 : l.length ≠ 0 := by simpa using h0
  obtain ⟨g, cap, cur, rfl, hbg, hg, hnc, hcm, hcs, htake⟩ : ∃ g cap cur, v = .slice (some ⟨g, 0, none⟩) l.length cap ∧ B ≤ g ∧ w.heap[g]? = some (.cells cur 5 (0, 0)) ∧ l.length ≤ cap ∧ cap ≤ maxLen ∧ cur.size = cap * 1 ∧ cur.toList.take (l.length * 1) = Lib.byteCells l := by
    rcases hown.2 with ⟨_, hz⟩ | ⟨g, cap, cur, hv, r⟩
    · exact absurd hz hl0
    · exact ⟨g, cap, cur, hv, r⟩
  have c1 : w.drew.cell? ⟨b, 1, none⟩ = some (.slice (some ⟨g, 0, none⟩) l.length cap) := hbk.cell 1
  have hSD : (Builtin.unsafeSliceData_ #[71] 127 #[.slice (some ⟨g, 0, none⟩) l.length cap]).run Tryd.prog w.drew = .ok (.pointer (some ⟨g, 0, none⟩)) w.drew :=
    Lib.run_unsafeSliceData_row _ _ _ _ _ _ (by omega)
  have hUS : (Builtin.unsafeString_ #[127, 3] 9 #[.pointer (some ⟨g, 0, none⟩), .int .i64 l.length]).run Tryd.prog w.drew = .ok (.string ⟨l.toArray⟩) (w.drew.freeze ⟨g, 0, none⟩ l.length) := by
    refine Lib.run_unsafeString_row w.drew 127 3 9 5 (by kernel_rfl) (by kernel_rfl) g cur.size (by have hg' : w.drew.heap[g]? = some (.cells cur 5 (0, 0)) := hg; simp [World.shape?, hg']) l h0 (by omega) (by unfold maxLen at hcm; omega) ?_
    intro j x hx
    exact hown.cells (g := g) rfl j (.int .u8 x.toNat) (by simp [Lib.byteCells, hx])
  clear hbk hown htake
  have mixed : Tryd.prog.follows Departure.mixedOrders = true := by kernel_rfl
  go_enter Tryd.func23, Tryd.ntmps23
  go_wp2
  go_region_o
  all_goals (go_wp2; go_ret; exact ⟨rfl, Lib.below_freeze (Below.drew (Below.refl B w)) (p := ⟨g, 0, none⟩) hbg _⟩)
set_option maxHeartbeats 2000000 in
set_option maxRecDepth 100000 in
theorem bString_none (B b : Nat) (p : Value) (w : World) (hbk : Blk w b 75 #[p, .slice none 0 0]) :
    Calls Tryd.prog 23 #[.pointer (some ⟨b, 0, none⟩)] w fun e w' => e = .returned (.string ⟨#[]⟩) ∧ Below B w w' := by
  have hUS := fun (W : World) q => Lib.run_unsafeString_none (P := Tryd.prog) W 127 3 9 q
  have c1 : w.drew.cell? ⟨b, 1, none⟩ = some (.slice none 0 0) := hbk.cell 1
  have hSD : (Builtin.unsafeSliceData_ #[71] 127 #[.slice none 0 0]).run Tryd.prog w.drew = .ok (.pointer none) w.drew := rfl
  clear hbk
  have mixed : Tryd.prog.follows Departure.mixedOrders = true := by kernel_rfl
  go_enter Tryd.func23, Tryd.ntmps23
  go_wp2
  go_region_o
  all_goals (go_wp2; go_ret; exact ⟨rfl, Below.drew (Below.refl B w)⟩)
set_option maxHeartbeats 2000000 in
set_option maxRecDepth 100000 in
theorem bString_zero (B b g : Nat) (p : Value) (cur : Array Value) (w : World) (hBw : B ≤ w.heap.size) (hbk : Blk w b 75 #[p, .slice (some ⟨g, 0, none⟩) 0 0]) (hg : w.heap[g]? = some (.cells cur 5 (0, 0))) :
    Calls Tryd.prog 23 #[.pointer (some ⟨b, 0, none⟩)] w fun e w' => e = .returned (.string ⟨#[]⟩) ∧ Below B w w' := by
  have hUS := fun (W : World) q => Lib.run_unsafeString_none (P := Tryd.prog) W 127 3 9 q
  have c1 : w.drew.cell? ⟨b, 1, none⟩ = some (.slice (some ⟨g, 0, none⟩) 0 0) := hbk.cell 1
  have hSD : (Builtin.unsafeSliceData_ #[71] 127 #[.slice (some ⟨g, 0, none⟩) 0 0]).run Tryd.prog w.drew = .ok (.pointer (some ⟨w.drew.heap.size, 0, none⟩)) (w.drew.alloc (.view ⟨g, 0, none⟩ 5)) :=
    Lib.run_unsafeSliceData_zero w.drew _ _ 5 (by kernel_rfl) ⟨g, 0, none⟩ 0 (5, cur.size) (by have hg' : w.drew.heap[g]? = some (.cells cur 5 (0, 0)) := hg; simp [World.shape?, hg'])
  have c2 : (w.drew.alloc (.view ⟨g, 0, none⟩ 5)).cell? ⟨b, 1, none⟩ = some (.slice (some ⟨g, 0, none⟩) 0 0) := (Blk.alloc (w := w.drew) hbk _).cell 1
  have c3 : (w.alloc (.view ⟨g, 0, none⟩ 5)).drew.cell? ⟨b, 1, none⟩ = some (.slice (some ⟨g, 0, none⟩) 0 0) := c2
  have c0 : w.cell? ⟨b, 1, none⟩ = some (.slice (some ⟨g, 0, none⟩) 0 0) := c1
  clear hbk
  have mixed : Tryd.prog.follows Departure.mixedOrders = true := by kernel_rfl
  go_enter Tryd.func23, Tryd.ntmps23
  go_wp2
  go_region_o
  all_goals (go_wp2; go_ret; exact ⟨rfl, (Below.drew (Below.refl B w)).alloc hBw _⟩)
set_option maxHeartbeats 2000000 in
set_option maxRecDepth 100000 in
theorem bString_room (B b g cap : Nat) (p : Value) (w : World) (hc0 : cap ≠ 0) (hbk : Blk w b 75 #[p, .slice (some ⟨g, 0, none⟩) 0 cap]) :
    Calls Tryd.prog 23 #[.pointer (some ⟨b, 0, none⟩)] w fun e w' => e = .returned (.string ⟨#[]⟩) ∧ Below B w w' := by
  have hUS := fun (W : World) q => Lib.run_unsafeString_none (P := Tryd.prog) W 127 3 9 q
  have c1 : w.drew.cell? ⟨b, 1, none⟩ = some (.slice (some ⟨g, 0, none⟩) 0 cap) := hbk.cell 1
  have hSD : (Builtin.unsafeSliceData_ #[71] 127 #[.slice (some ⟨g, 0, none⟩) 0 cap]).run Tryd.prog w.drew = .ok (.pointer (some ⟨g, 0, none⟩)) w.drew :=
    Lib.run_unsafeSliceData_row _ _ _ _ _ _ hc0
  clear hc0 hbk
  have mixed : Tryd.prog.follows Departure.mixedOrders = true := by kernel_rfl
  go_enter Tryd.func23, Tryd.ntmps23
  go_wp2
  go_region_o
  all_goals (go_wp2; go_ret; exact ⟨rfl, Below.drew (Below.refl B w)⟩)
theorem bString_walk (B b : Nat) (l : List UInt8) (w : World) (h : Bdr B b l w) :
    Calls Tryd.prog 23 #[.pointer (some ⟨b, 0, none⟩)] w fun e w' => e = .returned (.string ⟨l.toArray⟩) ∧ Below B w w' := by
  obtain ⟨p, h⟩ : ∃ p, BdrP B b p l w := by
    rcases h with h | h
    · exact ⟨_, h⟩
    · exact ⟨_, h⟩
  cases l with
  | cons x r => exact bString_some B b p (x :: r) w h (by simp)
  | nil =>
    obtain ⟨hB, hw, v, hbk, hown, hne⟩ := h
    rcases hown.2 with ⟨rfl, _⟩ | ⟨g, cap, cur, rfl, hbg, hg, _, _, _, _⟩
    · exact bString_none B b p w hbk
    · by_cases hc0 : cap = 0
      · subst hc0
        exact bString_zero B b g p cur w hw hbk hg
      · exact bString_room B b g cap p w hc0 hbk
theorem Bdr.bel {B b : Nat} {l : List UInt8} {w w' : World} (h : Bdr B b l w) (hb : Below w.heap.size w w') : Bdr B b l w' := by
  have hg : w.grownBy w' none := ⟨hb.os, hb.tape, hb.output, hb.size, fun i hi _ => hb.block i hi⟩
  rcases h with ⟨hB, hw, v, h, ho, hne⟩ | ⟨hB, hw, v, h, ho, hne⟩
  · exact .inl ⟨hB, Nat.le_trans hw hb.size, v, h.bel hb, ho.kept hg (Classical.em _), hne⟩
  · exact .inr ⟨hB, Nat.le_trans hw hb.size, v, h.bel hb, ho.kept hg (Classical.em _), hne⟩
theorem bdr_new (B : Nat) (w : World) (hB : B ≤ w.heap.size) : Bdr B w.heap.size [] (w.alloc (.cells #[.pointer none, .slice none 0 0] 75)) :=
  .inl ⟨hB, by rw [World.size_alloc]; omega, _, Blk.new _ _ _, ⟨by simp [Lib.byteCells], .inl ⟨rfl, rfl⟩⟩, by simp [Value.ownBlock]⟩
theorem Bdr.size {B b : Nat} {l : List UInt8} {w : World} (h : Bdr B b l w) : B ≤ w.heap.size := by rcases h with h | h <;> exact h.2.1
theorem exec_sne {ρ : Operand → Value} {o : Oper} {w : World} {x y : Operand} {u : TypeId} {X Y : ByteArray} (ho : o.op = .binOp .neq 9 x y u) (hx : ρ x = .string X) (hy : ρ y = .string Y) (b : Bool) (hb : b = decide (X ≠ Y)) : (execOp ρ o).run Tryd.prog w = .ok (.value (.bool b)) w := by
  have hb2 : (!(X.toList == Y.toList)) = b := by
    rw [hb]
    by_cases h : X = Y
    · subst h; simp
    · rw [(Lib.bytes_beq_false_iff X Y).2 h, decide_eq_true h]; rfl
  subst hb2
  unfold execOp
  simp only [ho, hx, hy]
  go_simp
end Go.Proofs.YthibnhgbgmpjoaaDoor

/- A block turned over its diagonal changes its numbers' places within a line alone, and turns each line about. No condition but the card's own: the table holds what the program's text lays. -/
import Derived.Test.YtalkeefjnejelaaDoorZigC
import Derived.Test.YtalkeefjnejelaaDoorReg
import Derived.Test.YtalkeefjnejelaaDoorCards
import Derived.Test.YtalkeefjnejelaaDoorTie
import Derived.Deep.DeepHandedRow
import Derived.Lib.LaidTab
namespace Go.Proofs.YtalkeefjnejelaaDoor
open Go.RowKit
set_option linter.unusedSimpArgs false
set_option linter.unusedVariables false
/-- A line's length, and where it begins. -/
def ln (s : Nat) : Nat := if s + 1 ≤ 15 - s then s + 1 else 15 - s
def st : Nat → Nat
  | 0 => 0
  | s + 1 => st s + ln s
theorem line_in (s : Nat) (hs : s < 15) (i : Nat) (hi : i < ln s) : st s + i < 64 ∧ st s + ln s - 1 - i < 64 ∧ swp (ord (st s + i)) = ord (st s + ln s - 1 - i) :=
  (by decide +kernel : ∀ s < 15, ∀ i < ln s, st s + i < 64 ∧ st s + ln s - 1 - i < 64 ∧ swp (ord (st s + i)) = ord (st s + ln s - 1 - i)) s hs i hi
theorem st_le (s : Nat) (hs : s ≤ 15) : st s ≤ 64 := (by decide +kernel : ∀ s < 16, st s ≤ 64) s (by omega)
theorem ln_le (s : Nat) (hs : s < 15) : 1 ≤ ln s ∧ ln s ≤ 8 := (by decide +kernel : ∀ s < 15, 1 ≤ ln s ∧ ln s ≤ 8) s hs
theorem min_ln (s : Nat) (hs : s < 15) : min ((s : Int) + 1) (15 - (s : Int)) = (ln s : Nat) := by
  unfold ln; split <;> omega
set_option maxHeartbeats 3200000 in
theorem zigLines_walk (v : Nat → Int) (w : World) (hL : Laid w) :
    Calls Tryd.prog 5 #[.agg (arrN .i16 64 v)] w fun e w' => e = .returned (.bool true) ∧ Below w.heap.size w w' := by
  have b0 : Below w.heap.size w (w.alloc (.cells (arrN .i16 64 v) 29)) := (Below.refl _ _).alloc (Nat.le_refl _) _
  have HL := Lib.hid hL; clear hL
  have Hb0 := Lib.hid b0; clear b0
  go_enter Tryd.func5, Tryd.ntmps5
  go_wp2_with (first | (refine wpList_load_row rfl 29 (.tmp 1) rfl w.heap.size rfl 29 (arrN .i16 64 v) (0, 0) _ (by first | exact Blk.new w _ _ | exact hA3.out) Tryd.underlying29 rfl (by rw [arrN_size]; kernel_rfl) ?_) | (go_at_call 16; refine (swap16 v _ (HL.out.below Hb0.out)).mono ?_; rintro e w1 ⟨rfl, hb1⟩; have hB1 := Lib.hid (Hb0.out.trans (hb1.mono (by simp))); have hA1 := Lib.hid ((Blk.new w 29 (arrN .i16 64 v)).bel hb1); clear hb1) | (go_at_call_of 15 (Value.agg (arrN .i16 64 (fun j => v (swp j)))); refine (zig16 _ _ (HL.out.below hB1.out)).mono ?_; rintro e w2 ⟨rfl, hb2⟩; have hB2 := Lib.hid (hB1.out.trans (hb2.mono hB1.out.size)); have hA2 := Lib.hid (hA1.out.bel hb2); clear hb2) | (refine wpList_store_new rfl 29 (.tmp 3) (.tmp 11) rfl (arrN .i16 64 (fun j => v (swp (ord j)))) _ 29 rfl rfl (by rw [arrN_size]; kernel_rfl) (by rw [arrN_size]; rfl) (arrN_one _ _ _) ?_; intro w3 hs3 hS3 hb3; have hB3 := Lib.hid (hB2.out.trans (hb3.mono hB2.out.size)); have hA3 := Lib.hid (hA2.out.bel hb3); have HS3 := Lib.hid hS3; clear hb3 hS3) | (go_at_call_of 15 (Value.agg (arrN .i16 64 v)); refine (zig16 _ _ (HL.out.below hB3.out)).mono ?_; rintro e w4 ⟨rfl, hb4⟩; have hB4 := Lib.hid (hB3.out.trans (hb4.mono hB3.out.size)); have HS4 := Lib.hid (HS3.out.bel hb4); clear hb4) | (refine wpList_store_new rfl 29 (.tmp 4) (.tmp 13) rfl (arrN .i16 64 (fun j => v (ord j))) _ 29 rfl rfl (by rw [arrN_size]; kernel_rfl) (by rw [arrN_size]; rfl) (arrN_one _ _ _) ?_; intro w5 hs5 hT5 hb5; have hB5 := Lib.hid (hB4.out.trans (hb5.mono hB4.out.size)); have HS5 := Lib.hid (HS4.out.bel hb5); have HT5 := Lib.hid hT5; clear hb5 hT5))
  go_loopw [5, 6] (fun k s wr => ∃ m : Nat, m ≤ 15 ∧ s = .int .i64 m ∧ k = .int .i64 (st m) ∧ Hid (Blk wr w2.heap.size 29 (arrN .i16 64 (fun j => v (swp (ord j))))) ∧ Hid (Blk wr w4.heap.size 29 (arrN .i16 64 (fun j => v (ord j)))) ∧ Hid (Below w.heap.size w wr)) (fun _ s _ => 15 - (intOf s).toNat)
  case atStart => exact ⟨0, by omega, rfl, rfl, HS5, HT5, hB5⟩
  case round =>
    clear HS5 HT5 hB5 HS4 hB4 hs5 hs3 HS3 hB3 hA3 hA2 hB2 hA1 hB1
    obtain ⟨m, hm, rfl, rfl, h1, h2, hb⟩ := hrel
    by_cases hlt : m < 15
    · have hltd : decide ((m : Int) < 15) = true := by simp; omega
      have hst := st_le m hm
      have hln := ln_le m hlt
      have hmin := min_ln m hlt
      by_cases hc : 15 - (m : Int) < m + 1
      · have e := Lib.hid (show 15 - (m : Int) = (ln m : Nat) by unfold ln; split <;> omega)
        go_wp2
        rw [e.out]
        obtain ⟨wo, rfl⟩ : ∃ wo : World, wo = wr := ⟨_, rfl⟩
        go_loopw [8] (fun i wr => ∃ q : Nat, q ≤ ln m ∧ i = .int .i64 q ∧ Hid (Blk wr w2.heap.size 29 (arrN .i16 64 (fun j => v (swp (ord j))))) ∧ Hid (Blk wr w4.heap.size 29 (arrN .i16 64 (fun j => v (ord j)))) ∧ Hid (Below w.heap.size w wr)) (fun i _ => ln m - (intOf i).toNat)
        case atStart => exact ⟨0, by omega, rfl, h1, h2, hb⟩
        case round =>
          clear h1 h2 hb hc hmin
          obtain ⟨q, hq, rfl, h1, h2, hb⟩ := hrel
          by_cases hql : q < ln m
          · obtain ⟨a1, a2, a3⟩ := line_in m hlt q hql
            have c1 := (h1.out.cell (st m + q)).trans (arrN_get _ _ a1)
            have c2 := (h2.out.cell (st m + ln m - 1 - q)).trans (arrN_get _ _ a2)
            simp only [a3] at c1
            have A3 := Lib.hid a3; clear a3
            go_wp2
            go_region
            go_wp2
            first | exact ⟨⟨q + 1, by omega, by go_num, h1.out.drew, h2.out.drew, hb.out.drew⟩, by simp [intOf]; omega⟩ | (go_roundw; (case rel => exact ⟨q + 1, by omega, by go_num, h1.out.drew, h2.out.drew, hb.out.drew⟩); (case measure => simp [intOf]; omega))
          · obtain rfl : q = ln m := by omega
            have e2 : ((st m : Nat) : Int) + (ln m : Nat) = (st (m + 1) : Nat) := by simp [st]
            have E2 := Lib.hid e2; clear e2
            go_wp2
            first | exact ⟨⟨m + 1, by omega, by go_num, by rw [E2.out], h1, h2, hb⟩, by simp [intOf]; omega⟩ | (go_roundw; (case rel => exact ⟨m + 1, by omega, by go_num, by rw [E2.out], h1, h2, hb⟩); (case measure => simp [intOf]; omega))
      · have e := Lib.hid (show (m : Int) + 1 = (ln m : Nat) by unfold ln; split <;> omega)
        go_wp2
        rw [e.out]
        obtain ⟨wo, rfl⟩ : ∃ wo : World, wo = wr := ⟨_, rfl⟩
        go_loopw [8] (fun i wr => ∃ q : Nat, q ≤ ln m ∧ i = .int .i64 q ∧ Hid (Blk wr w2.heap.size 29 (arrN .i16 64 (fun j => v (swp (ord j))))) ∧ Hid (Blk wr w4.heap.size 29 (arrN .i16 64 (fun j => v (ord j)))) ∧ Hid (Below w.heap.size w wr)) (fun i _ => ln m - (intOf i).toNat)
        case atStart => exact ⟨0, by omega, rfl, h1, h2, hb⟩
        case round =>
          clear h1 h2 hb hc hmin
          obtain ⟨q, hq, rfl, h1, h2, hb⟩ := hrel
          by_cases hql : q < ln m
          · obtain ⟨a1, a2, a3⟩ := line_in m hlt q hql
            have c1 := (h1.out.cell (st m + q)).trans (arrN_get _ _ a1)
            have c2 := (h2.out.cell (st m + ln m - 1 - q)).trans (arrN_get _ _ a2)
            simp only [a3] at c1
            have A3 := Lib.hid a3; clear a3
            go_wp2
            go_region
            go_wp2
            first | exact ⟨⟨q + 1, by omega, by go_num, h1.out.drew, h2.out.drew, hb.out.drew⟩, by simp [intOf]; omega⟩ | (go_roundw; (case rel => exact ⟨q + 1, by omega, by go_num, h1.out.drew, h2.out.drew, hb.out.drew⟩); (case measure => simp [intOf]; omega))
          · obtain rfl : q = ln m := by omega
            have e2 : ((st m : Nat) : Int) + (ln m : Nat) = (st (m + 1) : Nat) := by simp [st]
            have E2 := Lib.hid e2; clear e2
            go_wp2
            first | exact ⟨⟨m + 1, by omega, by go_num, by rw [E2.out], h1, h2, hb⟩, by simp [intOf]; omega⟩ | (go_roundw; (case rel => exact ⟨m + 1, by omega, by go_num, by rw [E2.out], h1, h2, hb⟩); (case measure => simp [intOf]; omega))
    · obtain rfl : m = 15 := by omega
      go_wp2_with ((go_at_call 12; refine (awake_true _ (HL.out.below hb.out)).mono ?_; rintro e w' ⟨rfl, rfl⟩))
      go_ret
      exact ⟨rfl, hb.out⟩

namespace lawZigLines
open Go.ChangeShapes Go.WideShapes Go.ChangeAt Go.RowKit
theorem own : ownKnob Tryd.prog.godebug = none := by kernel_rfl
theorem laidOut : laidOutB Tryd.prog = true := by kernel_rfl
theorem gTab0 : Tryd.prog.globalNamed "aquatint/zig.order" = some 0 := by kernel_rfl
theorem gTabType0 : (Tryd.prog.globals[0]?).map (·.type) = some 22 := by kernel_rfl
theorem cellsT : Tryd.prog.cellsOf 22 = 64 := by kernel_rfl
theorem cellsE : Tryd.prog.cellsOf 3 = 1 := by kernel_rfl
theorem table {W : World} (h : laidMetH Tryd.prog Rows.zigLinesRow.laid W) : Lib.TabIs Tryd.prog W "aquatint/zig.order" .i64 (ordL.map fun (n : Nat) => (n : Int)) :=
  Lib.tabIs_of_head (rest := []) gTab0 gTabType0 Tryd.underlying22 Tryd.underlying3 cellsE cellsT h
theorem laid_of {W : World} (h : laidMetH Tryd.prog Rows.zigLinesRow.laid W) : Laid W := by
  have H : ∀ k, k < 64 → W.cell? ⟨0, k, none⟩ = some (.int .i64 (ord k)) := fun k hk => by
    have h1 := (table h).cell gTab0 k (by simpa [ordL] using hk)
    rw [h1]
    have h2 : ord k = ordL[k]'(by simpa [ordL] using hk) := by
      unfold ord
      rw [List.getD_eq_getElem?_getD, List.getElem?_eq_getElem (by simpa [ordL] using hk)]
      rfl
    rw [h2, List.getD_eq_getElem?_getD, List.getElem?_map, List.getElem?_eq_getElem (by simpa [ordL] using hk)]
    rfl
  exact ⟨block_lt_of_cell (H 0 (by omega)), H⟩
theorem contract (H : Type) (enc : TypeId × Value → H) (W : World) (base : Nat) (args : Array Value) (ds gs : List (DataW H)) (before : List MemPlace)
    (hval : ∀ (j : Nat) t v, Tryd.f5.params[j]? = some t → args[j]? = some v → Value.okWide Tryd.prog W .any base t v)
    (hW : DataW.Whole enc Tryd.prog Tryd.f5.params.toList Rows.zigLinesSpec.vars false W args.toList ds gs before) (hL : laidMetH Tryd.prog Rows.zigLinesRow.laid W) (_hsz : (DataW.weightsEach Tryd.prog (Tryd.f5.params.toList ++ (OpenSpec.ofChange Rows.zigLinesSpec).bare.plain.varTypes Tryd.prog) (ds ++ gs)).all (· ≤ reachBytes) = true) :
    Calls Tryd.prog 5 args W fun e W' => ∃ v, e = .returned v ∧ Rows.zigLinesSpec.post enc Tryd.prog Tryd.f5 false true false false W args v W' := by
  have hW' := hW
  obtain ⟨p, q, hA0, hV, hbefore, hfz, hnd⟩ := hW
  obtain ⟨rfl, rfl⟩ := trodVars_none hV
  have hA : DataW.TrodAll enc Tryd.prog W 0 (fun _ => true) true Tryd.f5.params.toList args.toList ds p := hA0
  rw [Tryd.params5] at hA hval
  obtain ⟨v0, vs1, d0, ds1, p0, q0, hargs, rfl, hps, h0, r0⟩ := trodAll_cons hA
  obtain ⟨rfl, rfl, rfl⟩ := trodAll_nil r0
  obtain rfl : args = #[v0] := by cases args; simp_all
  have o0 := hval 0 29 v0 rfl rfl
  clear hA0
  obtain ⟨v, rfl, wv⟩ := open_arrN Tryd.underlying29 Tryd.underlying28 (by kernel_rfl) (by kernel_rfl) o0 h0
  refine (zigLines_walk v W (laid_of hL)).mono fun e W' ⟨he, hb⟩ => ?_
  subst he
  exact ⟨_, rfl, law_post laidOut (by rw [Tryd.params5]; intro t ht; simp only [List.mem_cons, List.not_mem_nil, or_false] at ht; subst ht; exact ⟨by kernel_rfl, of_decide_eq_true (by kernel_rfl)⟩) (by kernel_rfl) Tryd.underlying4 hW' rfl rfl hb⟩
theorem gTab : Tryd.prog.globalNamed "aquatint/zig.order" = some 0 := by kernel_rfl
theorem gTabType : (Tryd.prog.globals[0]?).map (·.type) = some 22 := by kernel_rfl
/-- A world for the witness: the settled one, the table holding what its initialiser lays. -/
noncomputable def laidWorld (os : Os) : World :=
  { World.holding Tryd.prog os ⟨#[], #[], []⟩ with heap := (World.holding Tryd.prog os ⟨#[], #[], []⟩).heap.modify 0 fun
      | .cells _ t frozen => .cells #[.int .i64 0, .int .i64 1, .int .i64 8, .int .i64 16, .int .i64 9, .int .i64 2, .int .i64 3, .int .i64 10, .int .i64 17, .int .i64 24, .int .i64 32, .int .i64 25, .int .i64 18, .int .i64 11, .int .i64 4, .int .i64 5, .int .i64 12, .int .i64 19, .int .i64 26, .int .i64 33, .int .i64 40, .int .i64 48, .int .i64 41, .int .i64 34, .int .i64 27, .int .i64 20, .int .i64 13, .int .i64 6, .int .i64 7, .int .i64 14, .int .i64 21, .int .i64 28, .int .i64 35, .int .i64 42, .int .i64 49, .int .i64 56, .int .i64 57, .int .i64 50, .int .i64 43, .int .i64 36, .int .i64 29, .int .i64 22, .int .i64 15, .int .i64 23, .int .i64 30, .int .i64 37, .int .i64 44, .int .i64 51, .int .i64 58, .int .i64 59, .int .i64 52, .int .i64 45, .int .i64 38, .int .i64 31, .int .i64 39, .int .i64 46, .int .i64 53, .int .i64 60, .int .i64 61, .int .i64 54, .int .i64 47, .int .i64 55, .int .i64 62, .int .i64 63] t frozen
      | o => o }
theorem laid_met (os : Os) : laidMet Tryd.prog Rows.zigLinesRow.laid ((laidWorld os).forCall (fun _ _ => 0) ⟨#[], #[.agg #[Value.int .i16 0, Value.int .i16 0, Value.int .i16 0, Value.int .i16 0, Value.int .i16 0, Value.int .i16 0, Value.int .i16 0, Value.int .i16 0, Value.int .i16 0, Value.int .i16 0, Value.int .i16 0, Value.int .i16 0, Value.int .i16 0, Value.int .i16 0, Value.int .i16 0, Value.int .i16 0, Value.int .i16 0, Value.int .i16 0, Value.int .i16 0, Value.int .i16 0, Value.int .i16 0, Value.int .i16 0, Value.int .i16 0, Value.int .i16 0, Value.int .i16 0, Value.int .i16 0, Value.int .i16 0, Value.int .i16 0, Value.int .i16 0, Value.int .i16 0, Value.int .i16 0, Value.int .i16 0, Value.int .i16 0, Value.int .i16 0, Value.int .i16 0, Value.int .i16 0, Value.int .i16 0, Value.int .i16 0, Value.int .i16 0, Value.int .i16 0, Value.int .i16 0, Value.int .i16 0, Value.int .i16 0, Value.int .i16 0, Value.int .i16 0, Value.int .i16 0, Value.int .i16 0, Value.int .i16 0, Value.int .i16 0, Value.int .i16 0, Value.int .i16 0, Value.int .i16 0, Value.int .i16 0, Value.int .i16 0, Value.int .i16 0, Value.int .i16 0, Value.int .i16 0, Value.int .i16 0, Value.int .i16 0, Value.int .i16 0, Value.int .i16 0, Value.int .i16 0, Value.int .i16 0, Value.int .i16 0]], []⟩).memory :=
  laidMet_of_run' 8 (by kernel_rfl) (by kernel_rfl)
theorem reads (os : Os) {H : Type} (enc : TypeId × Value → H) : ∃ places, DataW.whole enc Tryd.prog ((laidWorld os).forCall (fun _ _ => 0) ⟨#[], #[.agg #[Value.int .i16 0, Value.int .i16 0, Value.int .i16 0, Value.int .i16 0, Value.int .i16 0, Value.int .i16 0, Value.int .i16 0, Value.int .i16 0, Value.int .i16 0, Value.int .i16 0, Value.int .i16 0, Value.int .i16 0, Value.int .i16 0, Value.int .i16 0, Value.int .i16 0, Value.int .i16 0, Value.int .i16 0, Value.int .i16 0, Value.int .i16 0, Value.int .i16 0, Value.int .i16 0, Value.int .i16 0, Value.int .i16 0, Value.int .i16 0, Value.int .i16 0, Value.int .i16 0, Value.int .i16 0, Value.int .i16 0, Value.int .i16 0, Value.int .i16 0, Value.int .i16 0, Value.int .i16 0, Value.int .i16 0, Value.int .i16 0, Value.int .i16 0, Value.int .i16 0, Value.int .i16 0, Value.int .i16 0, Value.int .i16 0, Value.int .i16 0, Value.int .i16 0, Value.int .i16 0, Value.int .i16 0, Value.int .i16 0, Value.int .i16 0, Value.int .i16 0, Value.int .i16 0, Value.int .i16 0, Value.int .i16 0, Value.int .i16 0, Value.int .i16 0, Value.int .i16 0, Value.int .i16 0, Value.int .i16 0, Value.int .i16 0, Value.int .i16 0, Value.int .i16 0, Value.int .i16 0, Value.int .i16 0, Value.int .i16 0, Value.int .i16 0, Value.int .i16 0, Value.int .i16 0, Value.int .i16 0]], []⟩).memory Tryd.f5.params.toList Rows.zigLinesSpec.vars false #[.agg #[Value.int .i16 0, Value.int .i16 0, Value.int .i16 0, Value.int .i16 0, Value.int .i16 0, Value.int .i16 0, Value.int .i16 0, Value.int .i16 0, Value.int .i16 0, Value.int .i16 0, Value.int .i16 0, Value.int .i16 0, Value.int .i16 0, Value.int .i16 0, Value.int .i16 0, Value.int .i16 0, Value.int .i16 0, Value.int .i16 0, Value.int .i16 0, Value.int .i16 0, Value.int .i16 0, Value.int .i16 0, Value.int .i16 0, Value.int .i16 0, Value.int .i16 0, Value.int .i16 0, Value.int .i16 0, Value.int .i16 0, Value.int .i16 0, Value.int .i16 0, Value.int .i16 0, Value.int .i16 0, Value.int .i16 0, Value.int .i16 0, Value.int .i16 0, Value.int .i16 0, Value.int .i16 0, Value.int .i16 0, Value.int .i16 0, Value.int .i16 0, Value.int .i16 0, Value.int .i16 0, Value.int .i16 0, Value.int .i16 0, Value.int .i16 0, Value.int .i16 0, Value.int .i16 0, Value.int .i16 0, Value.int .i16 0, Value.int .i16 0, Value.int .i16 0, Value.int .i16 0, Value.int .i16 0, Value.int .i16 0, Value.int .i16 0, Value.int .i16 0, Value.int .i16 0, Value.int .i16 0, Value.int .i16 0, Value.int .i16 0, Value.int .i16 0, Value.int .i16 0, Value.int .i16 0, Value.int .i16 0]].toList 8 = some ([(.agg [.lit (.int .i16 0), .lit (.int .i16 0), .lit (.int .i16 0), .lit (.int .i16 0), .lit (.int .i16 0), .lit (.int .i16 0), .lit (.int .i16 0), .lit (.int .i16 0), .lit (.int .i16 0), .lit (.int .i16 0), .lit (.int .i16 0), .lit (.int .i16 0), .lit (.int .i16 0), .lit (.int .i16 0), .lit (.int .i16 0), .lit (.int .i16 0), .lit (.int .i16 0), .lit (.int .i16 0), .lit (.int .i16 0), .lit (.int .i16 0), .lit (.int .i16 0), .lit (.int .i16 0), .lit (.int .i16 0), .lit (.int .i16 0), .lit (.int .i16 0), .lit (.int .i16 0), .lit (.int .i16 0), .lit (.int .i16 0), .lit (.int .i16 0), .lit (.int .i16 0), .lit (.int .i16 0), .lit (.int .i16 0), .lit (.int .i16 0), .lit (.int .i16 0), .lit (.int .i16 0), .lit (.int .i16 0), .lit (.int .i16 0), .lit (.int .i16 0), .lit (.int .i16 0), .lit (.int .i16 0), .lit (.int .i16 0), .lit (.int .i16 0), .lit (.int .i16 0), .lit (.int .i16 0), .lit (.int .i16 0), .lit (.int .i16 0), .lit (.int .i16 0), .lit (.int .i16 0), .lit (.int .i16 0), .lit (.int .i16 0), .lit (.int .i16 0), .lit (.int .i16 0), .lit (.int .i16 0), .lit (.int .i16 0), .lit (.int .i16 0), .lit (.int .i16 0), .lit (.int .i16 0), .lit (.int .i16 0), .lit (.int .i16 0), .lit (.int .i16 0), .lit (.int .i16 0), .lit (.int .i16 0), .lit (.int .i16 0), .lit (.int .i16 0)])], [], places) :=
  ⟨[], by kernel_rfl⟩
set_option maxRecDepth 100000 in
theorem lifted (os : Os) (started : os.Started) (H : Type) (enc : TypeId × Value → H) (F : Stop.Interp) :
    ReturnsInHanded {} Tryd.checked os 5 .any ((OpenSpec.ofChange Rows.zigLinesSpec).preRow enc Tryd.prog Tryd.f5 Rows.zigLinesRow.domain false Rows.zigLinesRow.laid) (((OpenSpec.ofChange Rows.zigLinesSpec).at F).post enc Tryd.prog Tryd.f5 false true false false) := by
  obtain ⟨places, hx⟩ := reads os enc
  refine returnsInHanded_of_row (C := Tryd.checked) (s := (OpenSpec.ofChange Rows.zigLinesSpec)) own started (by kernel_rfl) Tryd.func5
    (witness_row_at (enc := enc) (C := Tryd.checked) false (laidWorld os) #[.agg #[Value.int .i16 0, Value.int .i16 0, Value.int .i16 0, Value.int .i16 0, Value.int .i16 0, Value.int .i16 0, Value.int .i16 0, Value.int .i16 0, Value.int .i16 0, Value.int .i16 0, Value.int .i16 0, Value.int .i16 0, Value.int .i16 0, Value.int .i16 0, Value.int .i16 0, Value.int .i16 0, Value.int .i16 0, Value.int .i16 0, Value.int .i16 0, Value.int .i16 0, Value.int .i16 0, Value.int .i16 0, Value.int .i16 0, Value.int .i16 0, Value.int .i16 0, Value.int .i16 0, Value.int .i16 0, Value.int .i16 0, Value.int .i16 0, Value.int .i16 0, Value.int .i16 0, Value.int .i16 0, Value.int .i16 0, Value.int .i16 0, Value.int .i16 0, Value.int .i16 0, Value.int .i16 0, Value.int .i16 0, Value.int .i16 0, Value.int .i16 0, Value.int .i16 0, Value.int .i16 0, Value.int .i16 0, Value.int .i16 0, Value.int .i16 0, Value.int .i16 0, Value.int .i16 0, Value.int .i16 0, Value.int .i16 0, Value.int .i16 0, Value.int .i16 0, Value.int .i16 0, Value.int .i16 0, Value.int .i16 0, Value.int .i16 0, Value.int .i16 0, Value.int .i16 0, Value.int .i16 0, Value.int .i16 0, Value.int .i16 0, Value.int .i16 0, Value.int .i16 0, Value.int .i16 0, Value.int .i16 0]] rfl (by kernel_rfl) (by kernel_rfl) (by kernel_rfl)
      (OpenSpec.preRow_of_cond 8 hx (by kernel_rfl) (fun k hk => by cases hk) (by kernel_rfl) (laid_met os))) ?_
  intro W base args ds gs before hval hW _ _ hsz hL _ _
  exact contract H enc W base args ds gs before hval hW hL hsz
theorem said : Rows.ZigLinesSaid :=
  OpenClaim.holds_of_cond 5 Tryd.f5 rfl rfl rfl rfl rfl rfl rfl ⟨rfl, rfl, rfl, rfl, rfl⟩ rfl rfl rfl rfl rfl (by kernel_rfl) Tryd.func5 (by kernel_rfl)
    (of_decide_eq_true (by kernel_rfl)) (by unfold Func.isWrapper; first | (rw [if_pos (by decide +kernel)]; kernel_rfl) | (rw [if_neg (by decide +kernel)]; exact ⟨rfl, rfl⟩))
    (fun os started H enc _ F => by rw [OpenClaim.pre_eq_preRow]; exact lifted os started H enc F)
theorem plain (f : FuncId) (fn : Func) (hf : Tryd.pinned.checked.prog.funcNamed "aquatint/aquatintlaw04.ZigLines" = some f) (hfn : Tryd.pinned.checked.prog.funcs[f]? = some fn) :
    false = Tryd.pinned.checked.prog.looks [] ∧ ∀ (j : Nat) t, fn.params[j]? = some t → Tryd.pinned.checked.prog.wantsStandIn t = false := by
  obtain rfl : f = 5 := Option.some.inj ((show Tryd.prog.funcNamed "aquatint/aquatintlaw04.ZigLines" = some 5 by kernel_rfl).symm.trans hf) |>.symm
  obtain rfl : fn = Tryd.f5 := (Option.some.inj (Tryd.func5.symm.trans hfn)).symm
  refine ⟨by kernel_rfl, fun j t ht => ?_⟩
  rw [Tryd.params5] at ht
  have hm := Array.mem_of_getElem? ht
  simp only [List.mem_toArray, List.mem_cons, List.not_mem_nil, or_false] at hm
  subst hm
  exact (show Tryd.prog.wantsStandIn 29 = false by kernel_rfl)
/-- The card. -/
theorem card : Rows.ZigLinesCardSaid :=
  Claim7.holds_tied_plain_at .later [] _ _ _ _ said (fun _ h => by cases h) (by kernel_rfl) (fun _ h => by cases h) zigLines_row_tie rfl ⟨rfl, rfl⟩ (by kernel_rfl) rfl plain (by kernel_rfl)
#print axioms card
end lawZigLines
end Go.Proofs.YtalkeefjnejelaaDoor

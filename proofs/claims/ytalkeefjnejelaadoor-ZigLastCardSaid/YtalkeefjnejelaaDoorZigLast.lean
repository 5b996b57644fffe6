/- The last number that isn't 0 is found: behind it there are noughts alone. No condition but the card's own: the table holds what the program's text lays. -/
import Derived.Test.YtalkeefjnejelaaDoorZigC
import Derived.Test.YtalkeefjnejelaaDoorCards
import Derived.Test.YtalkeefjnejelaaDoorTie
import Derived.Deep.DeepHandedRow
import Derived.Lib.LaidTab
namespace Go.Proofs.YtalkeefjnejelaaDoor
open Go.RowKit
set_option maxHeartbeats 1600000 in
theorem zigLast_walk (v : Nat → Int) (w : World) (hL : Laid w) :
    Calls Tryd.prog 4 #[.agg (arrN .i16 64 v)] w fun e w' => e = .returned (.bool true) ∧ Below w.heap.size w w' := by
  have b0 : Below w.heap.size w (w.alloc (.cells (arrN .i16 64 v) 29)) := (Below.refl _ _).alloc (Nat.le_refl _) _
  have HL1 := Lib.hid (hL.below b0)
  have HL := Lib.hid hL; clear hL
  obtain ⟨n, hn⟩ : ∃ n, n = lastOf (fun k => v (ord k)) 63 := ⟨_, rfl⟩
  have hn63 : n ≤ 63 := by rw [hn]; exact lastOf_le _ _
  have hne : 0 < n → v (ord n) ≠ 0 := by rw [hn]; exact lastOf_ne (fun k => v (ord k)) 63
  have haft : ∀ k, n < k → k < 64 → v (ord k) = 0 := fun k h1 h2 => by rw [hn] at h1; exact lastOf_after (fun k => v (ord k)) 63 k h1 (by omega)
  have Haft := Lib.hid haft; clear haft
  have Hne := Lib.hid hne; clear hne
  have hlast : ∀ W, Laid W → Calls Tryd.prog 13 #[.agg (arrN .i16 64 v)] W fun e w' => e = .returned (.int .i64 n) ∧ Below W.heap.size W w' := fun W h => by rw [hn]; exact last_walk v W h
  have Hlast := Lib.hid hlast; clear hlast hn
  have Hb0 := Lib.hid b0; clear b0
  by_cases h1 : 0 < n
  case' pos =>
    have hz : (v (ord n) == 0) = false := by simpa using Hne.out h1
    have hd : decide (0 < (n : Int)) = true := by simp; omega
  case' neg =>
    have hd : decide (0 < (n : Int)) = false := by simp; omega
    have hn0 : n ≤ 0 := by omega
    clear h1
  all_goals
    go_enter Tryd.func4, Tryd.ntmps4
    go_wp2_with (first | (refine wpList_load_row rfl 29 (.tmp 1) rfl w.heap.size rfl 29 (arrN .i16 64 v) (0, 0) _ (by first | exact Blk.new w _ _ | exact hA1.out) Tryd.underlying29 rfl (by rw [arrN_size]; kernel_rfl) ?_) | (go_at_call 13; refine (Hlast.out _ HL1.out).mono ?_; rintro e w1 ⟨rfl, hb1⟩; have hA1 := Lib.hid ((Blk.new w 29 (arrN .i16 64 v)).bel hb1); have hB1 := Lib.hid (Hb0.out.trans (hb1.mono (by simp))); clear hb1) | (go_at_call 14; refine (refZig v _).mono ?_; rintro e w2 ⟨rfl, hb2⟩; have hB2 := Lib.hid (hB1.out.trans (hb2.mono hB1.out.size)); clear hb2) | (refine wpList_store_new rfl 29 (.tmp 4) (.tmp 9) rfl (arrN .i16 64 (fun j => v (ord j))) _ 29 rfl rfl (by rw [arrN_size]; kernel_rfl) (by rw [arrN_size]; rfl) (arrN_one _ _ _) ?_; intro w3 hs3 hC hb3; have hB3 := Lib.hid (hB2.out.trans (hb3.mono hB2.out.size)); clear hb3; have hcn := (hC.cell n).trans (arrN_get _ _ (by omega)); have HC := Lib.hid hC; clear hC; have HL3 := Lib.hid (HL.out.below hB3.out)))
    go_loop [5] (fun i => ∃ k : Nat, n + 1 ≤ k ∧ k ≤ 64 ∧ i = .int .i64 k) (fun i => 64 - (intOf i).toNat)
    case atStart => exact ⟨n + 1, by omega, by omega, by go_num⟩
    case round =>
      obtain ⟨k, hk1, hk2, rfl⟩ := hrel
      by_cases hlt : k < 64
      · have hck := (HC.out.cell k).trans (arrN_get _ _ hlt)
        have hzk : (v (ord k) != 0) = false := by simpa using Haft.out k (by omega) hlt
        go_wp2
        go_round
        case rel => exact ⟨k + 1, by omega, by omega, by go_num⟩
        case measure => simp [intOf]; omega
      · go_wp2_with ((go_at_call 12; refine (awake_true _ HL3.out).mono ?_; rintro e w' ⟨rfl, rfl⟩))
        go_ret
        exact ⟨rfl, hB3.out⟩

namespace lawZigLast
open Go.ChangeShapes Go.WideShapes Go.ChangeAt Go.RowKit
theorem own : ownKnob Tryd.prog.godebug = none := by kernel_rfl
theorem laidOut : laidOutB Tryd.prog = true := by kernel_rfl
theorem gTab0 : Tryd.prog.globalNamed "aquatint/zig.order" = some 0 := by kernel_rfl
theorem gTabType0 : (Tryd.prog.globals[0]?).map (·.type) = some 22 := by kernel_rfl
theorem cellsT : Tryd.prog.cellsOf 22 = 64 := by kernel_rfl
theorem cellsE : Tryd.prog.cellsOf 3 = 1 := by kernel_rfl
theorem table {W : World} (h : laidMetH Tryd.prog Rows.zigLastRow.laid W) : Lib.TabIs Tryd.prog W "aquatint/zig.order" .i64 (ordL.map fun (n : Nat) => (n : Int)) :=
  Lib.tabIs_of_head (rest := []) gTab0 gTabType0 Tryd.underlying22 Tryd.underlying3 cellsE cellsT h
theorem laid_of {W : World} (h : laidMetH Tryd.prog Rows.zigLastRow.laid W) : Laid W := by
  have H : ∀ k, k < 64 → W.cell? ⟨0, k, none⟩ = some (.int .i64 (ord k)) := fun k hk => by
    have h1 := (table h).cell gTab0 k (by simpa [ordL] using hk)
    rw [h1]
    have h2 : ord k = ordL[k]'(by simpa [ordL] using hk) := by
      unfold ord
      rw [List.getD_eq_getElem?_getD, List.getElem?_eq_getElem (by simpa [ordL] using hk)]
      rfl
    rw [h2, List.getD_eq_getElem?_getD, List.getElem?_map, List.getElem?_eq_getElem (by simpa [ordL] using hk)]
    rfl
  exact ⟨block_lt_of_cell (H 0 (by omega)), H⟩
theorem contract (H : Type) (enc : TypeId × Value → H) (W : World) (base : Nat) (args : Array Value) (ds gs : List (DataW H)) (before : List MemPlace)
    (hval : ∀ (j : Nat) t v, Tryd.f4.params[j]? = some t → args[j]? = some v → Value.okWide Tryd.prog W .any base t v)
    (hW : DataW.Whole enc Tryd.prog Tryd.f4.params.toList Rows.zigLastSpec.vars false W args.toList ds gs before) (hL : laidMetH Tryd.prog Rows.zigLastRow.laid W) (_hsz : (DataW.weightsEach Tryd.prog (Tryd.f4.params.toList ++ (OpenSpec.ofChange Rows.zigLastSpec).bare.plain.varTypes Tryd.prog) (ds ++ gs)).all (· ≤ reachBytes) = true) :
    Calls Tryd.prog 4 args W fun e W' => ∃ v, e = .returned v ∧ Rows.zigLastSpec.post enc Tryd.prog Tryd.f4 false true false false W args v W' := by
  have hW' := hW
  obtain ⟨p, q, hA0, hV, hbefore, hfz, hnd⟩ := hW
  obtain ⟨rfl, rfl⟩ := trodVars_none hV
  have hA : DataW.TrodAll enc Tryd.prog W 0 (fun _ => true) true Tryd.f4.params.toList args.toList ds p := hA0
  rw [Tryd.params4] at hA hval
  obtain ⟨v0, vs1, d0, ds1, p0, q0, hargs, rfl, hps, h0, r0⟩ := trodAll_cons hA
  obtain ⟨rfl, rfl, rfl⟩ := trodAll_nil r0
  obtain rfl : args = #[v0] := by cases args; simp_all
  have o0 := hval 0 29 v0 rfl rfl
  clear hA0
  obtain ⟨v, rfl, wv⟩ := open_arrN Tryd.underlying29 Tryd.underlying28 (by kernel_rfl) (by kernel_rfl) o0 h0
  refine (zigLast_walk v W (laid_of hL)).mono fun e W' ⟨he, hb⟩ => ?_
  subst he
  exact ⟨_, rfl, law_post laidOut (by rw [Tryd.params4]; intro t ht; simp only [List.mem_cons, List.not_mem_nil, or_false] at ht; subst ht; exact ⟨by kernel_rfl, of_decide_eq_true (by kernel_rfl)⟩) (by kernel_rfl) Tryd.underlying4 hW' rfl rfl hb⟩
theorem gTab : Tryd.prog.globalNamed "aquatint/zig.order" = some 0 := by kernel_rfl
theorem gTabType : (Tryd.prog.globals[0]?).map (·.type) = some 22 := by kernel_rfl
/-- A world for the witness: the settled one, the table holding what its initialiser lays. -/
noncomputable def laidWorld (os : Os) : World :=
  { World.holding Tryd.prog os ⟨#[], #[], []⟩ with heap := (World.holding Tryd.prog os ⟨#[], #[], []⟩).heap.modify 0 fun
      | .cells _ t frozen => .cells #[.int .i64 0, .int .i64 1, .int .i64 8, .int .i64 16, .int .i64 9, .int .i64 2, .int .i64 3, .int .i64 10, .int .i64 17, .int .i64 24, .int .i64 32, .int .i64 25, .int .i64 18, .int .i64 11, .int .i64 4, .int .i64 5, .int .i64 12, .int .i64 19, .int .i64 26, .int .i64 33, .int .i64 40, .int .i64 48, .int .i64 41, .int .i64 34, .int .i64 27, .int .i64 20, .int .i64 13, .int .i64 6, .int .i64 7, .int .i64 14, .int .i64 21, .int .i64 28, .int .i64 35, .int .i64 42, .int .i64 49, .int .i64 56, .int .i64 57, .int .i64 50, .int .i64 43, .int .i64 36, .int .i64 29, .int .i64 22, .int .i64 15, .int .i64 23, .int .i64 30, .int .i64 37, .int .i64 44, .int .i64 51, .int .i64 58, .int .i64 59, .int .i64 52, .int .i64 45, .int .i64 38, .int .i64 31, .int .i64 39, .int .i64 46, .int .i64 53, .int .i64 60, .int .i64 61, .int .i64 54, .int .i64 47, .int .i64 55, .int .i64 62, .int .i64 63] t frozen
      | o => o }
theorem laid_met (os : Os) : laidMet Tryd.prog Rows.zigLastRow.laid ((laidWorld os).forCall (fun _ _ => 0) ⟨#[], #[.agg #[Value.int .i16 0, Value.int .i16 0, Value.int .i16 0, Value.int .i16 0, Value.int .i16 0, Value.int .i16 0, Value.int .i16 0, Value.int .i16 0, Value.int .i16 0, Value.int .i16 0, Value.int .i16 0, Value.int .i16 0, Value.int .i16 0, Value.int .i16 0, Value.int .i16 0, Value.int .i16 0, Value.int .i16 0, Value.int .i16 0, Value.int .i16 0, Value.int .i16 0, Value.int .i16 0, Value.int .i16 0, Value.int .i16 0, Value.int .i16 0, Value.int .i16 0, Value.int .i16 0, Value.int .i16 0, Value.int .i16 0, Value.int .i16 0, Value.int .i16 0, Value.int .i16 0, Value.int .i16 0, Value.int .i16 0, Value.int .i16 0, Value.int .i16 0, Value.int .i16 0, Value.int .i16 0, Value.int .i16 0, Value.int .i16 0, Value.int .i16 0, Value.int .i16 0, Value.int .i16 0, Value.int .i16 0, Value.int .i16 0, Value.int .i16 0, Value.int .i16 0, Value.int .i16 0, Value.int .i16 0, Value.int .i16 0, Value.int .i16 0, Value.int .i16 0, Value.int .i16 0, Value.int .i16 0, Value.int .i16 0, Value.int .i16 0, Value.int .i16 0, Value.int .i16 0, Value.int .i16 0, Value.int .i16 0, Value.int .i16 0, Value.int .i16 0, Value.int .i16 0, Value.int .i16 0, Value.int .i16 0]], []⟩).memory :=
  laidMet_of_run' 8 (by kernel_rfl) (by kernel_rfl)
theorem reads (os : Os) {H : Type} (enc : TypeId × Value → H) : ∃ places, DataW.whole enc Tryd.prog ((laidWorld os).forCall (fun _ _ => 0) ⟨#[], #[.agg #[Value.int .i16 0, Value.int .i16 0, Value.int .i16 0, Value.int .i16 0, Value.int .i16 0, Value.int .i16 0, Value.int .i16 0, Value.int .i16 0, Value.int .i16 0, Value.int .i16 0, Value.int .i16 0, Value.int .i16 0, Value.int .i16 0, Value.int .i16 0, Value.int .i16 0, Value.int .i16 0, Value.int .i16 0, Value.int .i16 0, Value.int .i16 0, Value.int .i16 0, Value.int .i16 0, Value.int .i16 0, Value.int .i16 0, Value.int .i16 0, Value.int .i16 0, Value.int .i16 0, Value.int .i16 0, Value.int .i16 0, Value.int .i16 0, Value.int .i16 0, Value.int .i16 0, Value.int .i16 0, Value.int .i16 0, Value.int .i16 0, Value.int .i16 0, Value.int .i16 0, Value.int .i16 0, Value.int .i16 0, Value.int .i16 0, Value.int .i16 0, Value.int .i16 0, Value.int .i16 0, Value.int .i16 0, Value.int .i16 0, Value.int .i16 0, Value.int .i16 0, Value.int .i16 0, Value.int .i16 0, Value.int .i16 0, Value.int .i16 0, Value.int .i16 0, Value.int .i16 0, Value.int .i16 0, Value.int .i16 0, Value.int .i16 0, Value.int .i16 0, Value.int .i16 0, Value.int .i16 0, Value.int .i16 0, Value.int .i16 0, Value.int .i16 0, Value.int .i16 0, Value.int .i16 0, Value.int .i16 0]], []⟩).memory Tryd.f4.params.toList Rows.zigLastSpec.vars false #[.agg #[Value.int .i16 0, Value.int .i16 0, Value.int .i16 0, Value.int .i16 0, Value.int .i16 0, Value.int .i16 0, Value.int .i16 0, Value.int .i16 0, Value.int .i16 0, Value.int .i16 0, Value.int .i16 0, Value.int .i16 0, Value.int .i16 0, Value.int .i16 0, Value.int .i16 0, Value.int .i16 0, Value.int .i16 0, Value.int .i16 0, Value.int .i16 0, Value.int .i16 0, Value.int .i16 0, Value.int .i16 0, Value.int .i16 0, Value.int .i16 0, Value.int .i16 0, Value.int .i16 0, Value.int .i16 0, Value.int .i16 0, Value.int .i16 0, Value.int .i16 0, Value.int .i16 0, Value.int .i16 0, Value.int .i16 0, Value.int .i16 0, Value.int .i16 0, Value.int .i16 0, Value.int .i16 0, Value.int .i16 0, Value.int .i16 0, Value.int .i16 0, Value.int .i16 0, Value.int .i16 0, Value.int .i16 0, Value.int .i16 0, Value.int .i16 0, Value.int .i16 0, Value.int .i16 0, Value.int .i16 0, Value.int .i16 0, Value.int .i16 0, Value.int .i16 0, Value.int .i16 0, Value.int .i16 0, Value.int .i16 0, Value.int .i16 0, Value.int .i16 0, Value.int .i16 0, Value.int .i16 0, Value.int .i16 0, Value.int .i16 0, Value.int .i16 0, Value.int .i16 0, Value.int .i16 0, Value.int .i16 0]].toList 8 = some ([(.agg [.lit (.int .i16 0), .lit (.int .i16 0), .lit (.int .i16 0), .lit (.int .i16 0), .lit (.int .i16 0), .lit (.int .i16 0), .lit (.int .i16 0), .lit (.int .i16 0), .lit (.int .i16 0), .lit (.int .i16 0), .lit (.int .i16 0), .lit (.int .i16 0), .lit (.int .i16 0), .lit (.int .i16 0), .lit (.int .i16 0), .lit (.int .i16 0), .lit (.int .i16 0), .lit (.int .i16 0), .lit (.int .i16 0), .lit (.int .i16 0), .lit (.int .i16 0), .lit (.int .i16 0), .lit (.int .i16 0), .lit (.int .i16 0), .lit (.int .i16 0), .lit (.int .i16 0), .lit (.int .i16 0), .lit (.int .i16 0), .lit (.int .i16 0), .lit (.int .i16 0), .lit (.int .i16 0), .lit (.int .i16 0), .lit (.int .i16 0), .lit (.int .i16 0), .lit (.int .i16 0), .lit (.int .i16 0), .lit (.int .i16 0), .lit (.int .i16 0), .lit (.int .i16 0), .lit (.int .i16 0), .lit (.int .i16 0), .lit (.int .i16 0), .lit (.int .i16 0), .lit (.int .i16 0), .lit (.int .i16 0), .lit (.int .i16 0), .lit (.int .i16 0), .lit (.int .i16 0), .lit (.int .i16 0), .lit (.int .i16 0), .lit (.int .i16 0), .lit (.int .i16 0), .lit (.int .i16 0), .lit (.int .i16 0), .lit (.int .i16 0), .lit (.int .i16 0), .lit (.int .i16 0), .lit (.int .i16 0), .lit (.int .i16 0), .lit (.int .i16 0), .lit (.int .i16 0), .lit (.int .i16 0), .lit (.int .i16 0), .lit (.int .i16 0)])], [], places) :=
  ⟨[], by kernel_rfl⟩
set_option maxRecDepth 100000 in
theorem lifted (os : Os) (started : os.Started) (H : Type) (enc : TypeId × Value → H) (F : Stop.Interp) :
    ReturnsInHanded {} Tryd.checked os 4 .any ((OpenSpec.ofChange Rows.zigLastSpec).preRow enc Tryd.prog Tryd.f4 Rows.zigLastRow.domain false Rows.zigLastRow.laid) (((OpenSpec.ofChange Rows.zigLastSpec).at F).post enc Tryd.prog Tryd.f4 false true false false) := by
  obtain ⟨places, hx⟩ := reads os enc
  refine returnsInHanded_of_row (C := Tryd.checked) (s := (OpenSpec.ofChange Rows.zigLastSpec)) own started (by kernel_rfl) Tryd.func4
    (witness_row_at (enc := enc) (C := Tryd.checked) false (laidWorld os) #[.agg #[Value.int .i16 0, Value.int .i16 0, Value.int .i16 0, Value.int .i16 0, Value.int .i16 0, Value.int .i16 0, Value.int .i16 0, Value.int .i16 0, Value.int .i16 0, Value.int .i16 0, Value.int .i16 0, Value.int .i16 0, Value.int .i16 0, Value.int .i16 0, Value.int .i16 0, Value.int .i16 0, Value.int .i16 0, Value.int .i16 0, Value.int .i16 0, Value.int .i16 0, Value.int .i16 0, Value.int .i16 0, Value.int .i16 0, Value.int .i16 0, Value.int .i16 0, Value.int .i16 0, Value.int .i16 0, Value.int .i16 0, Value.int .i16 0, Value.int .i16 0, Value.int .i16 0, Value.int .i16 0, Value.int .i16 0, Value.int .i16 0, Value.int .i16 0, Value.int .i16 0, Value.int .i16 0, Value.int .i16 0, Value.int .i16 0, Value.int .i16 0, Value.int .i16 0, Value.int .i16 0, Value.int .i16 0, Value.int .i16 0, Value.int .i16 0, Value.int .i16 0, Value.int .i16 0, Value.int .i16 0, Value.int .i16 0, Value.int .i16 0, Value.int .i16 0, Value.int .i16 0, Value.int .i16 0, Value.int .i16 0, Value.int .i16 0, Value.int .i16 0, Value.int .i16 0, Value.int .i16 0, Value.int .i16 0, Value.int .i16 0, Value.int .i16 0, Value.int .i16 0, Value.int .i16 0, Value.int .i16 0]] rfl (by kernel_rfl) (by kernel_rfl) (by kernel_rfl)
      (OpenSpec.preRow_of_cond 8 hx (by kernel_rfl) (fun k hk => by cases hk) (by kernel_rfl) (laid_met os))) ?_
  intro W base args ds gs before hval hW _ _ hsz hL _ _
  exact contract H enc W base args ds gs before hval hW hL hsz
theorem said : Rows.ZigLastSaid :=
  OpenClaim.holds_of_cond 4 Tryd.f4 rfl rfl rfl rfl rfl rfl rfl ⟨rfl, rfl, rfl, rfl, rfl⟩ rfl rfl rfl rfl rfl (by kernel_rfl) Tryd.func4 (by kernel_rfl)
    (of_decide_eq_true (by kernel_rfl)) (by unfold Func.isWrapper; first | (rw [if_pos (by decide +kernel)]; kernel_rfl) | (rw [if_neg (by decide +kernel)]; exact ⟨rfl, rfl⟩))
    (fun os started H enc _ F => by rw [OpenClaim.pre_eq_preRow]; exact lifted os started H enc F)
theorem plain (f : FuncId) (fn : Func) (hf : Tryd.pinned.checked.prog.funcNamed "aquatint/aquatintlaw04.ZigLast" = some f) (hfn : Tryd.pinned.checked.prog.funcs[f]? = some fn) :
    false = Tryd.pinned.checked.prog.looks [] ∧ ∀ (j : Nat) t, fn.params[j]? = some t → Tryd.pinned.checked.prog.wantsStandIn t = false := by
  obtain rfl : f = 4 := Option.some.inj ((show Tryd.prog.funcNamed "aquatint/aquatintlaw04.ZigLast" = some 4 by kernel_rfl).symm.trans hf) |>.symm
  obtain rfl : fn = Tryd.f4 := (Option.some.inj (Tryd.func4.symm.trans hfn)).symm
  refine ⟨by kernel_rfl, fun j t ht => ?_⟩
  rw [Tryd.params4] at ht
  have hm := Array.mem_of_getElem? ht
  simp only [List.mem_toArray, List.mem_cons, List.not_mem_nil, or_false] at hm
  subst hm
  exact (show Tryd.prog.wantsStandIn 29 = false by kernel_rfl)
/-- The card. -/
theorem card : Rows.ZigLastCardSaid :=
  Claim7.holds_tied_plain_at .later [] _ _ _ _ said (fun _ h => by cases h) (by kernel_rfl) (fun _ h => by cases h) zigLast_row_tie rfl ⟨rfl, rfl⟩ (by kernel_rfl) rfl plain (by kernel_rfl)
#print axioms card
end lawZigLast
end Go.Proofs.YtalkeefjnejelaaDoor

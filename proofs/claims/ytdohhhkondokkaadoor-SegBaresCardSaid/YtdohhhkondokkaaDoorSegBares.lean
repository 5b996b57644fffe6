/- Segments without a body are two bytes, of their ten codes alone. No condition but the card's own: the table holds what the program's text lays. -/
import Derived.Test.YtdohhhkondokkaaDoorSegG
import Derived.Test.YtdohhhkondokkaaDoorZig
import Derived.Test.YtdohhhkondokkaaDoorCards
import Derived.Test.YtdohhhkondokkaaDoorTie
import Derived.Deep.DeepHandedRow
import Derived.Lib.LaidTab
namespace Go.Proofs.YtdohhhkondokkaaDoor
open Go.RowKit
set_option linter.unusedSimpArgs false
set_option linter.unusedVariables false
set_option maxRecDepth 100000
theorem segAwake (w : World) : Calls Tryd.prog 10 #[] w fun e w' => e = .returned (.bool true) ∧ Below w.heap.size w w' := by
  go_enter Tryd.func10, Tryd.ntmps10
  go_wp2_with (first | (go_at_call 9; refine (parse_rst ⟨#[0, 8]⟩ rfl _).mono ?_; rintro e w1 ⟨rfl, hb1⟩; have HB1 := Lib.hid hb1; clear hb1; rw [show numL (⟨#[0, 8]⟩ : ByteArray).data.toList = 8 by decide]) | (go_at_call 11; refine (bytesRst8 _).mono ?_; rintro e w2 ⟨rfl, hb2⟩; have HB2 := Lib.hid hb2; clear hb2))
  go_ret
  exact ⟨rfl, HB1.out.trans (HB2.out.mono HB1.out.size)⟩
theorem segBares_walk (c : Int) (w : World) :
    Calls Tryd.prog 5 #[.int .i64 c] w fun e w' => e = .returned (.bool true) ∧ Below w.heap.size w w' := by
  by_cases h : c < 208 ∨ 217 < c
  · have H := Lib.hid h
    rcases h with h1 | h1
    case' inr => have h2 : decide (c < 208) = false := by simp; omega
    all_goals
      go_enter Tryd.func5, Tryd.ntmps5
      go_wp2_with (first | (go_at_call 11; ((with_reducible refine (bytesBare_no c H.out _).mono ?_); rintro e w1 ⟨rfl, hb1⟩); have HB1 := Lib.hid hb1; clear hb1) | (go_at_call 11; ((with_reducible refine (bytesNil_walk _).mono ?_); rintro e w2 ⟨rfl, hb2⟩); have HB2 := Lib.hid hb2; clear hb2) | (go_at_call 10; refine (segAwake _).mono ?_; rintro e w3 ⟨rfl, hb3⟩; have HB3 := Lib.hid hb3; clear hb3))
      go_ret
      have h2 := HB1.out.trans (HB2.out.mono HB1.out.size)
      exact ⟨rfl, h2.trans (HB3.out.mono h2.size)⟩
  · have d1 : decide (c < 208) = false := by simp; omega
    have d2 : decide (217 < c) = false := by simp; omega
    have H := Lib.hid (show 208 ≤ c ∧ c ≤ 217 by omega)
    have h5 : 208 ≤ c := H.out.1
    have h6 : c ≤ 217 := H.out.2
    clear h
    go_enter Tryd.func5, Tryd.ntmps5
    go_wp2_with (first | (go_at_call 11; ((with_reducible refine (bytesBare_walk c H.out _).mono ?_); rintro e w1 ⟨rfl, hb1⟩); have HB1 := Lib.hid hb1; clear hb1) | (go_at_call 11; ((with_reducible refine (bytesNil_walk _).mono ?_); rintro e w2 ⟨rfl, hb2⟩); have HB2 := Lib.hid hb2; clear hb2) | (go_at_call 10; refine (segAwake _).mono ?_; rintro e w3 ⟨rfl, hb3⟩; have HB3 := Lib.hid hb3; clear hb3))
    have hcv : (convert 31 9 (.slice (some ⟨w3.heap.size, 0, none⟩) 1 1)).run Tryd.prog (w3.alloc (.cells #[.int .u8 c] 5)) = .ok (.string ⟨#[UInt8.ofNat c.toNat]⟩) (w3.alloc (.cells #[.int .u8 c] 5)) := conv_U (n := 1) (c := 1) (l := [c]) (Blk.new w3 5 #[.int .u8 c]) rfl
    rw [hcv]
    clear hcv
    have heq : (⟨#[255]⟩ : ByteArray) ++ (⟨#[UInt8.ofNat c.toNat]⟩ : ByteArray) = ⟨#[255, UInt8.ofNat c.toNat]⟩ := ByteArray.ext (by simp [ByteArray.data_append])
    simp only [Result.andThen]
    rw [Oper.upon_value]
    go_wp2
    go_ret
    have h2 := HB1.out.trans (HB2.out.mono HB1.out.size)
    exact ⟨rfl, (h2.trans (HB3.out.mono h2.size)).alloc (h2.trans (HB3.out.mono h2.size)).size _⟩
namespace lawSegBares
open Go.ChangeShapes Go.WideShapes Go.ChangeAt Go.RowKit
theorem own : ownKnob Tryd.prog.godebug = none := by kernel_rfl
theorem laidOut : laidOutB Tryd.prog = true := by kernel_rfl
theorem gTab0 : Tryd.prog.globalNamed "aquatint/zig.order" = some 0 := by kernel_rfl
theorem gTabType0 : (Tryd.prog.globals[0]?).map (·.type) = some 136 := by kernel_rfl
theorem cellsT : Tryd.prog.cellsOf 136 = 64 := by kernel_rfl
theorem cellsE : Tryd.prog.cellsOf 3 = 1 := by kernel_rfl
theorem table {W : World} (h : laidMetH Tryd.prog Rows.segBaresRow.laid W) : Lib.TabIs Tryd.prog W "aquatint/zig.order" .i64 (ordL.map fun (n : Nat) => (n : Int)) :=
  Lib.tabIs_of_head (rest := []) gTab0 gTabType0 Tryd.underlying136 Tryd.underlying3 cellsE cellsT h
theorem laid_of {W : World} (h : laidMetH Tryd.prog Rows.segBaresRow.laid W) : Laid W := by
  have H : ∀ k, k < 64 → W.cell? ⟨0, k, none⟩ = some (.int .i64 (ord k)) := fun k hk => by
    have h1 := (table h).cell gTab0 k (by simpa [ordL] using hk)
    rw [h1]
    have h2 : ord k = ordL[k]'(by simpa [ordL] using hk) := by
      unfold ord
      rw [List.getD_eq_getElem?_getD, List.getElem?_eq_getElem (by simpa [ordL] using hk)]
      rfl
    rw [h2, List.getD_eq_getElem?_getD, List.getElem?_map, List.getElem?_eq_getElem (by simpa [ordL] using hk)]
    rfl
  exact ⟨block_lt_of_cell (H 0 (by omega)), H⟩
open Go.ChangeMaps (open_string shut_string)
theorem contract (H : Type) (enc : TypeId × Value → H) (W : World) (base : Nat) (args : Array Value) (ds gs : List (DataW H)) (before : List MemPlace)
    (hval : ∀ (j : Nat) t v, Tryd.f5.params[j]? = some t → args[j]? = some v → Value.okWide Tryd.prog W .any base t v)
    (hW : DataW.Whole enc Tryd.prog Tryd.f5.params.toList Rows.segBaresSpec.vars false W args.toList ds gs before) (hL : laidMetH Tryd.prog Rows.segBaresRow.laid W) (_hsz : (DataW.weightsEach Tryd.prog (Tryd.f5.params.toList ++ (OpenSpec.ofChange Rows.segBaresSpec).bare.plain.varTypes Tryd.prog) (ds ++ gs)).all (· ≤ reachBytes) = true) :
    Calls Tryd.prog 5 args W fun e W' => ∃ v, e = .returned v ∧ Rows.segBaresSpec.post enc Tryd.prog Tryd.f5 false true false false W args v W' := by
  have hW' := hW
  obtain ⟨p, q, hA0, hV, hbefore, hfz, hnd⟩ := hW
  obtain ⟨rfl, rfl⟩ := trodVars_none hV
  have hA : DataW.TrodAll enc Tryd.prog W 0 (fun _ => true) true Tryd.f5.params.toList args.toList ds p := hA0
  rw [Tryd.params5] at hA hval
  obtain ⟨v0, vs1, d0, ds1, p0, q0, hargs, rfl, hps, h0, r0⟩ := trodAll_cons hA
  obtain ⟨rfl, rfl, rfl⟩ := trodAll_nil r0
  obtain rfl : args = #[v0] := by cases args; simp_all
  have o0 := hval 0 3 v0 rfl rfl
  clear hA0
  obtain ⟨x, rfl, rfl, rfl, wx⟩ := open_int Tryd.underlying3 o0 h0
  refine (segBares_walk x W).mono fun e W' ⟨he, hb⟩ => ?_
  subst he
  exact ⟨_, rfl, law_post laidOut (by rw [Tryd.params5]; intro t ht; simp only [List.mem_cons, List.not_mem_nil, or_false] at ht; subst ht; exact ⟨by kernel_rfl, of_decide_eq_true (by kernel_rfl)⟩) (by kernel_rfl) Tryd.underlying4 hW' rfl rfl hb⟩
theorem gTab : Tryd.prog.globalNamed "aquatint/zig.order" = some 0 := by kernel_rfl
theorem gTabType : (Tryd.prog.globals[0]?).map (·.type) = some 136 := by kernel_rfl
/-- A world for the witness: the settled one, the table holding what its initialiser lays. -/
noncomputable def laidWorld (os : Os) : World :=
  { World.holding Tryd.prog os ⟨#[], #[], []⟩ with heap := (World.holding Tryd.prog os ⟨#[], #[], []⟩).heap.modify 0 fun
      | .cells _ t frozen => .cells #[.int .i64 0, .int .i64 1, .int .i64 8, .int .i64 16, .int .i64 9, .int .i64 2, .int .i64 3, .int .i64 10, .int .i64 17, .int .i64 24, .int .i64 32, .int .i64 25, .int .i64 18, .int .i64 11, .int .i64 4, .int .i64 5, .int .i64 12, .int .i64 19, .int .i64 26, .int .i64 33, .int .i64 40, .int .i64 48, .int .i64 41, .int .i64 34, .int .i64 27, .int .i64 20, .int .i64 13, .int .i64 6, .int .i64 7, .int .i64 14, .int .i64 21, .int .i64 28, .int .i64 35, .int .i64 42, .int .i64 49, .int .i64 56, .int .i64 57, .int .i64 50, .int .i64 43, .int .i64 36, .int .i64 29, .int .i64 22, .int .i64 15, .int .i64 23, .int .i64 30, .int .i64 37, .int .i64 44, .int .i64 51, .int .i64 58, .int .i64 59, .int .i64 52, .int .i64 45, .int .i64 38, .int .i64 31, .int .i64 39, .int .i64 46, .int .i64 53, .int .i64 60, .int .i64 61, .int .i64 54, .int .i64 47, .int .i64 55, .int .i64 62, .int .i64 63] t frozen
      | o => o }
theorem laid_met (os : Os) : laidMet Tryd.prog Rows.segBaresRow.laid ((laidWorld os).forCall (fun _ _ => 0) ⟨#[], #[Value.int .i64 0], []⟩).memory :=
  laidMet_of_run' 8 (by kernel_rfl) (by kernel_rfl)
theorem reads (os : Os) {H : Type} (enc : TypeId × Value → H) : ∃ places, DataW.whole enc Tryd.prog ((laidWorld os).forCall (fun _ _ => 0) ⟨#[], #[Value.int .i64 0], []⟩).memory Tryd.f5.params.toList Rows.segBaresSpec.vars false #[Value.int .i64 0].toList 8 = some ([.lit (.int .i64 0)], [], places) :=
  ⟨[], by kernel_rfl⟩
set_option maxRecDepth 100000 in
theorem lifted (os : Os) (started : os.Started) (H : Type) (enc : TypeId × Value → H) (F : Stop.Interp) :
    ReturnsInHanded {} Tryd.checked os 5 .any ((OpenSpec.ofChange Rows.segBaresSpec).preRow enc Tryd.prog Tryd.f5 Rows.segBaresRow.domain false Rows.segBaresRow.laid) (((OpenSpec.ofChange Rows.segBaresSpec).at F).post enc Tryd.prog Tryd.f5 false true false false) := by
  obtain ⟨places, hx⟩ := reads os enc
  refine returnsInHanded_of_row (C := Tryd.checked) (s := (OpenSpec.ofChange Rows.segBaresSpec)) own started (by kernel_rfl) Tryd.func5
    (witness_row_at (enc := enc) (C := Tryd.checked) false (laidWorld os) #[Value.int .i64 0] rfl (by kernel_rfl) (by kernel_rfl) (by kernel_rfl)
      (OpenSpec.preRow_of_cond 8 hx (by kernel_rfl) (fun k hk => by cases hk) (by kernel_rfl) (laid_met os))) ?_
  intro W base args ds gs before hval hW _ _ hsz hL _ _
  exact contract H enc W base args ds gs before hval hW hL hsz
theorem said : Rows.SegBaresSaid :=
  OpenClaim.holds_of_cond 5 Tryd.f5 rfl rfl rfl rfl rfl rfl rfl ⟨rfl, rfl, rfl, rfl, rfl⟩ rfl rfl rfl rfl rfl (by kernel_rfl) Tryd.func5 (by kernel_rfl)
    (of_decide_eq_true (by kernel_rfl)) (by unfold Func.isWrapper; first | (rw [if_pos (by decide +kernel)]; kernel_rfl) | (rw [if_neg (by decide +kernel)]; exact ⟨rfl, rfl⟩))
    (fun os started H enc _ F => by rw [OpenClaim.pre_eq_preRow]; exact lifted os started H enc F)
theorem plain (f : FuncId) (fn : Func) (hf : Tryd.pinned.checked.prog.funcNamed "aquatint/aquatintlaw07.SegBares" = some f) (hfn : Tryd.pinned.checked.prog.funcs[f]? = some fn) :
    true = Tryd.pinned.checked.prog.looks [] ∧ ∀ (j : Nat) t, fn.params[j]? = some t → Tryd.pinned.checked.prog.wantsStandIn t = false := by
  obtain rfl : f = 5 := Option.some.inj ((show Tryd.prog.funcNamed "aquatint/aquatintlaw07.SegBares" = some 5 by kernel_rfl).symm.trans hf) |>.symm
  obtain rfl : fn = Tryd.f5 := (Option.some.inj (Tryd.func5.symm.trans hfn)).symm
  refine ⟨by kernel_rfl, fun j t ht => ?_⟩
  rw [Tryd.params5] at ht
  have hm := Array.mem_of_getElem? ht
  simp only [List.mem_toArray, List.mem_cons, List.not_mem_nil, or_false] at hm
  subst hm
  exact (show Tryd.prog.wantsStandIn 3 = false by kernel_rfl)
/-- The card. -/
theorem card : Rows.SegBaresCardSaid :=
  Claim7.holds_tied_plain_at .later [] _ _ _ _ said (fun _ h => by cases h) (by kernel_rfl) (fun _ h => by cases h) segBares_row_tie rfl ⟨rfl, rfl⟩ (by kernel_rfl) rfl plain (by kernel_rfl)
#print axioms card
end lawSegBares
end Go.Proofs.YtdohhhkondokkaaDoor

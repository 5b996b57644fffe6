/- Back undoes Zig, Zig undoes Back, Swap undoes itself. No condition but the card's own: the table holds what the program's text lays. -/
import Derived.Test.YtalkeefjnejelaaDoorZigC
import Derived.Test.YtalkeefjnejelaaDoorReg
import Derived.Test.YtalkeefjnejelaaDoorCards
import Derived.Test.YtalkeefjnejelaaDoorTie
import Derived.Deep.DeepHandedRow
import Derived.Lib.LaidTab
namespace Go.Proofs.YtalkeefjnejelaaDoor
open Go.RowKit
set_option linter.unusedSimpArgs false
set_option linter.unusedVariables false
/-- What stays while the law's one statement runs. -/
def Kept (w : World) (A : Array Value) (w' : World) : Prop := Laid w' ∧ Blk w' w.heap.size 29 A ∧ Below w.heap.size w w'
theorem Kept.range {w w' : World} {A : Array Value} (h : Kept w A w') : w'.rangeAt w.heap.size 0 A.toList := fun j u hu => by
  rw [Nat.zero_add]
  exact (h.2.1.cell j).trans (by simpa using hu)
theorem Kept.laid {w w' : World} {A : Array Value} (h : Kept w A w') : Laid w' := h.1
theorem Kept.bel {w w' w'' : World} {A : Array Value} (h : Kept w A w') (hb : Below w'.heap.size w' w'') : Kept w A w'' :=
  ⟨h.1.below hb, h.2.1.bel hb, h.2.2.trans (hb.mono h.2.2.size)⟩
theorem Kept.both {w w' w'' : World} {A : Array Value} (h : Kept w A w') (hb : Below w'.heap.size w' w'') : w''.rangeAt w.heap.size 0 A.toList ∧ Kept w A w'' :=
  ⟨(h.bel hb).range, h.bel hb⟩
theorem Kept.start {w : World} {A : Array Value} (hL : Laid w) : (w.alloc (.cells A 29)).drew.rangeAt w.heap.size 0 A.toList ∧ Kept w A (w.alloc (.cells A 29)).drew :=
  have h : Kept w A (w.alloc (.cells A 29)) := ⟨hL.below ((Below.refl _ _).alloc (Nat.le_refl _) _), Blk.new _ _ _, (Below.refl _ _).alloc (Nat.le_refl _) _⟩
  have h' : Kept w A (w.alloc (.cells A 29)).drew := ⟨⟨h.1.1, fun k hk => h.1.2 k hk⟩, h.2.1.drew, h.2.2.drew⟩
  ⟨h'.range, h'⟩
theorem eql16 {u v : Nat → Int} (h : ∀ j, j < 64 → u j = v j) (W : World) : (binOp .eql 29 (.agg (arrN .i16 64 u)) (.agg (arrN .i16 64 v))).run Tryd.prog W = .ok (.bool true) W := by
  obtain ⟨i, hi⟩ := Option.isSome_iff_exists.1 (show (Tryd.prog.info? 28).isSome = true by kernel_rfl)
  rw [run_eql_arr W Tryd.underlying29 Tryd.underlying28 (by kernel_rfl) hi (by kernel_rfl) u v]
  simp only [Result.ok.injEq, Value.bool.injEq, decide_eq_true_eq, and_true]
  exact h
set_option maxHeartbeats 3200000 in
theorem zigBack_walk (v : Nat → Int) (w : World) (hL : Laid w) :
    Calls Tryd.prog 6 #[.agg (arrN .i16 64 v)] w fun e w' => e = .returned (.bool true) ∧ Below w.heap.size w w' := by
  have hS := Lib.hid (Kept.start (A := arrN .i16 64 v) hL)
  clear hL
  have e1 := eql16 (u := fun j => v (ord (inv j))) (v := v) (fun j hj => by rw [ord_inv j hj])
  have e2 := eql16 (u := fun j => v (inv (ord j))) (v := v) (fun j hj => by rw [inv_ord j hj])
  have e3 := eql16 (u := fun j => v (swp (swp j))) (v := v) (fun j hj => by rw [swp_swp j hj])
  have hu29 := Tryd.underlying29
  have hi29 : (Tryd.prog.info? 29).map (·.size) = some (arrN .i16 64 v).toList.length := by rw [Array.length_toList, arrN_size]; kernel_rfl
  go_enter Tryd.func6, Tryd.ntmps6
  go_wp2_with fail
  refine r_start (n := 23) (S := (fun w' => w'.rangeAt w.heap.size 0 (arrN .i16 64 v).toList ∧ Kept w (arrN .i16 64 v) w')) #[false, false, false, false, false, false, false, false, false, false, false, false, false, false, false, false, false, false, false, false, false, false, false] (by kernel_rfl) rfl rfl hS.out (fun hHeld => ?_)
  refine r_one (i := 0) (N := some 3) #[true, false, false, false, false, false, false, false, false, false, false, false, false, false, false, false, false, false, false, false, false, false, false] rfl rfl (by kernel_rfl) ?_
  refine r_call Tryd.func12 (by kernel_rfl) rfl #[] (by rfl) rfl rfl (by simp only [List.map_toArray, List.map_cons, List.map_nil]; first | done | rfl) ?_
  with_reducible refine (awake_true _ hHeld.2.laid).mono ?_
  rintro e w1 ⟨rfl, rfl⟩
  refine ⟨_, rfl, hHeld, fun hHeld => ?_⟩
  try simp only [Act.put, List.setIfInBounds_toArray, List.set_cons_zero, List.set_cons_succ]
  refine r_take (i := 1) (N := some 4) (v := ?_) (a' := ?_) #[true, true, false, false, false, false, false, false, false, false, false, false, false, false, false, false, false, false, false, false, false, false, false] rfl rfl (by kernel_rfl) (fun _ _ _ h => h) hHeld (Or.inl ⟨by rfl, ?_⟩) ?_ ?_
  rotate_left
  · intro w' hSw
    (try dsimp only at hSw)
    go_simp
    try with_reducible rfl
  rotate_left
  · simp only [Act.put, List.setIfInBounds_toArray, List.set_cons_zero, List.set_cons_succ]
    rfl
  refine r_take (i := 2) (N := some 5) (v := .agg (arrN .i16 64 v)) (a' := ?_) #[true, true, true, false, false, false, false, false, false, false, false, false, false, false, false, false, false, false, false, false, false, false, false] rfl rfl (by kernel_rfl) (fun _ _ _ h => h) hHeld (yieldsIf_load_mid (by rfl) _ _ rfl _ _ rfl ((arrN .i16 64 v)).toList _ (fun _ h => h.1) hu29 rfl hi29) ?_ ?_
  rotate_left
  · simp only [Act.put, List.setIfInBounds_toArray, List.set_cons_zero, List.set_cons_succ]
    rfl
  refine r_take (i := 5) (N := some 8) (v := .agg (arrN .i16 64 v)) (a' := ?_) #[true, true, true, false, false, true, false, false, false, false, false, false, false, false, false, false, false, false, false, false, false, false, false] rfl rfl (by kernel_rfl) (fun _ _ _ h => h) hHeld (yieldsIf_load_mid (by rfl) _ _ rfl _ _ rfl ((arrN .i16 64 v)).toList _ (fun _ h => h.1) hu29 rfl hi29) ?_ ?_
  rotate_left
  · simp only [Act.put, List.setIfInBounds_toArray, List.set_cons_zero, List.set_cons_succ]
    rfl
  refine r_one (i := 3) (N := some 6) #[true, true, true, true, false, true, false, false, false, false, false, false, false, false, false, false, false, false, false, false, false, false, false] rfl rfl (by kernel_rfl) ?_
  refine r_call Tryd.func15 (by kernel_rfl) rfl #[.agg (arrN .i16 64 v)] (by rfl) rfl rfl (by simp only [List.map_toArray, List.map_cons, List.map_nil]; first | done | rfl) ?_
  with_reducible refine (zig16 _ _ hHeld.2.laid).mono ?_
  rintro e w2 ⟨rfl, hb⟩
  refine ⟨_, rfl, (hHeld.2.both hb), fun hHeld => ?_⟩
  try simp only [Act.put, List.setIfInBounds_toArray, List.set_cons_zero, List.set_cons_succ]
  refine r_one (i := 4) (N := some 7) #[true, true, true, true, true, true, false, false, false, false, false, false, false, false, false, false, false, false, false, false, false, false, false] rfl rfl (by kernel_rfl) ?_
  refine r_call Tryd.func17 (by kernel_rfl) rfl #[.agg (arrN .i16 64 (fun j => v (ord j)))] (by rfl) rfl rfl (by simp only [List.map_toArray, List.map_cons, List.map_nil]; first | done | rfl) ?_
  with_reducible refine (back16 _ _ hHeld.2.laid).mono ?_
  rintro e w3 ⟨rfl, hb⟩
  refine ⟨_, rfl, (hHeld.2.both hb), fun hHeld => ?_⟩
  try simp only [Act.put, List.setIfInBounds_toArray, List.set_cons_zero, List.set_cons_succ]
  refine r_take (i := 6) (N := some 9) (v := ?_) (a' := ?_) #[true, true, true, true, true, true, true, false, false, false, false, false, false, false, false, false, false, false, false, false, false, false, false] rfl rfl (by kernel_rfl) (fun _ _ _ h => h) hHeld (Or.inl ⟨by rfl, ?_⟩) ?_ ?_
  rotate_left
  · intro w' hSw
    (try dsimp only at hSw)
    go_simp
    try with_reducible rfl
  rotate_left
  · simp only [Act.put, List.setIfInBounds_toArray, List.set_cons_zero, List.set_cons_succ]
    rfl
  refine r_take (i := 7) (N := some 10) (v := ?_) (a' := ?_) #[true, true, true, true, true, true, true, true, false, false, false, false, false, false, false, false, false, false, false, false, false, false, false] rfl rfl (by kernel_rfl) (fun _ _ _ h => h) hHeld (Or.inl ⟨by rfl, ?_⟩) ?_ ?_
  rotate_left
  · intro w' hSw
    (try dsimp only at hSw)
    go_simp
    try with_reducible rfl
  rotate_left
  · simp only [Act.put, List.setIfInBounds_toArray, List.set_cons_zero, List.set_cons_succ]
    rfl
  refine r_take (i := 8) (N := some 11) (v := ?_) (a' := ?_) #[true, true, true, true, true, true, true, true, true, false, false, false, false, false, false, false, false, false, false, false, false, false, false] rfl rfl (by kernel_rfl) (fun _ _ _ h => h) hHeld (Or.inl ⟨by rfl, ?_⟩) ?_ ?_
  rotate_left
  · intro w' hSw
    (try dsimp only at hSw)
    go_simp
    try with_reducible rfl
  rotate_left
  · simp only [Act.put, List.setIfInBounds_toArray, List.set_cons_zero, List.set_cons_succ]
    rfl
  refine r_take (i := 9) (N := some 12) (v := .agg (arrN .i16 64 v)) (a' := ?_) #[true, true, true, true, true, true, true, true, true, true, false, false, false, false, false, false, false, false, false, false, false, false, false] rfl rfl (by kernel_rfl) (fun _ _ _ h => h) hHeld (yieldsIf_load_mid (by rfl) _ _ rfl _ _ rfl ((arrN .i16 64 v)).toList _ (fun _ h => h.1) hu29 rfl hi29) ?_ ?_
  rotate_left
  · simp only [Act.put, List.setIfInBounds_toArray, List.set_cons_zero, List.set_cons_succ]
    rfl
  refine r_take (i := 12) (N := some 15) (v := .agg (arrN .i16 64 v)) (a' := ?_) #[true, true, true, true, true, true, true, true, true, true, false, false, true, false, false, false, false, false, false, false, false, false, false] rfl rfl (by kernel_rfl) (fun _ _ _ h => h) hHeld (yieldsIf_load_mid (by rfl) _ _ rfl _ _ rfl ((arrN .i16 64 v)).toList _ (fun _ h => h.1) hu29 rfl hi29) ?_ ?_
  rotate_left
  · simp only [Act.put, List.setIfInBounds_toArray, List.set_cons_zero, List.set_cons_succ]
    rfl
  refine r_one (i := 10) (N := some 13) #[true, true, true, true, true, true, true, true, true, true, true, false, true, false, false, false, false, false, false, false, false, false, false] rfl rfl (by kernel_rfl) ?_
  refine r_call Tryd.func17 (by kernel_rfl) rfl #[.agg (arrN .i16 64 v)] (by rfl) rfl rfl (by simp only [List.map_toArray, List.map_cons, List.map_nil]; first | done | rfl) ?_
  with_reducible refine (back16 _ _ hHeld.2.laid).mono ?_
  rintro e w4 ⟨rfl, hb⟩
  refine ⟨_, rfl, (hHeld.2.both hb), fun hHeld => ?_⟩
  try simp only [Act.put, List.setIfInBounds_toArray, List.set_cons_zero, List.set_cons_succ]
  refine r_one (i := 11) (N := some 14) #[true, true, true, true, true, true, true, true, true, true, true, true, true, false, false, false, false, false, false, false, false, false, false] rfl rfl (by kernel_rfl) ?_
  refine r_call Tryd.func15 (by kernel_rfl) rfl #[.agg (arrN .i16 64 (fun j => v (inv j)))] (by rfl) rfl rfl (by simp only [List.map_toArray, List.map_cons, List.map_nil]; first | done | rfl) ?_
  with_reducible refine (zig16 _ _ hHeld.2.laid).mono ?_
  rintro e w5 ⟨rfl, hb⟩
  refine ⟨_, rfl, (hHeld.2.both hb), fun hHeld => ?_⟩
  try simp only [Act.put, List.setIfInBounds_toArray, List.set_cons_zero, List.set_cons_succ]
  refine r_take (i := 13) (N := some 16) (v := ?_) (a' := ?_) #[true, true, true, true, true, true, true, true, true, true, true, true, true, true, false, false, false, false, false, false, false, false, false] rfl rfl (by kernel_rfl) (fun _ _ _ h => h) hHeld (Or.inl ⟨by rfl, ?_⟩) ?_ ?_
  rotate_left
  · intro w' hSw
    (try dsimp only at hSw)
    go_simp
    try with_reducible rfl
  rotate_left
  · simp only [Act.put, List.setIfInBounds_toArray, List.set_cons_zero, List.set_cons_succ]
    rfl
  refine r_take (i := 14) (N := some 17) (v := ?_) (a' := ?_) #[true, true, true, true, true, true, true, true, true, true, true, true, true, true, true, false, false, false, false, false, false, false, false] rfl rfl (by kernel_rfl) (fun _ _ _ h => h) hHeld (Or.inl ⟨by rfl, ?_⟩) ?_ ?_
  rotate_left
  · intro w' hSw
    (try dsimp only at hSw)
    go_simp
    try with_reducible rfl
  rotate_left
  · simp only [Act.put, List.setIfInBounds_toArray, List.set_cons_zero, List.set_cons_succ]
    rfl
  refine r_take (i := 15) (N := some 18) (v := ?_) (a' := ?_) #[true, true, true, true, true, true, true, true, true, true, true, true, true, true, true, true, false, false, false, false, false, false, false] rfl rfl (by kernel_rfl) (fun _ _ _ h => h) hHeld (Or.inl ⟨by rfl, ?_⟩) ?_ ?_
  rotate_left
  · intro w' hSw
    (try dsimp only at hSw)
    go_simp
    try with_reducible rfl
  rotate_left
  · simp only [Act.put, List.setIfInBounds_toArray, List.set_cons_zero, List.set_cons_succ]
    rfl
  refine r_take (i := 16) (N := some 19) (v := .agg (arrN .i16 64 v)) (a' := ?_) #[true, true, true, true, true, true, true, true, true, true, true, true, true, true, true, true, true, false, false, false, false, false, false] rfl rfl (by kernel_rfl) (fun _ _ _ h => h) hHeld (yieldsIf_load_mid (by rfl) _ _ rfl _ _ rfl ((arrN .i16 64 v)).toList _ (fun _ h => h.1) hu29 rfl hi29) ?_ ?_
  rotate_left
  · simp only [Act.put, List.setIfInBounds_toArray, List.set_cons_zero, List.set_cons_succ]
    rfl
  refine r_take (i := 19) (N := some 22) (v := .agg (arrN .i16 64 v)) (a' := ?_) #[true, true, true, true, true, true, true, true, true, true, true, true, true, true, true, true, true, false, false, true, false, false, false] rfl rfl (by kernel_rfl) (fun _ _ _ h => h) hHeld (yieldsIf_load_mid (by rfl) _ _ rfl _ _ rfl ((arrN .i16 64 v)).toList _ (fun _ h => h.1) hu29 rfl hi29) ?_ ?_
  rotate_left
  · simp only [Act.put, List.setIfInBounds_toArray, List.set_cons_zero, List.set_cons_succ]
    rfl
  refine r_one (i := 17) (N := some 20) #[true, true, true, true, true, true, true, true, true, true, true, true, true, true, true, true, true, true, false, true, false, false, false] rfl rfl (by kernel_rfl) ?_
  refine r_call Tryd.func16 (by kernel_rfl) rfl #[.agg (arrN .i16 64 v)] (by rfl) rfl rfl (by simp only [List.map_toArray, List.map_cons, List.map_nil]; first | done | rfl) ?_
  with_reducible refine (swap16 _ _ hHeld.2.laid).mono ?_
  rintro e w6 ⟨rfl, hb⟩
  refine ⟨_, rfl, (hHeld.2.both hb), fun hHeld => ?_⟩
  try simp only [Act.put, List.setIfInBounds_toArray, List.set_cons_zero, List.set_cons_succ]
  refine r_one (i := 18) (N := some 21) #[true, true, true, true, true, true, true, true, true, true, true, true, true, true, true, true, true, true, true, true, false, false, false] rfl rfl (by kernel_rfl) ?_
  refine r_call Tryd.func16 (by kernel_rfl) rfl #[.agg (arrN .i16 64 (fun j => v (swp j)))] (by rfl) rfl rfl (by simp only [List.map_toArray, List.map_cons, List.map_nil]; first | done | rfl) ?_
  with_reducible refine (swap16 _ _ hHeld.2.laid).mono ?_
  rintro e w7 ⟨rfl, hb⟩
  refine ⟨_, rfl, (hHeld.2.both hb), fun hHeld => ?_⟩
  try simp only [Act.put, List.setIfInBounds_toArray, List.set_cons_zero, List.set_cons_succ]
  refine r_take (i := 20) (N := some 23) (v := ?_) (a' := ?_) #[true, true, true, true, true, true, true, true, true, true, true, true, true, true, true, true, true, true, true, true, true, false, false] rfl rfl (by kernel_rfl) (fun _ _ _ h => h) hHeld (Or.inl ⟨by rfl, ?_⟩) ?_ ?_
  rotate_left
  · intro w' hSw
    (try dsimp only at hSw)
    go_simp
    try with_reducible rfl
  rotate_left
  · simp only [Act.put, List.setIfInBounds_toArray, List.set_cons_zero, List.set_cons_succ]
    rfl
  refine r_take (i := 21) (N := some 24) (v := ?_) (a' := ?_) #[true, true, true, true, true, true, true, true, true, true, true, true, true, true, true, true, true, true, true, true, true, true, false] rfl rfl (by kernel_rfl) (fun _ _ _ h => h) hHeld (Or.inl ⟨by rfl, ?_⟩) ?_ ?_
  rotate_left
  · intro w' hSw
    (try dsimp only at hSw)
    go_simp
    try with_reducible rfl
  rotate_left
  · simp only [Act.put, List.setIfInBounds_toArray, List.set_cons_zero, List.set_cons_succ]
    rfl
  refine r_take (i := 22) (N := some 2) (v := ?_) (a' := ?_) #[true, true, true, true, true, true, true, true, true, true, true, true, true, true, true, true, true, true, true, true, true, true, true] rfl rfl (by kernel_rfl) (fun _ _ _ h => h) hHeld (Or.inl ⟨by rfl, ?_⟩) ?_ ?_
  rotate_left
  · intro w' hSw
    (try dsimp only at hSw)
    go_simp
    try with_reducible rfl
  rotate_left
  · simp only [Act.put, List.setIfInBounds_toArray, List.set_cons_zero, List.set_cons_succ]
    rfl
  refine r_done (by kernel_rfl) ?_
  go_wp2
  go_ret
  exact ⟨rfl, hHeld.2.2.2⟩

namespace lawZigBack
open Go.ChangeShapes Go.WideShapes Go.ChangeAt Go.RowKit
theorem own : ownKnob Tryd.prog.godebug = none := by kernel_rfl
theorem laidOut : laidOutB Tryd.prog = true := by kernel_rfl
theorem gTab0 : Tryd.prog.globalNamed "aquatint/zig.order" = some 0 := by kernel_rfl
theorem gTabType0 : (Tryd.prog.globals[0]?).map (·.type) = some 22 := by kernel_rfl
theorem cellsT : Tryd.prog.cellsOf 22 = 64 := by kernel_rfl
theorem cellsE : Tryd.prog.cellsOf 3 = 1 := by kernel_rfl
theorem table {W : World} (h : laidMetH Tryd.prog Rows.zigBackRow.laid W) : Lib.TabIs Tryd.prog W "aquatint/zig.order" .i64 (ordL.map fun (n : Nat) => (n : Int)) :=
  Lib.tabIs_of_head (rest := []) gTab0 gTabType0 Tryd.underlying22 Tryd.underlying3 cellsE cellsT h
theorem laid_of {W : World} (h : laidMetH Tryd.prog Rows.zigBackRow.laid W) : Laid W := by
  have H : ∀ k, k < 64 → W.cell? ⟨0, k, none⟩ = some (.int .i64 (ord k)) := fun k hk => by
    have h1 := (table h).cell gTab0 k (by simpa [ordL] using hk)
    rw [h1]
    have h2 : ord k = ordL[k]'(by simpa [ordL] using hk) := by
      unfold ord
      rw [List.getD_eq_getElem?_getD, List.getElem?_eq_getElem (by simpa [ordL] using hk)]
      rfl
    rw [h2, List.getD_eq_getElem?_getD, List.getElem?_map, List.getElem?_eq_getElem (by simpa [ordL] using hk)]
    rfl
  exact ⟨block_lt_of_cell (H 0 (by omega)), H⟩
theorem contract (H : Type) (enc : TypeId × Value → H) (W : World) (base : Nat) (args : Array Value) (ds gs : List (DataW H)) (before : List MemPlace)
    (hval : ∀ (j : Nat) t v, Tryd.f6.params[j]? = some t → args[j]? = some v → Value.okWide Tryd.prog W .any base t v)
    (hW : DataW.Whole enc Tryd.prog Tryd.f6.params.toList Rows.zigBackSpec.vars false W args.toList ds gs before) (hL : laidMetH Tryd.prog Rows.zigBackRow.laid W) (_hsz : (DataW.weightsEach Tryd.prog (Tryd.f6.params.toList ++ (OpenSpec.ofChange Rows.zigBackSpec).bare.plain.varTypes Tryd.prog) (ds ++ gs)).all (· ≤ reachBytes) = true) :
    Calls Tryd.prog 6 args W fun e W' => ∃ v, e = .returned v ∧ Rows.zigBackSpec.post enc Tryd.prog Tryd.f6 false true false false W args v W' := by
  have hW' := hW
  obtain ⟨p, q, hA0, hV, hbefore, hfz, hnd⟩ := hW
  obtain ⟨rfl, rfl⟩ := trodVars_none hV
  have hA : DataW.TrodAll enc Tryd.prog W 0 (fun _ => true) true Tryd.f6.params.toList args.toList ds p := hA0
  rw [Tryd.params6] at hA hval
  obtain ⟨v0, vs1, d0, ds1, p0, q0, hargs, rfl, hps, h0, r0⟩ := trodAll_cons hA
  obtain ⟨rfl, rfl, rfl⟩ := trodAll_nil r0
  obtain rfl : args = #[v0] := by cases args; simp_all
  have o0 := hval 0 29 v0 rfl rfl
  clear hA0
  obtain ⟨v, rfl, wv⟩ := open_arrN Tryd.underlying29 Tryd.underlying28 (by kernel_rfl) (by kernel_rfl) o0 h0
  refine (zigBack_walk v W (laid_of hL)).mono fun e W' ⟨he, hb⟩ => ?_
  subst he
  exact ⟨_, rfl, law_post laidOut (by rw [Tryd.params6]; intro t ht; simp only [List.mem_cons, List.not_mem_nil, or_false] at ht; subst ht; exact ⟨by kernel_rfl, of_decide_eq_true (by kernel_rfl)⟩) (by kernel_rfl) Tryd.underlying4 hW' rfl rfl hb⟩
theorem gTab : Tryd.prog.globalNamed "aquatint/zig.order" = some 0 := by kernel_rfl
theorem gTabType : (Tryd.prog.globals[0]?).map (·.type) = some 22 := by kernel_rfl
/-- A world for the witness: the settled one, the table holding what its initialiser lays. -/
noncomputable def laidWorld (os : Os) : World :=
  { World.holding Tryd.prog os ⟨#[], #[], []⟩ with heap := (World.holding Tryd.prog os ⟨#[], #[], []⟩).heap.modify 0 fun
      | .cells _ t frozen => .cells #[.int .i64 0, .int .i64 1, .int .i64 8, .int .i64 16, .int .i64 9, .int .i64 2, .int .i64 3, .int .i64 10, .int .i64 17, .int .i64 24, .int .i64 32, .int .i64 25, .int .i64 18, .int .i64 11, .int .i64 4, .int .i64 5, .int .i64 12, .int .i64 19, .int .i64 26, .int .i64 33, .int .i64 40, .int .i64 48, .int .i64 41, .int .i64 34, .int .i64 27, .int .i64 20, .int .i64 13, .int .i64 6, .int .i64 7, .int .i64 14, .int .i64 21, .int .i64 28, .int .i64 35, .int .i64 42, .int .i64 49, .int .i64 56, .int .i64 57, .int .i64 50, .int .i64 43, .int .i64 36, .int .i64 29, .int .i64 22, .int .i64 15, .int .i64 23, .int .i64 30, .int .i64 37, .int .i64 44, .int .i64 51, .int .i64 58, .int .i64 59, .int .i64 52, .int .i64 45, .int .i64 38, .int .i64 31, .int .i64 39, .int .i64 46, .int .i64 53, .int .i64 60, .int .i64 61, .int .i64 54, .int .i64 47, .int .i64 55, .int .i64 62, .int .i64 63] t frozen
      | o => o }
theorem laid_met (os : Os) : laidMet Tryd.prog Rows.zigBackRow.laid ((laidWorld os).forCall (fun _ _ => 0) ⟨#[], #[.agg #[Value.int .i16 0, Value.int .i16 0, Value.int .i16 0, Value.int .i16 0, Value.int .i16 0, Value.int .i16 0, Value.int .i16 0, Value.int .i16 0, Value.int .i16 0, Value.int .i16 0, Value.int .i16 0, Value.int .i16 0, Value.int .i16 0, Value.int .i16 0, Value.int .i16 0, Value.int .i16 0, Value.int .i16 0, Value.int .i16 0, Value.int .i16 0, Value.int .i16 0, Value.int .i16 0, Value.int .i16 0, Value.int .i16 0, Value.int .i16 0, Value.int .i16 0, Value.int .i16 0, Value.int .i16 0, Value.int .i16 0, Value.int .i16 0, Value.int .i16 0, Value.int .i16 0, Value.int .i16 0, Value.int .i16 0, Value.int .i16 0, Value.int .i16 0, Value.int .i16 0, Value.int .i16 0, Value.int .i16 0, Value.int .i16 0, Value.int .i16 0, Value.int .i16 0, Value.int .i16 0, Value.int .i16 0, Value.int .i16 0, Value.int .i16 0, Value.int .i16 0, Value.int .i16 0, Value.int .i16 0, Value.int .i16 0, Value.int .i16 0, Value.int .i16 0, Value.int .i16 0, Value.int .i16 0, Value.int .i16 0, Value.int .i16 0, Value.int .i16 0, Value.int .i16 0, Value.int .i16 0, Value.int .i16 0, Value.int .i16 0, Value.int .i16 0, Value.int .i16 0, Value.int .i16 0, Value.int .i16 0]], []⟩).memory :=
  laidMet_of_run' 8 (by kernel_rfl) (by kernel_rfl)
theorem reads (os : Os) {H : Type} (enc : TypeId × Value → H) : ∃ places, DataW.whole enc Tryd.prog ((laidWorld os).forCall (fun _ _ => 0) ⟨#[], #[.agg #[Value.int .i16 0, Value.int .i16 0, Value.int .i16 0, Value.int .i16 0, Value.int .i16 0, Value.int .i16 0, Value.int .i16 0, Value.int .i16 0, Value.int .i16 0, Value.int .i16 0, Value.int .i16 0, Value.int .i16 0, Value.int .i16 0, Value.int .i16 0, Value.int .i16 0, Value.int .i16 0, Value.int .i16 0, Value.int .i16 0, Value.int .i16 0, Value.int .i16 0, Value.int .i16 0, Value.int .i16 0, Value.int .i16 0, Value.int .i16 0, Value.int .i16 0, Value.int .i16 0, Value.int .i16 0, Value.int .i16 0, Value.int .i16 0, Value.int .i16 0, Value.int .i16 0, Value.int .i16 0, Value.int .i16 0, Value.int .i16 0, Value.int .i16 0, Value.int .i16 0, Value.int .i16 0, Value.int .i16 0, Value.int .i16 0, Value.int .i16 0, Value.int .i16 0, Value.int .i16 0, Value.int .i16 0, Value.int .i16 0, Value.int .i16 0, Value.int .i16 0, Value.int .i16 0, Value.int .i16 0, Value.int .i16 0, Value.int .i16 0, Value.int .i16 0, Value.int .i16 0, Value.int .i16 0, Value.int .i16 0, Value.int .i16 0, Value.int .i16 0, Value.int .i16 0, Value.int .i16 0, Value.int .i16 0, Value.int .i16 0, Value.int .i16 0, Value.int .i16 0, Value.int .i16 0, Value.int .i16 0]], []⟩).memory Tryd.f6.params.toList Rows.zigBackSpec.vars false #[.agg #[Value.int .i16 0, Value.int .i16 0, Value.int .i16 0, Value.int .i16 0, Value.int .i16 0, Value.int .i16 0, Value.int .i16 0, Value.int .i16 0, Value.int .i16 0, Value.int .i16 0, Value.int .i16 0, Value.int .i16 0, Value.int .i16 0, Value.int .i16 0, Value.int .i16 0, Value.int .i16 0, Value.int .i16 0, Value.int .i16 0, Value.int .i16 0, Value.int .i16 0, Value.int .i16 0, Value.int .i16 0, Value.int .i16 0, Value.int .i16 0, Value.int .i16 0, Value.int .i16 0, Value.int .i16 0, Value.int .i16 0, Value.int .i16 0, Value.int .i16 0, Value.int .i16 0, Value.int .i16 0, Value.int .i16 0, Value.int .i16 0, Value.int .i16 0, Value.int .i16 0, Value.int .i16 0, Value.int .i16 0, Value.int .i16 0, Value.int .i16 0, Value.int .i16 0, Value.int .i16 0, Value.int .i16 0, Value.int .i16 0, Value.int .i16 0, Value.int .i16 0, Value.int .i16 0, Value.int .i16 0, Value.int .i16 0, Value.int .i16 0, Value.int .i16 0, Value.int .i16 0, Value.int .i16 0, Value.int .i16 0, Value.int .i16 0, Value.int .i16 0, Value.int .i16 0, Value.int .i16 0, Value.int .i16 0, Value.int .i16 0, Value.int .i16 0, Value.int .i16 0, Value.int .i16 0, Value.int .i16 0]].toList 8 = some ([(.agg [.lit (.int .i16 0), .lit (.int .i16 0), .lit (.int .i16 0), .lit (.int .i16 0), .lit (.int .i16 0), .lit (.int .i16 0), .lit (.int .i16 0), .lit (.int .i16 0), .lit (.int .i16 0), .lit (.int .i16 0), .lit (.int .i16 0), .lit (.int .i16 0), .lit (.int .i16 0), .lit (.int .i16 0), .lit (.int .i16 0), .lit (.int .i16 0), .lit (.int .i16 0), .lit (.int .i16 0), .lit (.int .i16 0), .lit (.int .i16 0), .lit (.int .i16 0), .lit (.int .i16 0), .lit (.int .i16 0), .lit (.int .i16 0), .lit (.int .i16 0), .lit (.int .i16 0), .lit (.int .i16 0), .lit (.int .i16 0), .lit (.int .i16 0), .lit (.int .i16 0), .lit (.int .i16 0), .lit (.int .i16 0), .lit (.int .i16 0), .lit (.int .i16 0), .lit (.int .i16 0), .lit (.int .i16 0), .lit (.int .i16 0), .lit (.int .i16 0), .lit (.int .i16 0), .lit (.int .i16 0), .lit (.int .i16 0), .lit (.int .i16 0), .lit (.int .i16 0), .lit (.int .i16 0), .lit (.int .i16 0), .lit (.int .i16 0), .lit (.int .i16 0), .lit (.int .i16 0), .lit (.int .i16 0), .lit (.int .i16 0), .lit (.int .i16 0), .lit (.int .i16 0), .lit (.int .i16 0), .lit (.int .i16 0), .lit (.int .i16 0), .lit (.int .i16 0), .lit (.int .i16 0), .lit (.int .i16 0), .lit (.int .i16 0), .lit (.int .i16 0), .lit (.int .i16 0), .lit (.int .i16 0), .lit (.int .i16 0), .lit (.int .i16 0)])], [], places) :=
  ⟨[], by kernel_rfl⟩
set_option maxRecDepth 100000 in
theorem lifted (os : Os) (started : os.Started) (H : Type) (enc : TypeId × Value → H) (F : Stop.Interp) :
    ReturnsInHanded {} Tryd.checked os 6 .any ((OpenSpec.ofChange Rows.zigBackSpec).preRow enc Tryd.prog Tryd.f6 Rows.zigBackRow.domain false Rows.zigBackRow.laid) (((OpenSpec.ofChange Rows.zigBackSpec).at F).post enc Tryd.prog Tryd.f6 false true false false) := by
  obtain ⟨places, hx⟩ := reads os enc
  refine returnsInHanded_of_row (C := Tryd.checked) (s := (OpenSpec.ofChange Rows.zigBackSpec)) own started (by kernel_rfl) Tryd.func6
    (witness_row_at (enc := enc) (C := Tryd.checked) false (laidWorld os) #[.agg #[Value.int .i16 0, Value.int .i16 0, Value.int .i16 0, Value.int .i16 0, Value.int .i16 0, Value.int .i16 0, Value.int .i16 0, Value.int .i16 0, Value.int .i16 0, Value.int .i16 0, Value.int .i16 0, Value.int .i16 0, Value.int .i16 0, Value.int .i16 0, Value.int .i16 0, Value.int .i16 0, Value.int .i16 0, Value.int .i16 0, Value.int .i16 0, Value.int .i16 0, Value.int .i16 0, Value.int .i16 0, Value.int .i16 0, Value.int .i16 0, Value.int .i16 0, Value.int .i16 0, Value.int .i16 0, Value.int .i16 0, Value.int .i16 0, Value.int .i16 0, Value.int .i16 0, Value.int .i16 0, Value.int .i16 0, Value.int .i16 0, Value.int .i16 0, Value.int .i16 0, Value.int .i16 0, Value.int .i16 0, Value.int .i16 0, Value.int .i16 0, Value.int .i16 0, Value.int .i16 0, Value.int .i16 0, Value.int .i16 0, Value.int .i16 0, Value.int .i16 0, Value.int .i16 0, Value.int .i16 0, Value.int .i16 0, Value.int .i16 0, Value.int .i16 0, Value.int .i16 0, Value.int .i16 0, Value.int .i16 0, Value.int .i16 0, Value.int .i16 0, Value.int .i16 0, Value.int .i16 0, Value.int .i16 0, Value.int .i16 0, Value.int .i16 0, Value.int .i16 0, Value.int .i16 0, Value.int .i16 0]] rfl (by kernel_rfl) (by kernel_rfl) (by kernel_rfl)
      (OpenSpec.preRow_of_cond 8 hx (by kernel_rfl) (fun k hk => by cases hk) (by kernel_rfl) (laid_met os))) ?_
  intro W base args ds gs before hval hW _ _ hsz hL _ _
  exact contract H enc W base args ds gs before hval hW hL hsz
theorem said : Rows.ZigBackSaid :=
  OpenClaim.holds_of_cond 6 Tryd.f6 rfl rfl rfl rfl rfl rfl rfl ⟨rfl, rfl, rfl, rfl, rfl⟩ rfl rfl rfl rfl rfl (by kernel_rfl) Tryd.func6 (by kernel_rfl)
    (of_decide_eq_true (by kernel_rfl)) (by unfold Func.isWrapper; first | (rw [if_pos (by decide +kernel)]; kernel_rfl) | (rw [if_neg (by decide +kernel)]; exact ⟨rfl, rfl⟩))
    (fun os started H enc _ F => by rw [OpenClaim.pre_eq_preRow]; exact lifted os started H enc F)
theorem plain (f : FuncId) (fn : Func) (hf : Tryd.pinned.checked.prog.funcNamed "aquatint/aquatintlaw04.ZigBack" = some f) (hfn : Tryd.pinned.checked.prog.funcs[f]? = some fn) :
    false = Tryd.pinned.checked.prog.looks [] ∧ ∀ (j : Nat) t, fn.params[j]? = some t → Tryd.pinned.checked.prog.wantsStandIn t = false := by
  obtain rfl : f = 6 := Option.some.inj ((show Tryd.prog.funcNamed "aquatint/aquatintlaw04.ZigBack" = some 6 by kernel_rfl).symm.trans hf) |>.symm
  obtain rfl : fn = Tryd.f6 := (Option.some.inj (Tryd.func6.symm.trans hfn)).symm
  refine ⟨by kernel_rfl, fun j t ht => ?_⟩
  rw [Tryd.params6] at ht
  have hm := Array.mem_of_getElem? ht
  simp only [List.mem_toArray, List.mem_cons, List.not_mem_nil, or_false] at hm
  subst hm
  exact (show Tryd.prog.wantsStandIn 29 = false by kernel_rfl)
/-- The card. -/
theorem card : Rows.ZigBackCardSaid :=
  Claim7.holds_tied_plain_at .later [] _ _ _ _ said (fun _ h => by cases h) (by kernel_rfl) (fun _ h => by cases h) zigBack_row_tie rfl ⟨rfl, rfl⟩ (by kernel_rfl) rfl plain (by kernel_rfl)
#print axioms card
end lawZigBack
end Go.Proofs.YtalkeefjnejelaaDoor

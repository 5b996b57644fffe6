/- mark: a marker, a segment, where data ends (gen_mkd.py). No condition but the laid table. -/
import Derived.Test.YthibnhgbgmpjoaaDoorHGG
namespace Go.Proofs.YthibnhgbgmpjoaaDoor
open Go.RowKit
set_option linter.unusedSimpArgs false
set_option linter.unusedVariables false
set_option maxRecDepth 100000
theorem results_t2c {P : Program} {fn : Func} {p u v : Tmp} {ty : TypeId} (h : fn.results = #[.tmp u, .tmp v, .cell p ty]) (tmps : Array Value) (w : World) (g : Nat) (t : TypeId) (cs : Array Value) (fr : Nat × Nat) (d : TypeDesc)
    (hp : tmps.getD p undef = .pointer (some ⟨g, 0, none⟩)) (hg : w.heap[g]? = some (.cells cs t fr))
    (hu : P.underlying ty = some d) (hd : (match d with | .struct _ | .array _ _ => true | _ => false) = true) (hi : (P.info? ty).map (·.size) = some cs.size) :
    (results fn tmps).run P w = .ok (.tuple #[tmps.getD u undef, tmps.getD v undef, .agg cs]) w := by
  have hp' : tmps[p]?.getD undef = .pointer (some ⟨g, 0, none⟩) := by simpa using hp
  simp [results, h, hp', asAddr, run_loadVar_row w g t ty cs fr d hg hu hd hi]
theorem str_at {s : ByteArray} {i : Nat} (h : i < s.size) : s[i]? = some s[i] := by simp [h]
def mkV (s : ByteArray) (a : Nat) : Value :=
  if s.size ≤ ffEnd s a then .tuple #[.int .i64 0, .int .i64 0, .agg #[.int .i64 s.size, .int .i64 2]]
  else if ffEnd s a = a ∨ bAt s (ffEnd s a) = 0 ∨ (208 ≤ bAt s (ffEnd s a) ∧ bAt s (ffEnd s a) ≤ 216) then .tuple #[.int .i64 0, .int .i64 0, .agg #[.int .i64 a, .int .i64 3]]
  else .tuple #[.int .i64 (bAt s (ffEnd s a)), .int .i64 ((ffEnd s a + 1 : Nat) : Int), .agg #[.int .i64 0, .int .i64 0]]
set_option maxHeartbeats 1000000 in
theorem marker_walk (s : ByteArray) (a : Nat) (hs : s.size ≤ 16777216) (ha : a ≤ s.size) (w : World) :
    Calls Tryd.prog 37 #[.string s, .int .i64 a] w fun e w' => e = .returned (mkV s a) ∧ Below w.heap.size w w' := by
  obtain ⟨R, hR⟩ : ∃ R, R = mkV s a := ⟨_, rfl⟩
  rw [← hR]
  have HR := Lib.hid hR; clear hR
  have HB : Hid (Blk (w.alloc (.cells #[.int .i64 0, .int .i64 0] 60)) w.heap.size 60 #[.int .i64 0, .int .i64 0] ∧ Below w.heap.size w (w.alloc (.cells #[.int .i64 0, .int .i64 0] 60))) := Lib.hid ⟨Blk.new _ _ _, (Below.refl _ _).alloc (Nat.le_refl _) _⟩
  go_enter Tryd.func37, Tryd.ntmps37
  go_upto_block 0 with fail
  obtain ⟨w1, hw1⟩ : ∃ w1, w1 = w.alloc (.cells #[.int .i64 0, .int .i64 0] 60) := ⟨_, rfl⟩
  rw [← hw1] at HB ⊢
  clear hw1
  go_cut [7] (fun b wx => b = .int .i64 (ffEnd s a) ∧ wx = w1)
  case first =>
    go_wp2_with fail
    go_loopw [7] (fun i wr => ∃ k : Nat, a ≤ k ∧ k ≤ s.size ∧ i = .int .i64 k ∧ wr = w1 ∧ Hid (∀ j, a ≤ j → j < k → bAt s j = 255)) (fun i _ => s.size - (intOf i).toNat)
    case atStart => exact ⟨a, Nat.le_refl _, ha, rfl, rfl, Lib.hid fun j h1 h2 => by omega⟩
    case round =>
      obtain ⟨k, hak, hk, rfl, rfl, HJ⟩ := hrel
      obtain ⟨w1, rfl⟩ : ∃ w1 : World, w1 = wr := ⟨_, rfl⟩
      by_cases hlt : k < s.size
      case neg =>
        obtain rfl : k = s.size := by omega
        have HF : Hid (ffEnd s a = s.size) := Lib.hid (ffEnd_eq ⟨hak, HJ.out, by rw [bAt_out (Nat.le_refl _)]; decide⟩)
        go_wp2_with fail
        go_meet
        case rel => exact ⟨by rw [HF.out], by first | rfl | trivial⟩
      case pos =>
      have hb := bAt_in hlt
      obtain ⟨x, hx⟩ : ∃ x, x = s[k] := ⟨_, rfl⟩
      have e1 : s[k]? = some x := by rw [hx]; exact str_at hlt
      have x1 := fun W => run_index_str (P := Tryd.prog) W Tryd.underlying9 (rfl : (k : Int) = k) e1
      rw [← hx] at hb
      clear hx e1
      by_cases h255 : x.toNat = 255
      case pos =>
        have d1 : ((x.toNat : Int) == 255) = true := by rw [h255]; rfl
        have HN : Hid (∀ j, a ≤ j → j < k + 1 → bAt s j = 255) := Lib.hid fun j h1 h2 => by
          by_cases e : j = k
          · rw [e, hb, h255]; rfl
          · exact HJ.out j h1 (by omega)
        clear h255 hb
        go_wp2_with fail
        go_roundw
        case rel => exact ⟨k + 1, by omega, by omega, by go_num, by first | rfl | trivial, HN⟩
        case measure => simp [intOf]; omega
      case neg =>
        have d1 : ((x.toNat : Int) == 255) = false := by simp; omega
        have HF : Hid (ffEnd s a = k) := Lib.hid (ffEnd_eq ⟨hak, HJ.out, by rw [hb]; omega⟩)
        clear h255 hb
        go_wp2_with fail
        go_meet
        case rel => exact ⟨by rw [HF.out], by first | rfl | trivial⟩
  case rest =>
  obtain ⟨rfl, rfl⟩ := hcut
  obtain ⟨w1, rfl⟩ : ∃ w1 : World, w1 = wc := ⟨_, rfl⟩
  have hak := (ffEnd_is s a).le
  obtain ⟨k, hk⟩ : ∃ k, k = ffEnd s a := ⟨_, rfl⟩
  have hR := HR.out
  unfold mkV at hR
  rw [← hk] at hR hak ⊢
  clear HR
  by_cases h1 : s.size ≤ k
  case pos =>
    rw [if_pos h1] at hR
    have HR := Lib.hid hR
    clear hR hk
    go_wp2_with (refine wpList_store_far rfl 60 (.tmp 6) _ rfl w.heap.size #[.int .i64 s.size, .int .i64 2] #[.int .i64 0, .int .i64 0] 60 rfl rfl HB.out.1 (by kernel_rfl) rfl (by simp [Value.oneCell']) ?_; intro wz hz1 hz2 hz3 hz4 hz5; have HZ1 := Lib.hid hz1; have HZ2 := Lib.hid hz2; have HZB := Lib.hid (hz3 _ _ (Nat.le_refl _) HB.out.2); clear hz1 hz2 hz3 hz4 hz5)
    exact bodyPost_ret (results_t2c rfl _ _ w.heap.size 60 _ (0, 0) _ rfl HZ1.out Tryd.underlying60 rfl (by kernel_rfl)) rfl ⟨by rw [HR.out]; rfl, HZB.out⟩
  case neg =>
  rw [if_neg h1] at hR
  have hlt : k < s.size := by omega
  have hb := bAt_in hlt
  obtain ⟨x, hx⟩ : ∃ x, x = s[k] := ⟨_, rfl⟩
  have e1 : s[k]? = some x := by rw [hx]; exact str_at hlt
  have x1 := fun W => run_index_str (P := Tryd.prog) W Tryd.underlying9 (rfl : (k : Int) = k) e1
  rw [← hx] at hb
  have hx0 := x.toNat_lt
  rw [hb] at hR
  obtain ⟨c, hc⟩ : ∃ c : Int, c = x.toNat := ⟨_, rfl⟩
  rw [← hc] at hR
  have x2 : ∀ W, (Instr.index 9 (.string s) (.int .i64 (k : Int))).run Tryd.prog W = .ok (.int .u8 c) W := fun W => by rw [hc]; exact x1 W
  have hc0 : 0 ≤ c ∧ c < 256 := by omega
  clear hx e1 hb x1 hx0 hc hk
  go_upto_region 6 with fail
  go_cut [7, 29] (fun b7 b wx => b7 = .int .i64 k ∧ b = .bool (decide (k = a ∨ c = 0 ∨ (208 ≤ c ∧ c ≤ 216))) ∧ wx = w1)
  case first =>
    go_wp2_with fail
    all_goals
      go_meet
      case rel => exact ⟨congrArg (Value.int .i64) (by first | rfl | omega), congrArg Value.bool (by first | rfl | (rw [Bool.eq_iff_iff]; simp only [Bool.or_eq_true, Bool.and_eq_true, Bool.not_eq_true', decide_eq_false_iff_not, bne_iff_ne, Bool.false_eq_true, decide_eq_true_eq, beq_iff_eq, false_iff, true_iff]; done) | (rw [Bool.eq_iff_iff]; simp only [Bool.or_eq_true, Bool.and_eq_true, Bool.not_eq_true', decide_eq_false_iff_not, bne_iff_ne, Bool.false_eq_true, decide_eq_true_eq, beq_iff_eq, false_iff, true_iff]; omega)), by first | rfl | trivial⟩
  case rest =>
  obtain ⟨rfl, rfl, rfl⟩ := hcut
  obtain ⟨w1, rfl⟩ : ∃ w1 : World, w1 = wc := ⟨_, rfl⟩
  by_cases h2 : k = a ∨ c = 0 ∨ (208 ≤ c ∧ c ≤ 216)
  case pos =>
    rw [if_pos h2] at hR
    have HR := Lib.hid hR
    rw [decide_eq_true h2]
    clear hR h2
    go_wp2_with (refine wpList_store_far rfl 60 (.tmp 6) _ rfl w.heap.size #[.int .i64 a, .int .i64 3] #[.int .i64 0, .int .i64 0] 60 rfl rfl HB.out.1 (by kernel_rfl) rfl (by simp [Value.oneCell']) ?_; intro wz hz1 hz2 hz3 hz4 hz5; have HZ1 := Lib.hid hz1; have HZ2 := Lib.hid hz2; have HZB := Lib.hid (hz3 _ _ (Nat.le_refl _) HB.out.2); clear hz1 hz2 hz3 hz4 hz5)
    exact bodyPost_ret (results_t2c rfl _ _ w.heap.size 60 _ (0, 0) _ rfl HZ1.out Tryd.underlying60 rfl (by kernel_rfl)) rfl ⟨by rw [HR.out]; rfl, HZB.out⟩
  case neg =>
  rw [if_neg h2] at hR
  have HR := Lib.hid hR
  rw [decide_eq_false h2]
  clear hR h2
  go_wp2_with (refine wpList_store_far rfl 60 (.tmp 6) _ rfl w.heap.size #[.int .i64 0, .int .i64 0] #[.int .i64 0, .int .i64 0] 60 rfl rfl HB.out.1 (by kernel_rfl) rfl (by simp [Value.oneCell']) ?_; intro wz hz1 hz2 hz3 hz4 hz5; have HZ1 := Lib.hid hz1; have HZ2 := Lib.hid hz2; have HZB := Lib.hid (hz3 _ _ (Nat.le_refl _) HB.out.2); clear hz1 hz2 hz3 hz4 hz5)
  exact bodyPost_ret (results_t2c rfl _ _ w.heap.size 60 _ (0, 0) _ rfl HZ1.out Tryd.underlying60 rfl (by kernel_rfl)) rfl ⟨by rw [HR.out]; rfl, HZB.out⟩
theorem ext_ext {s : ByteArray} {b i j : Nat} (h : b + j ≤ s.size) : (s.extract b s.size).extract i j = s.extract (b + i) (b + j) := by
  apply ByteArray.ext
  apply Array.toList_inj.1
  rw [bs_ext, bs_ext]
  unfold bs
  rw [bs_ext, bs]
  have hl : s.data.toList.length = s.size := by rw [Array.length_toList]; rfl
  rw [← hl, List.take_length, List.take_drop, List.drop_drop]
theorem num_pAt {s : ByteArray} {b : Nat} (h : b + 2 ≤ s.size) : numL ((s.extract b s.size).extract 0 (0 + 2)).data.toList = pAt s b := by
  rw [ext_ext (by omega)]
  have h0 : 0 ≤ pAt s b := by rw [pAt, dif_pos (by omega)]; omega
  obtain ⟨_, h2, _⟩ := pAt_ok h0
  rw [← h2]
  unfold nV nxV nxE
  rw [if_pos (show b + 2 ≤ s.size by omega), if_pos rfl]
  rfl
/-- What a segment's reading meets. -/
def segE (s : ByteArray) (c : Int) (a b : Nat) : Nat × Int :=
  if s.size < b + 2 then (s.size, 2)
  else if pAt s b < 2 then (b, 4)
  else if s.size < b + (pAt s b).toNat then (s.size, 2)
  else if prE c (s.extract (b + 2) (b + (pAt s b).toNat)) ≠ 0 then (a, prE c (s.extract (b + 2) (b + (pAt s b).toNat)))
  else (0, 0)
theorem segE_no {s : ByteArray} {c : Int} {a b : Nat} (h : (segE s c a b).2 ≠ 0) : segP s c a b = .bad (segE s c a b).1 (segE s c a b).2 := by
  unfold segE segP at *
  (repeat' split) <;> simp_all
theorem segE_ok {s : ByteArray} {c : Int} {a b : Nat} (h : (segE s c a b).2 = 0) : segE s c a b = (0, 0) ∧ b + 2 ≤ s.size ∧ 2 ≤ pAt s b ∧ b + (pAt s b).toNat ≤ s.size ∧ prE c (s.extract (b + 2) (b + (pAt s b).toNat)) = 0 := by
  unfold segE at *
  split at h
  · cases h
  · split at h
    · cases h
    · split at h
      · cases h
      · split at h
        · rename_i q; exact absurd h q
        · rename_i q1 q2 q3 q4
          exact ⟨by rw [if_neg q1, if_neg q2, if_neg q3, if_neg q4], by omega, by omega, by omega, Decidable.not_not.1 q4⟩
def SegPost (w : World) (s : ByteArray) (c : Int) (a b : Nat) (e : Ending) (w' : World) : Prop :=
  ∃ v, e = .returned (.tuple #[v, .int .i64 (if (segE s c a b).2 = 0 then (b : Int) + pAt s b else 0), .agg #[.int .i64 (segE s c a b).1, .int .i64 (segE s c a b).2]]) ∧ ((segE s c a b).2 = 0 → SgV w' w.heap.size v (prG c (s.extract (b + 2) (b + (pAt s b).toNat)))) ∧ Below w.heap.size w w'
set_option maxHeartbeats 1000000 in
theorem segment_walk (s : ByteArray) (c : Int) (a b : Nat) (hs : s.size ≤ 16777216) (hb : b ≤ s.size) (w : World) (hL : Laid w) :
    Calls Tryd.prog 38 #[.string s, .int .i64 c, .int .i64 a, .int .i64 b] w (SegPost w s c a b) := by
  obtain ⟨E, hE⟩ : ∃ E, E = segE s c a b := ⟨_, rfl⟩
  unfold SegPost
  rw [← hE]
  obtain ⟨X, hX⟩ : ∃ X : Int, X = if E.2 = 0 then (b : Int) + pAt s b else 0 := ⟨_, rfl⟩
  rw [← hX]
  obtain ⟨E1, E2⟩ := E
  dsimp only at hX ⊢
  have HL := Lib.hid hL; have HX := Lib.hid hX; clear hL hX
  have HB : Hid (Blk (w.alloc (.cells #[.int .i64 0, .int .i64 0] 60)) w.heap.size 60 #[.int .i64 0, .int .i64 0] ∧ Below w.heap.size w (w.alloc (.cells #[.int .i64 0, .int .i64 0] 60))) := Lib.hid ⟨Blk.new _ _ _, (Below.refl _ _).alloc (Nat.le_refl _) _⟩
  obtain ⟨t, ht⟩ : ∃ t, t = s.extract b s.size := ⟨_, rfl⟩
  have htz : t.size = s.size - b := by rw [ht, ByteArray.size_extract]; omega
  have htt : s.extract b s.size = t := ht.symm
  have HNEW : Hid (∀ W, Calls Tryd.prog 27 #[.string (s.extract b s.size)] W fun e w' => e = .returned (.pointer (some ⟨W.heap.size, 0, none⟩)) ∧ Cur w' W.heap.size t 0 ∧ Below W.heap.size W w' ∧ W.heap.size < w'.heap.size) := Lib.hid fun W => by rw [htt]; exact new_walk t W
  clear htt
  unfold segE at hE
  by_cases h1 : s.size < b + 2
  case pos =>
    rw [if_pos h1] at hE
    have HE := Lib.hid hE
    have HNUM : Hid (∀ (W : World) (gg : Nat), Cur W gg t 0 → Calls Tryd.prog 56 #[.pointer (some ⟨gg, 0, none⟩), .int .i64 2] W fun e w' => e = .returned (.tuple #[.int .i64 0, .int .i64 2]) ∧ W.drew = w') := Lib.hid fun W gg hc => num_short 2 (by decide) (by decide) W _ 0 t (by omega) (by omega) hc (by omega)
    clear hE h1 ht
    go_enter Tryd.func38, Tryd.ntmps38
    go_upto_region 0 with fail
    go_cut [10] (fun b wx => b = .pointer (some ⟨w.heap.size, 0, none⟩) ∧ Hid (Blk wx w.heap.size 60 #[.int .i64 0, .int .i64 0] ∧ Below w.heap.size w wx))
    case first =>
      go_wp2_with fail
      go_meet
      case rel => exact ⟨rfl, HB⟩
    case rest =>
    clear HB
    obtain ⟨rfl, HB⟩ := hcut
    obtain ⟨w1, rfl⟩ : ∃ w1 : World, w1 = wc := ⟨_, rfl⟩
    go_wp2_with (first | (go_at_call 27; refine (HNEW.out _).mono ?_; rintro ex w2 ⟨rfl, hc2, hb2, hl2⟩; have HC2 := Lib.hid hc2; have HF2 := Lib.hid (HB.out.1.bel hb2); have HE2 := Lib.hid (HB.out.2.trans (hb2.mono (Nat.le_of_lt HB.out.1.lt))); have HL2 := Lib.hid hl2; clear hc2 hb2 hl2) | (go_at_call 56; refine (HNUM.out _ _ HC2.out).mono ?_; rintro ex w3 ⟨rfl, rfl⟩; have HF3 := Lib.hid (Blk.drew HF2.out); have HE3 := Lib.hid (HE2.out.drew)) | (refine wpList_store_far rfl 60 (.tmp 10) _ rfl w.heap.size #[.int .i64 s.size, .int .i64 2] #[.int .i64 0, .int .i64 0] 60 rfl rfl HF3.out (by kernel_rfl) rfl (by simp [Value.oneCell']) ?_; intro wz hz1 hz2 hz3 hz4 hz5; have HZ1 := Lib.hid hz1; have HZ2 := Lib.hid hz2; have HZB := Lib.hid (hz3 _ _ (Nat.le_refl _) HE3.out); clear hz1 hz2 hz3 hz4 hz5))
    exact bodyPost_ret (results_t2c rfl _ _ w.heap.size 60 _ (0, 0) _ rfl HZ1.out Tryd.underlying60 rfl (by kernel_rfl)) rfl ⟨.nilIface, by rw [show X = 0 by rw [HX.out, if_neg (by have := HE.out; injection this with _ h; rw [h]; decide)]]; have := HE.out; injection this with h1 h2; rw [h1, h2]; rfl, fun h => (by have := HE.out; injection this with _ h2; rw [h2] at h; cases h), HZB.out⟩
  case neg =>
  rw [if_neg h1] at hE
  have hnp := num_pAt (s := s) (b := b) (by omega)
  rw [← ht] at hnp
  obtain ⟨n, hn⟩ : ∃ n, n = pAt s b := ⟨_, rfl⟩
  have hn0 : 0 ≤ n ∧ n < 65536 := by have := pAt_bd s b; have h0 : 0 ≤ pAt s b := by { rw [pAt, dif_pos (by omega)]; omega }; omega
  rw [← hn] at hE hnp HX ⊢
  have HNUM : Hid (∀ (W : World) (gg : Nat), Cur W gg t 0 → Calls Tryd.prog 56 #[.pointer (some ⟨gg, 0, none⟩), .int .i64 2] W fun e w' => e = .returned (.tuple #[.int .i64 n, .int .i64 0]) ∧ Cur w' gg t 2 ∧ Only gg W w') := Lib.hid fun W gg hc => by
    have := num_ok 2 (by decide) (by decide) W _ 0 t (by omega) hc (by omega)
    rwa [hnp] at this
  clear hnp
  by_cases h2 : n < 2
  case pos =>
    rw [if_pos h2] at hE
    have HE := Lib.hid hE
    clear hE h1 ht hn
    go_enter Tryd.func38, Tryd.ntmps38
    go_upto_region 0 with fail
    go_cut [10] (fun b wx => b = .pointer (some ⟨w.heap.size, 0, none⟩) ∧ Hid (Blk wx w.heap.size 60 #[.int .i64 0, .int .i64 0] ∧ Below w.heap.size w wx))
    case first =>
      go_wp2_with fail
      go_meet
      case rel => exact ⟨rfl, HB⟩
    case rest =>
    clear HB
    obtain ⟨rfl, HB⟩ := hcut
    obtain ⟨w1, rfl⟩ : ∃ w1 : World, w1 = wc := ⟨_, rfl⟩
    go_wp2_with (first | (go_at_call 27; refine (HNEW.out _).mono ?_; rintro ex w2 ⟨rfl, hc2, hb2, hl2⟩; have HC2 := Lib.hid hc2; have HF2 := Lib.hid (HB.out.1.bel hb2); have HE2 := Lib.hid (HB.out.2.trans (hb2.mono (Nat.le_of_lt HB.out.1.lt))); have HL2 := Lib.hid hl2; clear hc2 hb2 hl2) | (go_at_call 56; refine (HNUM.out _ _ HC2.out).mono ?_; rintro ex w3 ⟨rfl, hc3, ho3⟩; have HC3 := Lib.hid hc3; have HF3 := Lib.hid (ho3.blk HF2.out (by have := HB.out.1.lt; omega)); have HE3 := Lib.hid (HE2.out.trans (ho3.below (Nat.le_of_lt HB.out.1.lt) HE2.out.size)); clear hc3 ho3) | (refine wpList_store_far rfl 60 (.tmp 10) _ rfl w.heap.size #[.int .i64 b, .int .i64 4] #[.int .i64 0, .int .i64 0] 60 rfl rfl HF3.out (by kernel_rfl) rfl (by simp [Value.oneCell']) ?_; intro wz hz1 hz2 hz3 hz4 hz5; have HZ1 := Lib.hid hz1; have HZ2 := Lib.hid hz2; have HZB := Lib.hid (hz3 _ _ (Nat.le_refl _) HE3.out); clear hz1 hz2 hz3 hz4 hz5))
    exact bodyPost_ret (results_t2c rfl _ _ w.heap.size 60 _ (0, 0) _ rfl HZ1.out Tryd.underlying60 rfl (by kernel_rfl)) rfl ⟨.nilIface, by rw [show X = 0 by rw [HX.out, if_neg (by have := HE.out; injection this with _ h; rw [h]; decide)]]; have := HE.out; injection this with h1 h2; rw [h1, h2]; rfl, fun h => (by have := HE.out; injection this with _ h2; rw [h2] at h; cases h), HZB.out⟩
  case neg =>
  rw [if_neg h2] at hE
  by_cases h3 : s.size < b + n.toNat
  case pos =>
    rw [if_pos h3] at hE
    have HE := Lib.hid hE
    have HTAKE : Hid (∀ (W : World) (gg : Nat), Cur W gg t 2 → Calls Tryd.prog 57 #[.pointer (some ⟨gg, 0, none⟩), .int .i64 (n - 2)] W fun e w' => e = .returned (.tuple #[.string ⟨#[]⟩, .int .i64 2]) ∧ W.drew = w') := Lib.hid fun W gg hc => take_short (n - 2) W _ 2 t (by omega) (by omega) hc (by omega)
    clear hE h1 ht hn
    go_enter Tryd.func38, Tryd.ntmps38
    go_upto_region 0 with fail
    go_cut [10] (fun b wx => b = .pointer (some ⟨w.heap.size, 0, none⟩) ∧ Hid (Blk wx w.heap.size 60 #[.int .i64 0, .int .i64 0] ∧ Below w.heap.size w wx))
    case first =>
      go_wp2_with fail
      go_meet
      case rel => exact ⟨rfl, HB⟩
    case rest =>
    clear HB
    obtain ⟨rfl, HB⟩ := hcut
    obtain ⟨w1, rfl⟩ : ∃ w1 : World, w1 = wc := ⟨_, rfl⟩
    go_wp2_with (first | (go_at_call 27; refine (HNEW.out _).mono ?_; rintro ex w2 ⟨rfl, hc2, hb2, hl2⟩; have HC2 := Lib.hid hc2; have HF2 := Lib.hid (HB.out.1.bel hb2); have HE2 := Lib.hid (HB.out.2.trans (hb2.mono (Nat.le_of_lt HB.out.1.lt))); have HL2 := Lib.hid hl2; clear hc2 hb2 hl2) | (go_at_call 56; refine (HNUM.out _ _ HC2.out).mono ?_; rintro ex w3 ⟨rfl, hc3, ho3⟩; have HC3 := Lib.hid hc3; have HF3 := Lib.hid (ho3.blk HF2.out (by have := HB.out.1.lt; omega)); have HE3 := Lib.hid (HE2.out.trans (ho3.below (Nat.le_of_lt HB.out.1.lt) HE2.out.size)); clear hc3 ho3) | (go_at_call 57; refine (HTAKE.out _ _ HC3.out).mono ?_; rintro ex w4 ⟨rfl, rfl⟩; have HF4 := Lib.hid (Blk.drew HF3.out); have HE4 := Lib.hid (HE3.out.drew)) | (refine wpList_store_far rfl 60 (.tmp 10) _ rfl w.heap.size #[.int .i64 s.size, .int .i64 2] #[.int .i64 0, .int .i64 0] 60 rfl rfl HF4.out (by kernel_rfl) rfl (by simp [Value.oneCell']) ?_; intro wz hz1 hz2 hz3 hz4 hz5; have HZ1 := Lib.hid hz1; have HZ2 := Lib.hid hz2; have HZB := Lib.hid (hz3 _ _ (Nat.le_refl _) HE4.out); clear hz1 hz2 hz3 hz4 hz5))
    exact bodyPost_ret (results_t2c rfl _ _ w.heap.size 60 _ (0, 0) _ rfl HZ1.out Tryd.underlying60 rfl (by kernel_rfl)) rfl ⟨.nilIface, by rw [show X = 0 by rw [HX.out, if_neg (by have := HE.out; injection this with _ h; rw [h]; decide)]]; have := HE.out; injection this with h1 h2; rw [h1, h2]; rfl, fun h => (by have := HE.out; injection this with _ h2; rw [h2] at h; cases h), HZB.out⟩
  case neg =>
  rw [if_neg h3] at hE
  obtain ⟨body, hbody⟩ : ∃ y, y = s.extract (b + 2) (b + n.toNat) := ⟨_, rfl⟩
  rw [← hbody] at hE ⊢
  have HTAKE : Hid (∀ (W : World) (gg : Nat), Cur W gg t 2 → Calls Tryd.prog 57 #[.pointer (some ⟨gg, 0, none⟩), .int .i64 (n - 2)] W fun e w' => e = .returned (.tuple #[.string body, .int .i64 0]) ∧ Cur w' gg t (2 + (n - 2).toNat) ∧ Only gg W w') := Lib.hid fun W gg hc => by
    have h := take_ok (n - 2).toNat W gg 2 t (by omega) hc (by omega)
    have e1 : t.extract 2 (2 + (n - 2).toNat) = body := by rw [ht, ext_ext (by omega), hbody]; congr 1; omega
    have e2 : (((n - 2).toNat : Nat) : Int) = n - 2 := by omega
    rw [e1, e2] at h
    exact h
  have HPAR : Hid (∀ W, Laid W → Calls Tryd.prog 14 #[.int .i64 c, .string body] W (ParsePost W c body)) := Lib.hid fun W hL => parse_walk c body W hL
  obtain ⟨er, her⟩ : ∃ er, er = prE c body := ⟨_, rfl⟩
  obtain ⟨G, hG⟩ : ∃ G, G = prG c body := ⟨_, rfl⟩
  unfold ParsePost at HPAR
  rw [← her, ← hG] at HPAR
  rw [← her] at hE
  rw [← hG]
  clear h1 ht hn hbody her hG
  by_cases h4 : er = 0
  case neg =>
    rw [if_pos h4] at hE
    have d4 : (er == 0) = false := by simpa using h4
    have d5 : (er != 0) = true := by simpa using h4
    have HE := Lib.hid hE; have H4 := Lib.hid h4
    clear hE h4
    go_enter Tryd.func38, Tryd.ntmps38
    go_upto_region 0 with fail
    go_cut [10] (fun b wx => b = .pointer (some ⟨w.heap.size, 0, none⟩) ∧ Hid (Blk wx w.heap.size 60 #[.int .i64 0, .int .i64 0] ∧ Below w.heap.size w wx))
    case first =>
      go_wp2_with fail
      go_meet
      case rel => exact ⟨rfl, HB⟩
    case rest =>
    clear HB
    obtain ⟨rfl, HB⟩ := hcut
    obtain ⟨w1, rfl⟩ : ∃ w1 : World, w1 = wc := ⟨_, rfl⟩
    go_wp2_with (first | (go_at_call 27; refine (HNEW.out _).mono ?_; rintro ex w2 ⟨rfl, hc2, hb2, hl2⟩; have HC2 := Lib.hid hc2; have HF2 := Lib.hid (HB.out.1.bel hb2); have HE2 := Lib.hid (HB.out.2.trans (hb2.mono (Nat.le_of_lt HB.out.1.lt))); have HL2 := Lib.hid hl2; clear hc2 hb2 hl2) | (go_at_call 56; refine (HNUM.out _ _ HC2.out).mono ?_; rintro ex w3 ⟨rfl, hc3, ho3⟩; have HC3 := Lib.hid hc3; have HF3 := Lib.hid (ho3.blk HF2.out (by have := HB.out.1.lt; omega)); have HE3 := Lib.hid (HE2.out.trans (ho3.below (Nat.le_of_lt HB.out.1.lt) HE2.out.size)); clear hc3 ho3) | (go_at_call 57; refine (HTAKE.out _ _ HC3.out).mono ?_; rintro ex w4 ⟨rfl, hc4, ho4⟩; have HF4 := Lib.hid (ho4.blk HF3.out (by have := HB.out.1.lt; omega)); have HE4 := Lib.hid (HE3.out.trans (ho4.below (Nat.le_of_lt HB.out.1.lt) HE3.out.size)); clear hc4 ho4) | (go_at_call 14; refine (HPAR.out _ (HL.out.below HE4.out)).mono ?_; rintro ex w5 ⟨v, rfl, _, hv5, hb5⟩; obtain rfl := hv5 H4.out; have HF5 := Lib.hid (HF4.out.bel hb5); have HE5 := Lib.hid (HE4.out.trans (hb5.mono HE4.out.size)); clear hb5 hv5) | (refine wpList_store_far rfl 60 (.tmp 10) _ rfl w.heap.size #[.int .i64 a, .int .i64 er] #[.int .i64 0, .int .i64 0] 60 rfl rfl HF5.out (by kernel_rfl) rfl (by simp [Value.oneCell']) ?_; intro wz hz1 hz2 hz3 hz4 hz5; have HZ1 := Lib.hid hz1; have HZ2 := Lib.hid hz2; have HZB := Lib.hid (hz3 _ _ (Nat.le_refl _) HE5.out); clear hz1 hz2 hz3 hz4 hz5))
    exact bodyPost_ret (results_t2c rfl _ _ w.heap.size 60 _ (0, 0) _ rfl HZ1.out Tryd.underlying60 rfl (by kernel_rfl)) rfl ⟨.nilIface, by rw [show X = 0 by rw [HX.out, if_neg (by have := HE.out; injection this with _ h; rw [h]; exact H4.out)]]; have := HE.out; injection this with h1 h2; rw [h1, h2]; rfl, fun h => (by have := HE.out; injection this with _ h2; rw [h2] at h; exact absurd h H4.out), HZB.out⟩
  case pos =>
  obtain rfl := h4
  rw [if_neg (by simp)] at hE
  have HE := Lib.hid hE
  clear hE
  go_enter Tryd.func38, Tryd.ntmps38
  go_upto_region 0 with fail
  go_cut [10] (fun b wx => b = .pointer (some ⟨w.heap.size, 0, none⟩) ∧ Hid (Blk wx w.heap.size 60 #[.int .i64 0, .int .i64 0] ∧ Below w.heap.size w wx))
  case first =>
    go_wp2_with fail
    go_meet
    case rel => exact ⟨rfl, HB⟩
  case rest =>
  clear HB
  obtain ⟨rfl, HB⟩ := hcut
  obtain ⟨w1, rfl⟩ : ∃ w1 : World, w1 = wc := ⟨_, rfl⟩
  go_wp2_with (first | (go_at_call 27; refine (HNEW.out _).mono ?_; rintro ex w2 ⟨rfl, hc2, hb2, hl2⟩; have HC2 := Lib.hid hc2; have HF2 := Lib.hid (HB.out.1.bel hb2); have HE2 := Lib.hid (HB.out.2.trans (hb2.mono (Nat.le_of_lt HB.out.1.lt))); have HL2 := Lib.hid hl2; clear hc2 hb2 hl2) | (go_at_call 56; refine (HNUM.out _ _ HC2.out).mono ?_; rintro ex w3 ⟨rfl, hc3, ho3⟩; have HC3 := Lib.hid hc3; have HF3 := Lib.hid (ho3.blk HF2.out (by have := HB.out.1.lt; omega)); have HE3 := Lib.hid (HE2.out.trans (ho3.below (Nat.le_of_lt HB.out.1.lt) HE2.out.size)); clear hc3 ho3) | (go_at_call 57; refine (HTAKE.out _ _ HC3.out).mono ?_; rintro ex w4 ⟨rfl, hc4, ho4⟩; have HF4 := Lib.hid (ho4.blk HF3.out (by have := HB.out.1.lt; omega)); have HE4 := Lib.hid (HE3.out.trans (ho4.below (Nat.le_of_lt HB.out.1.lt) HE3.out.size)); clear hc4 ho4) | (go_at_call 14; refine (HPAR.out _ (HL.out.below HE4.out)).mono ?_; rintro ex w5 ⟨v, rfl, hv5, _, hb5⟩; have HV5 := Lib.hid ((hv5 (by first | trivial | rfl)).mono HE4.out.size); have HF5 := Lib.hid (HF4.out.bel hb5); have HE5 := Lib.hid (HE4.out.trans (hb5.mono HE4.out.size)); clear hb5 hv5) | (refine wpList_store_far rfl 60 (.tmp 10) _ rfl w.heap.size #[.int .i64 0, .int .i64 0] #[.int .i64 0, .int .i64 0] 60 rfl rfl HF5.out (by kernel_rfl) rfl (by simp [Value.oneCell']) ?_; intro wz hz1 hz2 hz3 hz4 hz5; have HZ1 := Lib.hid hz1; have HZ2 := Lib.hid hz2; have HZB := Lib.hid (hz3 _ _ (Nat.le_refl _) HE5.out); clear hz1 hz2 hz3 hz4 hz5))
  exact bodyPost_ret (results_t2c rfl _ _ w.heap.size 60 _ (0, 0) _ rfl HZ1.out Tryd.underlying60 rfl (by kernel_rfl)) rfl ⟨_, by rw [show X = (b : Int) + n by rw [HX.out, if_pos (by have := HE.out; injection this with _ h)]]; have := HE.out; injection this with h1 h2; rw [h1, h2]; rfl, fun _ => HV5.out.keep fun e he g cs hg => HZ2.out g e cs (fun hgg => by subst hgg; have hh := hg.symm.trans HF5.out; injection hh with hh; injection hh with _ hh; rcases he with rfl | rfl | rfl | rfl <;> exact absurd hh (by decide)) hg, HZB.out⟩
set_option maxHeartbeats 1000000 in
theorem data_walk (s : ByteArray) (a : Nat) (hs : s.size ≤ 16777216) (ha : a ≤ s.size) (w : World) :
    Calls Tryd.prog 39 #[.string s, .int .i64 a] w fun e w' => e = .returned (.int .i64 (dEnd s a)) ∧ w = w' := by
  obtain ⟨R, hR⟩ : ∃ R, R = dEnd s a := ⟨_, rfl⟩
  rw [← hR]
  go_enter Tryd.func39, Tryd.ntmps39
  go_wp2_with fail
  go_loopw [5] (fun i wr => ∃ k : Nat, k ≤ s.size ∧ i = .int .i64 k ∧ wr = w ∧ Hid (R = dEnd s k)) (fun i _ => s.size - (intOf i).toNat)
  case atStart => exact ⟨a, ha, rfl, rfl, Lib.hid hR⟩
  case round =>
    clear hR
    obtain ⟨k, hk, rfl, rfl, HR⟩ := hrel
    obtain ⟨w1, rfl⟩ : ∃ w1 : World, w1 = wr := ⟨_, rfl⟩
    by_cases hlt : k < s.size
    case neg =>
      obtain rfl : k = s.size := by omega
      have HF : Hid (R = s.size) := Lib.hid (by rw [HR.out, dEnd_eq, if_pos (Nat.le_refl _)])
      go_wp2_with fail
      go_ret
      exact ⟨by rw [HF.out]; rfl, rfl⟩
    case pos =>
    have hb := bAt_in hlt
    obtain ⟨x, hx⟩ : ∃ x, x = s[k] := ⟨_, rfl⟩
    have e1 : s[k]? = some x := by rw [hx]; exact str_at hlt
    have x1 := fun W => run_index_str (P := Tryd.prog) W Tryd.underlying9 (rfl : (k : Int) = k) e1
    rw [← hx] at hb
    clear hx e1
    by_cases h255 : x.toNat = 255
    case neg =>
      have d1 : ((x.toNat : Int) == 255) = false := by simp; omega
      have d2 : ((x.toNat : Int) != 255) = true := by simp; omega
      have HF : Hid (R = dEnd s (k + 1)) := Lib.hid (by rw [HR.out, dEnd_eq s k, if_neg (by omega), if_neg (by rw [hb]; omega)])
      clear h255 hb HR
      go_wp2_with fail
      go_roundw
      case rel => exact ⟨k + 1, by omega, by go_num, by first | rfl | trivial, HF⟩
      case measure => simp [intOf]; omega
    case pos =>
    have d1 : ((x.toNat : Int) == 255) = true := by rw [h255]; rfl
    have d2 : ((x.toNat : Int) != 255) = false := by rw [h255]; rfl
    have hb255 : bAt s k = 255 := by rw [hb, h255]; rfl
    have HK := Lib.hid hb255
    have HR2 : Hid (R = if s.size ≤ ffEnd s k then s.size else if endB (bAt s (ffEnd s k)) then k else dEnd s (ffEnd s k + 1)) := Lib.hid (by rw [HR.out, dEnd_eq s k, if_neg (by omega), if_pos hb255])
    clear h255 hb HR hb255
    go_upto_block 2 with fail
    clear x1 d1 d2
    go_cut [6] (fun b wx => b = .int .i64 (ffEnd s k) ∧ wx = w1)
    case first =>
      go_wp2_with fail
      go_loopw [6] (fun i wr => ∃ q : Nat, k ≤ q ∧ q ≤ s.size ∧ i = .int .i64 q ∧ wr = w1 ∧ Hid (∀ j, k ≤ j → j < q → bAt s j = 255)) (fun i _ => s.size - (intOf i).toNat)
      case atStart => exact ⟨k, Nat.le_refl _, hk, rfl, rfl, Lib.hid fun j h1 h2 => by omega⟩
      case round =>
        obtain ⟨q, hkq, hq, rfl, rfl, HJ⟩ := hrel
        obtain ⟨w1, rfl⟩ : ∃ w1 : World, w1 = wr := ⟨_, rfl⟩
        by_cases hlq : q < s.size
        case neg =>
          obtain rfl : q = s.size := by omega
          have HF : Hid (ffEnd s k = s.size) := Lib.hid (ffEnd_eq ⟨hkq, HJ.out, by rw [bAt_out (Nat.le_refl _)]; decide⟩)
          go_wp2_with fail
          go_meet
          case rel => exact ⟨by rw [HF.out], by first | rfl | trivial⟩
        case pos =>
        have hb := bAt_in hlq
        obtain ⟨y, hy⟩ : ∃ x, x = s[q] := ⟨_, rfl⟩
        have e1 : s[q]? = some y := by rw [hy]; exact str_at hlq
        have x1 := fun W => run_index_str (P := Tryd.prog) W Tryd.underlying9 (rfl : (q : Int) = q) e1
        rw [← hy] at hb
        clear hy e1
        by_cases h255 : y.toNat = 255
        case pos =>
          have d1 : ((y.toNat : Int) == 255) = true := by rw [h255]; rfl
          have HN : Hid (∀ j, k ≤ j → j < q + 1 → bAt s j = 255) := Lib.hid fun j h1 h2 => by
            by_cases e : j = q
            · rw [e, hb, h255]; rfl
            · exact HJ.out j h1 (by omega)
          clear h255 hb
          go_wp2_with fail
          go_roundw
          case rel => exact ⟨q + 1, by omega, by omega, by go_num, by first | rfl | trivial, HN⟩
          case measure => simp [intOf]; omega
        case neg =>
          have d1 : ((y.toNat : Int) == 255) = false := by simp; omega
          have HF : Hid (ffEnd s k = q) := Lib.hid (ffEnd_eq ⟨hkq, HJ.out, by rw [hb]; omega⟩)
          clear h255 hb
          go_wp2_with fail
          go_meet
          case rel => exact ⟨by rw [HF.out], by first | rfl | trivial⟩
    case rest =>
    obtain ⟨rfl, rfl⟩ := hcut
    obtain ⟨w1, rfl⟩ : ∃ w1 : World, w1 = wc := ⟨_, rfl⟩
    have hkq := (ffEnd_is s k).le
    obtain ⟨q, hq⟩ : ∃ q, q = ffEnd s k := ⟨_, rfl⟩
    rw [← hq] at HR2 hkq ⊢
    by_cases h1 : s.size ≤ q
    case pos =>
      have HF : Hid (R = s.size) := Lib.hid (by rw [HR2.out, if_pos h1])
      clear hq
      go_wp2_with fail
      go_ret
      exact ⟨by rw [HF.out]; rfl, rfl⟩
    case neg =>
    have hlq : q < s.size := by omega
    have hb := bAt_in hlq
    obtain ⟨y, hy⟩ : ∃ x, x = s[q] := ⟨_, rfl⟩
    have e1 : s[q]? = some y := by rw [hy]; exact str_at hlq
    have x1 := fun W => run_index_str (P := Tryd.prog) W Tryd.underlying9 (rfl : (q : Int) = q) e1
    rw [← hy] at hb
    have hx0 := y.toNat_lt
    obtain ⟨c, hc⟩ : ∃ c : Int, c = y.toNat := ⟨_, rfl⟩
    have x2 : ∀ W, (Instr.index 9 (.string s) (.int .i64 (q : Int))).run Tryd.prog W = .ok (.int .u8 c) W := fun W => by rw [hc]; exact x1 W
    have hc0 : 0 ≤ c ∧ c < 256 := by omega
    rw [← hc] at hb
    have HR3 : Hid (R = if endB c then k else dEnd s (q + 1)) := Lib.hid (by rw [HR2.out, if_neg h1, hb])
    clear hy e1 hb x1 hx0 hc hq HR2
    go_upto_region 10 with fail
    go_cut [52] (fun b wx => b = .bool (decide (c ≠ 0 ∧ (c < 208 ∨ 215 < c))) ∧ wx = w1)
    case first =>
      go_wp2_with fail
      all_goals
        go_meet
        case rel => exact ⟨congrArg Value.bool (by first | rfl | (rw [Bool.eq_iff_iff]; simp only [Bool.or_eq_true, Bool.and_eq_true, Bool.not_eq_true', decide_eq_false_iff_not, bne_iff_ne, Bool.false_eq_true, decide_eq_true_eq, beq_iff_eq, false_iff, true_iff]; done) | (rw [Bool.eq_iff_iff]; simp only [Bool.or_eq_true, Bool.and_eq_true, Bool.not_eq_true', decide_eq_false_iff_not, bne_iff_ne, Bool.false_eq_true, decide_eq_true_eq, beq_iff_eq, false_iff, true_iff]; omega)), by first | rfl | trivial⟩
    case rest =>
    obtain ⟨rfl, rfl⟩ := hcut
    obtain ⟨w1, rfl⟩ : ∃ w1 : World, w1 = wc := ⟨_, rfl⟩
    by_cases h2 : c ≠ 0 ∧ (c < 208 ∨ 215 < c)
    case pos =>
      have HF : Hid (R = k) := Lib.hid (by rw [HR3.out, if_pos (show endB c from h2)])
      rw [decide_eq_true h2]
      clear h2
      go_wp2_with fail
      go_ret
      exact ⟨by rw [HF.out]; rfl, rfl⟩
    case neg =>
      have HF : Hid (R = dEnd s (q + 1)) := Lib.hid (by rw [HR3.out, if_neg (show ¬ endB c from h2)])
      rw [decide_eq_false h2]
      clear h2
      go_wp2_with fail
      go_roundw
      case rel => exact ⟨q + 1, by omega, by go_num, by first | rfl | trivial, HF⟩
      case measure => simp [intOf]; omega
end Go.Proofs.YthibnhgbgmpjoaaDoor

/- The walk of the reference's Bits where it may be (2). No condition. -/
import Derived.Test.YtaofponadaifiaaRfH
import Derived.Test.YtaofponadaifiaaRdB
namespace Go.Proofs.Ytaofponadaifiaa
open Go.RowKit
set_option linter.unusedSimpArgs false
set_option linter.unusedVariables false
/-- Whole bytes come in, as bits. -/
def rdB (s : ByteArray) (n : Nat) : Nat → List Int → Nat → Option (List Int × Nat)
  | 0, H, a => some (H, a)
  | f + 1, H, a => if H.length < n then (if (wholeV s a).2 = 0 then none else rdB s n f (H ++ bitsN 8 (wholeV s a).1) (a + (wholeV s a).2)) else some (H, a)
/-- Its block, if it has one, is no less than b. -/
def HiV (b : Nat) (y : Value) : Prop := ∀ g off n c, y = .slice (some ⟨g, off, none⟩) n c → b ≤ g
/-- What the reference answers. -/
def refBR (s : ByteArray) (a : Nat) (y : Value) (n base : Nat) (r : Option (List Int × Nat)) (w : World) (e : Ending) (w' : World) : Prop := match r with
  | none => e = .returned (.tuple #[.int .i64 0, rV s a y, .int .i64 2]) ∧ Below w.heap.size w w'
  | some (H, a') => ∃ y', e = .returned (.tuple #[.int .i64 (valB (H.take n)), rV s a' y', .int .i64 0]) ∧ HeldV w' y' (H.drop n) ∧ HiV base y' ∧ Below w.heap.size w w'
theorem bit_range (l : List Int) (h : bitL l) (m : Nat) (hm : l.length ≤ m) : 0 ≤ valB l ∧ valB l < 2 ^ m := by
  have r := valB_range l h
  have e := two_le l.length m hm
  exact ⟨r.1, by omega⟩
theorem heldOf {w : World} {b g c k N : Nat} {H : List Int} (hN : N = H.length) (h : OwnI w b (.slice (some ⟨g, 0, none⟩) N c) H) : ∀ j (hj : j < (H.drop k).length), g < w.heap.size ∧ w.cell? ⟨g, k + j, none⟩ = some (.int .i64 (H.drop k)[j]) := by
  intro j hj
  have hkj : k + j < H.length := by simp at hj; omega
  obtain ⟨g', c', e1, _, hcell⟩ := h.at_ hkj
  injection e1 with e2 _ _
  injection e2 with e3
  injection e3 with e4
  subst e4
  exact ⟨(h.lt g rfl).2, by rw [hcell]; simp⟩
set_option maxHeartbeats 3200000 in
theorem refBits_ok (s : ByteArray) (a : Nat) (y : Value) (H : List Int) (n : Nat) (hs : s.size ≤ 1000000) (ha : a ≤ 1000000) (hn : n ≤ 16) (hH : H.length < 8) (hb : bitL H) (w : World) (hy : HeldV w y H) :
    Calls Try.prog 19 #[rV s a y, .int .i64 n] w fun e w' => Hid (refBR s a y n w.heap.size (rdB s n 3 H a) w e w') := by
  unfold rV
  have HY := Lib.hid hy
  obtain ⟨A, c, rfl⟩ := hy.form
  have HBL := Lib.hid hb
  clear hy hb
  go_enter Try.func19, Try.ntmps19
  have HYW : Hid (HeldV ((w.alloc (.cells #[.string s, .int .i64 a, .slice A H.length c] 48)).alloc (.cells #[.string { data := #[] }, .int .i64 0, .slice none 0 0] 48)) (.slice A H.length c) H) := Lib.hid (HY.out.bel (((Below.refl _ _).alloc (Nat.le_refl _) _).alloc (by simp) _))
  obtain ⟨b0, b1, b2⟩ : Blk ((w.alloc (.cells #[.string s, .int .i64 a, .slice A H.length c] 48)).alloc (.cells #[.string { data := #[] }, .int .i64 0, .slice none 0 0] 48)) w.heap.size 48 #[.string s, .int .i64 a, .slice A H.length c] ∧ Blk ((w.alloc (.cells #[.string s, .int .i64 a, .slice A H.length c] 48)).alloc (.cells #[.string { data := #[] }, .int .i64 0, .slice none 0 0] 48)) (w.heap.size + 1) 48 #[.string { data := #[] }, .int .i64 0, .slice none 0 0] ∧ Below w.heap.size w ((w.alloc (.cells #[.string s, .int .i64 a, .slice A H.length c] 48)).alloc (.cells #[.string { data := #[] }, .int .i64 0, .slice none 0 0] 48)) := ⟨(Blk.new _ _ _).alloc _, Blk.nw (by simp), ((Below.refl _ _).alloc (Nat.le_refl _) _).alloc (by simp) _⟩
  have G1 := Lib.hid b0; have G2 := Lib.hid b1; have HB := Lib.hid b2
  clear b0 b1 b2
  go_wp2_with (first | (at_builtin; refine appIH rfl (.tmp 20) (.tmp 22) rfl rfl rfl (OwnI.nil _ w.heap.size) HYW.out (by simp; omega) HB.out.size ?_; intro v1 w1 hO1 hk1 _ hb1; have HO1 : Hid (OwnI w1 w.heap.size v1 H) := Lib.hid (by simpa using hO1); have q1 := hk1 _ _ _ (by decide) G1.out; have q2 := hk1 _ _ _ (by decide) G2.out; have HB1 := Lib.hid (HB.out.trans hb1); have z1 : w1.cell? ⟨w.heap.size, 1, none⟩ = some (.int .i64 a) := q1.cell 1; have K1 := Lib.hid q1; have K2 := Lib.hid q2; clear hO1 hk1 hb1 HYW G1 G2 HB q1 q2))
  clear z1
  obtain ⟨A0, c0, e0, _⟩ := HO1.out.form
  subst e0
  go_loopw [7, 8] (fun hv av wr => ∃ (f a1 N1 : Nat) (H1 : List Int) (A1 : Option Addr) (c1 : Nat), f ≤ 3 ∧ N1 ≤ 31 ∧ n ≤ N1 + 8 * f ∧ a1 + 2 * f ≤ 1000006 ∧ hv = .slice A1 N1 c1 ∧ av = .int .i64 a1 ∧ N1 ≤ c1 ∧ Hid (N1 = H1.length) ∧ Hid (bitL H1) ∧ Hid (OwnI wr w.heap.size (.slice A1 N1 c1) H1) ∧ Hid (rdB s n 3 H a = rdB s n f H1 a1) ∧ Hid (Blk wr w.heap.size 48 #[.string s, .int .i64 a, .slice A H.length c]) ∧ Hid (Blk wr (w.heap.size + 1) 48 #[.string { data := #[] }, .int .i64 0, .slice none 0 0]) ∧ Hid (Below w.heap.size w wr)) (fun hv _ _ => 40 - sliceN hv)
  case atStart => exact ⟨3, a, H.length, H, A0, c0, by omega, by omega, by omega, by omega, rfl, rfl, by omega, Lib.hid rfl, HBL, HO1, Lib.hid rfl, K1, K2, HB1⟩
  case round =>
    obtain ⟨f, a1, N1, H1, A1, c1, hf, hN1, hn1, ha1, rfl, rfl, hc1, hNL, hBL, HO, hR, G1, G2, HB⟩ := hrel
    have x0 : wr.cell? ⟨w.heap.size, 0, none⟩ = some (.string s) := G1.out.cell 0
    by_cases hlt : N1 < n
    · obtain ⟨f', rfl⟩ : ∃ f', f = f' + 1 := ⟨f - 1, by omega⟩
      have hrs : rdB s n (f' + 1) H1 a1 = (if (wholeV s a1).2 = 0 then none else rdB s n f' (H1 ++ bitsN 8 (wholeV s a1).1) (a1 + (wholeV s a1).2)) := by rw [rdB, if_pos (by rw [← hNL.out]; exact hlt)]
      have hwr := wholeV_range s a1
      by_cases hz : (wholeV s a1).2 = 0
      · have HRS : Hid (rdB s n 3 H a = none) := Lib.hid (by rw [hR.out, hrs, if_pos hz])
        have HBA := Lib.hid (byteAt_no s a1 (by omega) (by omega) hz)
        clear hrs hwr hz
        go_wp2_with (first | (go_at_call 27; refine (HBA.out _).mono ?_; rintro e w3 ⟨rfl, rfl⟩))
        refine region_plan (.run [0, 1] (.ev 2 (.run [3] .fin))) (fun w' => True) (by kernel_rfl) trivial ?_
        intro wd hwd
        have G1 := Lib.hid (G1.out.drewE hwd)
        have G2 := Lib.hid (G2.out.drewE hwd)
        have HB := Lib.hid (belowD HB.out hwd)
        have x0 : wd.cell? ⟨w.heap.size, 0, none⟩ = some (.string s) := G1.out.cell 0
        have x1 : wd.cell? ⟨w.heap.size, 1, none⟩ = some (.int .i64 a) := G1.out.cell 1
        have x2 : wd.cell? ⟨w.heap.size, 2, none⟩ = some (.slice A H.length c) := G1.out.cell 2
        clear hwd
        refine plan_run fun m hm => ?_
        simp only [pickO, List.filterMap_cons, List.filterMap_nil, List.getElem?_toArray, List.getElem?_cons_zero, List.getElem?_cons_succ] at hm
        subst hm
        go_wp2_with fail
        refine ⟨rfl, by rfl, ?_⟩
        refine plan_ev fun m hm => ?_
        simp only [pickO, List.filterMap_cons, List.filterMap_nil, List.getElem?_toArray, List.getElem?_cons_zero, List.getElem?_cons_succ] at hm
        subst hm
        refine wpList_store_far rfl 48 (.tmp 5) (.tmp 39) rfl (w.heap.size + 1) #[.string s, .int .i64 a, .slice A H.length c] _ 48 rfl rfl G2.out (by kernel_rfl) rfl (by simp [Value.oneCell']) ?_
        intro wS hS2 hf hb hsz _
        have c1 : wS.cell? ⟨w.heap.size + 1, 0, none⟩ = some (.string s) := hS2.cell 0
        have c2 : wS.cell? ⟨w.heap.size + 1, 1, none⟩ = some (.int .i64 a) := hS2.cell 1
        have c3 : wS.cell? ⟨w.heap.size + 1, 2, none⟩ = some (.slice A H.length c) := hS2.cell 2
        have HBS := Lib.hid (hb w.heap.size w (by omega) HB.out)
        clear hS2 hf hb
        refine ⟨rfl, trivial, ?_⟩
        try simp only [Act.put, List.setIfInBounds_toArray, List.set_cons_zero, List.set_cons_succ]
        refine plan_run fun m hm => ?_
        simp only [pickO, List.filterMap_cons, List.filterMap_nil, List.getElem?_toArray, List.getElem?_cons_zero, List.getElem?_cons_succ] at hm
        subst hm
        go_wp2_with fail
        refine ⟨rfl, by rfl, ?_⟩
        refine plan_fin ?_
        go_wp2
        refine bodyPost_ret (v := .tuple #[.int .i64 0, .agg #[.string s, .int .i64 a, .slice A H.length c], .int .i64 2]) (by simp [results, Try.results19, go_sem, c1, c2, c3]) rfl ?_
        rw [HRS.out]
        exact Lib.hid ⟨rfl, HBS.out⟩
      · have HRS : Hid (rdB s n 3 H a = rdB s n f' (H1 ++ bitsN 8 (wholeV s a1).1) (a1 + (wholeV s a1).2)) := Lib.hid (by rw [hR.out, hrs, if_neg hz])
        have HBA := Lib.hid (byteAt_yes s a1 (by omega) (by omega) hz)
        obtain ⟨z, hzz⟩ : ∃ z, z = (wholeV s a1).2 := ⟨_, rfl⟩
        rw [← hzz] at HRS HBA hz hwr
        have hz3 := hwr.2.2
        have gz : (((z : Nat) : Int) == 0) = false := by simp; exact hz
        clear hrs hwr hzz hz
        go_wp2_with (first | (go_at_call 27; refine (HBA.out _).mono ?_; intro e w3 hp; obtain ⟨y3, rfl, hO3, hb3⟩ := hp.out; have HO3 := Lib.hid (hO3.mono HB.out.size); have HX := Lib.hid (HO.out.bel hb3); have G13 := Lib.hid (G1.out.bel hb3); have G23 := Lib.hid (G2.out.bel hb3); have HB3 := Lib.hid (HB.out.trans (hb3.mono HB.out.size)); clear hO3 hb3 hp) | (at_builtin; refine appIL rfl (.tmp 40) (.tmp 41) rfl rfl rfl HX.out HO3.out (by rw [bitsN_len, ← hNL.out]; omega) HB3.out.size ?_; intro y4 w4 hO4 hk4 _ hb4; obtain ⟨A4, c4, e4, hc4⟩ := hO4.form; have e5 : (H1 ++ bitsN 8 (wholeV s a1).1).length = N1 + 8 := (by rw [List.length_append, bitsN_len, ← hNL.out]); have e6 : y4 = .slice A4 (N1 + 8) c4 := e4.trans (congrArg (fun q => Value.slice A4 q c4) e5); have hc6 : N1 + 8 ≤ c4 := (by omega); clear e4 hc4; subst e6; have HO4 := Lib.hid hO4; have G14 := Lib.hid (hk4 _ _ _ (by decide) G13.out); have G24 := Lib.hid (hk4 _ _ _ (by decide) G23.out); have HB4 := Lib.hid (HB3.out.trans hb4); have HE5 := Lib.hid e5; clear hO4 hk4 hb4 e5))
        exact ⟨⟨f', a1 + z, N1 + 8, H1 ++ bitsN 8 (wholeV s a1).1, A4, c4, by omega, by omega, by omega, by omega, rfl, by go_num, by omega, Lib.hid HE5.out.symm, Lib.hid (hBL.out.app (bitsN_bit 8 _)), HO4, HRS, G14, G24, HB4⟩, by simp [sliceN]; omega⟩
    · have HRS : Hid (rdB s n 3 H a = some (H1, a1)) := Lib.hid (by
        rw [hR.out]
        cases f with
        | zero => rfl
        | succ f => rw [rdB, if_neg (by rw [← hNL.out]; exact hlt)])
      clear hR
      go_wp2_with fail
      go_loopw [11, 12] (fun v i wq => ∃ (k : Nat) (V : Int), k ≤ n ∧ v = .int .i64 V ∧ i = .int .i64 k ∧ 0 ≤ V ∧ V < 65536 ∧ Hid (V = valB (H1.take k)) ∧ wq = wr) (fun _ i _ => n - (intOf i).toNat)
      case atStart => exact ⟨0, 0, by omega, rfl, rfl, by decide, by decide, Lib.hid (by simp [valB]), by first | rfl | trivial⟩
      case round =>
        obtain ⟨k, V, hk, rfl, rfl, hV0, hV1, hV, rfl⟩ := hrel
        by_cases hkn : k < n
        · have hkl : k < H1.length := by rw [← hNL.out]; omega
          obtain ⟨g, c', e1, _, hcell⟩ := HO.out.at_ hkl
          injection e1 with e2 _ _
          subst e2
          have hbk := hBL.out H1[k] (List.getElem_mem hkl)
          have hsn : valB (H1.take (k + 1)) = V * 2 + H1[k] := by rw [List.take_succ_eq_append_getElem hkl, valB_snoc, hV.out]
          have hrg := bit_range (H1.take (k + 1)) (hBL.out.take _) 16 (by simp; omega)
          have e16 : (2 : Int) ^ 16 = 65536 := by decide
          rw [hsn, e16] at hrg
          obtain ⟨b, hbb⟩ : ∃ b, b = H1[k] := ⟨_, rfl⟩
          rw [← hbb] at hcell hbk hsn hrg
          have HSN := Lib.hid hsn
          clear hbb hsn e16
          go_wp2
          exact ⟨⟨k + 1, V * 2 + b, by omega, by go_num, by go_num, by omega, by omega, Lib.hid HSN.out.symm, by first | rfl | trivial⟩, by simp [intOf]; omega⟩
        · obtain rfl : k = n := by omega
          have g17 : (wr.cell? ⟨w.heap.size, 0, none⟩ = some (.string s)) := G1.out.cell 0
          cases A1 with
          | none =>
            obtain ⟨e1, e2⟩ : N1 = 0 ∧ c1 = 0 := by
              rcases HO.out.2 with ⟨h, _⟩ | ⟨g, cap, cur, h, _⟩
              · injection h with _ h1 h2; exact ⟨h1, h2⟩
              · injection h with h1; cases h1
            subst e1 e2
            obtain rfl : k = 0 := by omega
            have hd0 : H1 = [] := List.eq_nil_of_length_eq_zero hNL.out.symm
            have HD0 := Lib.hid hd0
            clear hd0
            go_wp2_with fail
            refine region_plan (.run [0, 1, 2, 3, 4, 5, 6, 7, 8] (.ev 9 (.run [10] .fin))) (fun w' => True) (by kernel_rfl) trivial ?_
            intro wd hwd
            have G2 := Lib.hid (G2.out.drewE hwd)
            have HO := Lib.hid (HO.out.drewE hwd)
            have HB := Lib.hid (belowD HB.out hwd)
            have x0 : wd.cell? ⟨w.heap.size, 0, none⟩ = some (.string s) := (G1.out.drewE hwd).cell 0
            clear hwd
            refine plan_run fun m hm => ?_
            simp only [pickO, List.filterMap_cons, List.filterMap_nil, List.getElem?_toArray, List.getElem?_cons_zero, List.getElem?_cons_succ] at hm
            subst hm
            go_wp2_with fail
            refine ⟨rfl, by rfl, ?_⟩
            refine plan_ev fun m hm => ?_
            simp only [pickO, List.filterMap_cons, List.filterMap_nil, List.getElem?_toArray, List.getElem?_cons_zero, List.getElem?_cons_succ] at hm
            subst hm
            refine wpList_store_far rfl 48 (.tmp 5) (.tmp 65) rfl (w.heap.size + 1) #[.string s, .int .i64 a1, .slice none 0 0] _ 48 rfl rfl G2.out (by kernel_rfl) rfl (by simp [Value.oneCell']) ?_
            intro wS hS2 hf hb hsz _
            have s1 : wS.cell? ⟨w.heap.size + 1, 0, none⟩ = some (.string s) := hS2.cell 0
            have s2 : wS.cell? ⟨w.heap.size + 1, 1, none⟩ = some (.int .i64 a1) := hS2.cell 1
            have s3 : wS.cell? ⟨w.heap.size + 1, 2, none⟩ = some (.slice none 0 0) := hS2.cell 2
            have HBS := Lib.hid (hb w.heap.size w (by omega) HB.out)
            have HOS := Lib.hid (HO.out.keep fun g' cs hB => hf _ _ _ (hB.ne G2.out (by decide)) hB)
            clear hS2 hf hb
            refine ⟨rfl, trivial, ?_⟩
            try simp only [Act.put, List.setIfInBounds_toArray, List.set_cons_zero, List.set_cons_succ]
            refine plan_run fun m hm => ?_
            simp only [pickO, List.filterMap_cons, List.filterMap_nil, List.getElem?_toArray, List.getElem?_cons_zero, List.getElem?_cons_succ] at hm
            subst hm
            go_wp2_with fail
            refine ⟨rfl, by rfl, ?_⟩
            refine plan_fin ?_
            go_wp2
            refine bodyPost_ret (v := .tuple #[.int .i64 V, .agg #[.string s, .int .i64 a1, .slice none 0 0], .int .i64 0]) (by simp [results, Try.results19, go_sem, s1, s2, s3]) rfl ?_
            rw [HRS.out]
            exact Lib.hid ⟨.slice none 0 0, by rw [hV.out]; rfl, Or.inl ⟨rfl, by rw [HD0.out]; rfl⟩, (fun _ _ _ _ e => by injection e with h; cases h), HBS.out⟩
          | some ad =>
            obtain ⟨g, hg⟩ : ∃ g, ad = ⟨g, 0, none⟩ := by
              rcases HO.out.2 with ⟨h, _⟩ | ⟨g, cap, cur, h, _⟩
              · injection h with h1; cases h1
              · injection h with h1; injection h1 with h2; exact ⟨g, h2⟩
            subst hg
            by_cases hck : c1 = k
            · subst hck
              have hNc : N1 = c1 := by omega
              subst hNc
              go_wp2_with fail
              refine region_plan (.run [0, 1, 2, 3, 4, 5, 6, 7, 8] (.ev 9 (.run [10] .fin))) (fun w' => True) (by kernel_rfl) trivial ?_
              intro wd hwd
              have G2 := Lib.hid (G2.out.drewE hwd)
              have HO := Lib.hid (HO.out.drewE hwd)
              have HB := Lib.hid (belowD HB.out hwd)
              have x0 : wd.cell? ⟨w.heap.size, 0, none⟩ = some (.string s) := (G1.out.drewE hwd).cell 0
              clear hwd
              refine plan_run fun m hm => ?_
              simp only [pickO, List.filterMap_cons, List.filterMap_nil, List.getElem?_toArray, List.getElem?_cons_zero, List.getElem?_cons_succ] at hm
              subst hm
              go_wp2_with fail
              refine ⟨rfl, by rfl, ?_⟩
              refine plan_ev fun m hm => ?_
              simp only [pickO, List.filterMap_cons, List.filterMap_nil, List.getElem?_toArray, List.getElem?_cons_zero, List.getElem?_cons_succ] at hm
              subst hm
              refine wpList_store_far rfl 48 (.tmp 5) (.tmp 65) rfl (w.heap.size + 1) #[.string s, .int .i64 a1, .slice (some ⟨g, 0, none⟩) 0 0] _ 48 rfl rfl G2.out (by kernel_rfl) rfl (by simp [Value.oneCell']) ?_
              intro wS hS2 hf hb hsz _
              have s1 : wS.cell? ⟨w.heap.size + 1, 0, none⟩ = some (.string s) := hS2.cell 0
              have s2 : wS.cell? ⟨w.heap.size + 1, 1, none⟩ = some (.int .i64 a1) := hS2.cell 1
              have s3 : wS.cell? ⟨w.heap.size + 1, 2, none⟩ = some (.slice (some ⟨g, 0, none⟩) 0 0) := hS2.cell 2
              have HBS := Lib.hid (hb w.heap.size w (by omega) HB.out)
              have HOS := Lib.hid (HO.out.keep fun g' cs hB => hf _ _ _ (hB.ne G2.out (by decide)) hB)
              clear hS2 hf hb
              refine ⟨rfl, trivial, ?_⟩
              try simp only [Act.put, List.setIfInBounds_toArray, List.set_cons_zero, List.set_cons_succ]
              refine plan_run fun m hm => ?_
              simp only [pickO, List.filterMap_cons, List.filterMap_nil, List.getElem?_toArray, List.getElem?_cons_zero, List.getElem?_cons_succ] at hm
              subst hm
              go_wp2_with fail
              refine ⟨rfl, by rfl, ?_⟩
              refine plan_fin ?_
              go_wp2
              refine bodyPost_ret (v := .tuple #[.int .i64 V, .agg #[.string s, .int .i64 a1, .slice (some ⟨g, 0, none⟩) 0 0], .int .i64 0]) (by simp [results, Try.results19, go_sem, s1, s2, s3]) rfl ?_
              rw [HRS.out]
              exact Lib.hid ⟨.slice (some ⟨g, 0, none⟩) 0 0, by rw [hV.out]; rfl, Or.inr ⟨g, 0, 0, by simp [← hNL.out], by simp [← hNL.out], (fun j hj => by simp [← hNL.out] at hj)⟩, (fun _ _ _ _ e => by injection e with h; injection h with h; injection h with h; subst h; exact (HOS.out.lt _ rfl).1), HBS.out⟩
            · have hkc : ¬ (k = c1) := fun e => hck e.symm
              go_wp2_with fail
              refine region_plan (.run [0, 1, 2, 3, 4, 5, 6, 7, 8] (.ev 9 (.run [10] .fin))) (fun w' => True) (by kernel_rfl) trivial ?_
              intro wd hwd
              have G2 := Lib.hid (G2.out.drewE hwd)
              have HO := Lib.hid (HO.out.drewE hwd)
              have HB := Lib.hid (belowD HB.out hwd)
              have x0 : wd.cell? ⟨w.heap.size, 0, none⟩ = some (.string s) := (G1.out.drewE hwd).cell 0
              clear hwd
              refine plan_run fun m hm => ?_
              simp only [pickO, List.filterMap_cons, List.filterMap_nil, List.getElem?_toArray, List.getElem?_cons_zero, List.getElem?_cons_succ] at hm
              subst hm
              go_wp2_with fail
              refine ⟨rfl, by rfl, ?_⟩
              refine plan_ev fun m hm => ?_
              simp only [pickO, List.filterMap_cons, List.filterMap_nil, List.getElem?_toArray, List.getElem?_cons_zero, List.getElem?_cons_succ] at hm
              subst hm
              refine wpList_store_far rfl 48 (.tmp 5) (.tmp 65) rfl (w.heap.size + 1) #[.string s, .int .i64 a1, .slice (some ⟨g, k, none⟩) (N1 - k) (c1 - k)] _ 48 rfl rfl G2.out (by kernel_rfl) rfl (by simp [Value.oneCell']) ?_
              intro wS hS2 hf hb hsz _
              have s1 : wS.cell? ⟨w.heap.size + 1, 0, none⟩ = some (.string s) := hS2.cell 0
              have s2 : wS.cell? ⟨w.heap.size + 1, 1, none⟩ = some (.int .i64 a1) := hS2.cell 1
              have s3 : wS.cell? ⟨w.heap.size + 1, 2, none⟩ = some (.slice (some ⟨g, k, none⟩) (N1 - k) (c1 - k)) := hS2.cell 2
              have HBS := Lib.hid (hb w.heap.size w (by omega) HB.out)
              have HOS := Lib.hid (HO.out.keep fun g' cs hB => hf _ _ _ (hB.ne G2.out (by decide)) hB)
              clear hS2 hf hb
              refine ⟨rfl, trivial, ?_⟩
              try simp only [Act.put, List.setIfInBounds_toArray, List.set_cons_zero, List.set_cons_succ]
              refine plan_run fun m hm => ?_
              simp only [pickO, List.filterMap_cons, List.filterMap_nil, List.getElem?_toArray, List.getElem?_cons_zero, List.getElem?_cons_succ] at hm
              subst hm
              go_wp2_with fail
              refine ⟨rfl, by rfl, ?_⟩
              refine plan_fin ?_
              go_wp2
              refine bodyPost_ret (v := .tuple #[.int .i64 V, .agg #[.string s, .int .i64 a1, .slice (some ⟨g, k, none⟩) (N1 - k) (c1 - k)], .int .i64 0]) (by simp [results, Try.results19, go_sem, s1, s2, s3]) rfl ?_
              rw [HRS.out]
              exact Lib.hid ⟨.slice (some ⟨g, k, none⟩) (N1 - k) (c1 - k), by rw [hV.out]; rfl, Or.inr ⟨g, k, c1 - k, by simp [← hNL.out], by simp [← hNL.out]; omega, (heldOf hNL.out HOS.out)⟩, (fun _ _ _ _ e => by injection e with h; injection h with h; injection h with h; subst h; exact (HOS.out.lt _ rfl).1), HBS.out⟩
end Go.Proofs.Ytaofponadaifiaa

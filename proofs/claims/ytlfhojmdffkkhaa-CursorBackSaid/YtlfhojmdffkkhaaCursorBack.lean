/- What was put is read again. No condition. -/
import Derived.Test.YtlfhojmdffkkhaaCurD
import Derived.Test.YtlfhojmdffkkhaaCurE
import Derived.Test.YtlfhojmdffkkhaaOwnI
import Derived.Test.YtlfhojmdffkkhaaInI
import Derived.ShutString
import Derived.ChangeOld
import Derived.SizedLaws
namespace Go.Proofs.Ytlfhojmdffkkhaa
open Go.RowKit
set_option linter.unusedSimpArgs false
set_option linter.unusedVariables false
theorem bsize (l : List UInt8) : (⟨l.toArray⟩ : ByteArray).size = l.length := by simp [ByteArray.size]
theorem back_facts (m : Nat) (f : Nat → Int) (n : Nat) (S : ByteArray) (hS : S = ⟨(bysL m (fl m f n)).toArray⟩) :
    S.size = m * (fl m f n).length ∧ ∀ j, j < (fl m f n).length → 0 ≤ (fl m f n).getD j 0 ∧ (fl m f n).getD j 0 < 256 ^ m ∧ S.extract (m * j) (m * j + m) = ⟨(byL ((fl m f n).getD j 0) m).toArray⟩ ∧ m * j + m ≤ S.size := by
  subst hS
  refine ⟨by rw [bsize, bysL_len], fun j hj => ?_⟩
  have e : (fl m f n).getD j 0 = (fl m f n)[j] := by simp [List.getD_eq_getElem?_getD, hj]
  rw [e]
  have h := fl_ok m f n j hj
  refine ⟨h.1, h.2, cut_bytes m _ j hj, ?_⟩
  rw [bsize, bysL_len]
  calc m * j + m = m * (j + 1) := by rw [Nat.mul_succ]
    _ ≤ _ := Nat.mul_le_mul_left _ hj
theorem num_cut (m : Nat) (h1 : 1 ≤ m) (h4 : m ≤ 4) (w : World) (g a b : Nat) (S : ByteArray) (x : Int) (hs : S.size ≤ 400) (h : Cur w g S a) (hb : b = a + m) (hn : b ≤ S.size) (hx0 : 0 ≤ x) (hx : x < 256 ^ m) (he : S.extract a b = ⟨(byL x m).toArray⟩) :
    Calls Try.prog 12 #[.pointer (some ⟨g, 0, none⟩), .int .i64 m] w fun e w' => e = .returned (.tuple #[.int .i64 x, .int .i64 0]) ∧ Cur w' g S b ∧ Only g w w' := by
  subst hb
  refine (num_ok m h1 h4 w g a S (by omega) h hn).mono fun e w' h' => ?_
  rw [he] at h'
  have e1 : numL (⟨(byL x m).toArray⟩ : ByteArray).data.toList = x := numL_byL x m hx0 hx
  rw [e1] at h'
  exact h'
set_option maxHeartbeats 3200000 in
theorem back_ok (A : Option Addr) (n c m : Nat) (f : Nat → Int) (hnc : n ≤ c) (hn : n ≤ 100) (h1 : 1 ≤ m) (h4 : m ≤ 4) (w : World) (hI : InI w A n f) :
    Calls Try.prog 4 #[.slice A n c, .int .i64 m] w fun e w' => e = .returned (.bool true) ∧ Below w.heap.size w w' := by
  have HI := Lib.hid hI; clear hI
  go_enter Try.func4, Try.ntmps4
  go_wp2_with fail
  go_loopw [5, 6, 7] (fun s v i wr => ∃ k : Nat, k ≤ n ∧ i = .int .i64 k ∧ (∃ S : ByteArray, s = .string S ∧ S.size ≤ 4 * k ∧ Hid (S = ⟨(bysL m (fl m f k)).toArray⟩)) ∧ Hid (OwnI wr w.heap.size v (fl m f k)) ∧ Hid (Below w.heap.size w wr)) (fun _ _ i _ => n - (intOf i).toNat)
  case atStart => exact ⟨0, by omega, rfl, ⟨_, rfl, by decide, Lib.hid rfl⟩, Lib.hid (OwnI.nil _ _), Lib.hid (Below.refl _ _)⟩
  case round =>
    obtain ⟨k, hk, rfl, ⟨S, rfl, hS4, hS⟩, hO, hb⟩ := hrel
    by_cases hlt : k < n
    · obtain ⟨b, off, rfl, hbl, hcell, hwf⟩ := HI.out k hlt
      obtain ⟨x, hx⟩ : ∃ x, x = f k := ⟨_, rfl⟩
      rw [← hx] at hcell
      have hcw := (hb.out.cell (p := ⟨b, off + k, none⟩) hbl).trans hcell
      have hbl2 : b < wr.heap.size := Nat.lt_of_lt_of_le hbl hb.out.size
      have HL := Lib.hid (fl_le m f k)
      clear hcell hwf hbl
      by_cases hp : okP m (f k) = true
      · have hp2 : 0 ≤ x ∧ x < 256 ^ m := by rw [hx]; simpa [okP] using hp
        obtain ⟨T, hT⟩ : ∃ T : ByteArray, T = ⟨(byL x m).toArray⟩ := ⟨_, rfl⟩
        have hTs : T.size = m := by rw [hT, bsize, byL_length]
        have hP : ∀ w, Calls Try.prog 8 #[.int .i64 x, .int .i64 m] w fun e w' => e = .returned (.tuple #[.string T, .int .i64 0]) ∧ Below w.heap.size w w' := by rw [hT]; exact fun w => put_ok x m h1 h4 hp2.1 hp2.2 w
        have HP := Lib.hid hP; clear hP hp2
        have HT := Lib.hid hT; clear hT
        have HX := Lib.hid hx; clear hx
        have Hp := Lib.hid hp; clear hp
        go_wp2_with (first | (go_at_call 8; refine (HP.out _).mono ?_; rintro e w1 ⟨rfl, hb1⟩; have hc1 : w1.cell? ⟨b, off + k, none⟩ = some (.int .i64 x) := (hb1.cell (p := ⟨b, off + k, none⟩) hbl2).trans hcw; have HB1 := Lib.hid hb1; clear hb1 hcw) | (at_builtin; refine appI rfl (.tmp 40) (.tmp 45) rfl x rfl rfl (hO.out.bel HB1.out) (by have := HL.out; omega) (Nat.le_trans hb.out.size HB1.out.size) ?_; intro v' w2 hO1 hg1 hb2; have HO1 := Lib.hid hO1; have HB2 := Lib.hid ((hb.out.trans (HB1.out.mono hb.out.size)).trans hb2); clear hO1 hg1 hb2))
        refine ⟨⟨k + 1, by omega, by go_num, ⟨S ++ T, rfl, by rw [ByteArray.size_append]; omega, Lib.hid ?_⟩, Lib.hid ?_, HB2⟩, by simp [intOf]; omega⟩
        · rw [fl_yes m f k Hp.out, bysL_snoc, ← HX.out, hS.out, HT.out]
          apply ByteArray.ext
          simp
        · rw [fl_yes m f k Hp.out, ← HX.out]
          exact HO1.out
      · have hp3 : okP m (f k) = false := by simpa using hp
        have hp2 : x < 0 ∨ 256 ^ m ≤ x := by
          rw [hx]
          have : ¬ (0 ≤ f k ∧ f k < 256 ^ m) := by simpa [okP] using hp
          omega
        have hP : ∀ w, Calls Try.prog 8 #[.int .i64 x, .int .i64 m] w fun e w' => e = .returned (.tuple #[.string ⟨#[]⟩, .int .i64 11]) ∧ w = w' := fun w => put_large x m h1 h4 hp2 w
        have HP := Lib.hid hP; clear hP hp2 hp
        have HX := Lib.hid hx; clear hx
        have Hp := Lib.hid hp3; clear hp3
        go_wp2_with (first | (go_at_call 8; refine (HP.out _).mono ?_; rintro e w1 ⟨rfl, rfl⟩))
        refine ⟨⟨k + 1, by omega, by go_num, ⟨S, rfl, by omega, Lib.hid ?_⟩, Lib.hid ?_, hb⟩, by simp [intOf]; omega⟩
        · rw [fl_no m f k Hp.out]; exact hS.out
        · rw [fl_no m f k Hp.out]; exact hO.out
    · obtain rfl : k = n := by omega
      obtain ⟨wo, rfl⟩ : ∃ wo : World, wo = wr := ⟨_, rfl⟩
      obtain ⟨A2, c2, ev, hc2, hr⟩ := hO.out.row (fun j => (fl m f k).getD j 0) (fun j hj => by simp [List.getD_eq_getElem?_getD, hj])
      have hq1 : (fl m f k).length ≤ 100 := Nat.le_trans (fl_le m f k) hn
      obtain ⟨hSz, hF⟩ := back_facts m f k S hS.out
      obtain ⟨r, hr2⟩ : ∃ r : Nat → Int, r = fun j => (fl m f k).getD j 0 := ⟨_, rfl⟩
      have hF2 : ∀ j, j < (fl m f k).length → 0 ≤ r j ∧ r j < 256 ^ m ∧ S.extract (m * j) (m * j + m) = ⟨(byL (r j) m).toArray⟩ ∧ m * j + m ≤ S.size := by rw [hr2]; exact hF
      rw [← hr2] at hr
      obtain ⟨q, hqe⟩ : ∃ q, q = (fl m f k).length := ⟨_, rfl⟩
      rw [← hqe] at ev hc2 hr hq1 hSz hF2
      subst ev
      have HF := Lib.hid hF2; clear hF2 hF hr2
      have HR := Lib.hid hr; clear hr
      have HZ := Lib.hid hSz; clear hSz
      have HQ := Lib.hid hqe; clear hqe
      clear hS hO
      go_wp2_with (first | (go_at_call 11; refine (new_walk S _).mono ?_; rintro e w2 ⟨rfl, hC, hb2, hz⟩; have HC := Lib.hid hC; have HB := Lib.hid hb2; clear hC hb2))
      go_loopw [11] (fun i wr => ∃ j : Nat, j ≤ q ∧ i = .int .i64 j ∧ Hid (Cur wr wo.heap.size S (m * j)) ∧ Hid (Below wo.heap.size wo wr)) (fun i _ => q - (intOf i).toNat)
      case atStart => exact ⟨0, by omega, rfl, HC, HB⟩
      case round =>
        obtain ⟨j, hj, rfl, hC, hbr⟩ := hrel
        by_cases hjq : j < q
        · obtain ⟨hx0, hx1, hcut, hle⟩ := HF.out j hjq
          obtain ⟨b2, rfl, hgb, hgl, hcell⟩ := HR.out j hjq
          obtain ⟨x, hx⟩ : ∃ x, x = r j := ⟨_, rfl⟩
          obtain ⟨a, ha⟩ : ∃ a, a = m * j := ⟨_, rfl⟩
          obtain ⟨b, hb'⟩ : ∃ b, b = a + m := ⟨_, rfl⟩
          rw [← ha, ← hb', ← hx] at hcut
          rw [← ha, ← hb'] at hle
          rw [← hx] at hx0 hx1 hcell
          have hCa : Cur wr wo.heap.size S a := by rw [ha]; exact hC.out
          have hbm : b = m * (j + 1) := by rw [hb', ha, Nat.mul_succ]
          obtain ⟨T, hT⟩ : ∃ T : ByteArray, T = ⟨(byL x m).toArray⟩ := ⟨_, rfl⟩
          have hTs : T.size = m := by rw [hT, bsize, byL_length]
          have HN := Lib.hid (num_cut m h1 h4 wr wo.heap.size a b S x (by omega) hCa hb' hle hx0 hx1 hcut)
          have hP : ∀ w, Calls Try.prog 8 #[.int .i64 x, .int .i64 m] w fun e w' => e = .returned (.tuple #[.string T, .int .i64 0]) ∧ Below w.heap.size w w' := by rw [hT]; exact fun w => put_ok x m h1 h4 hx0 hx1 w
          have HP := Lib.hid hP; clear hP
          rw [← hT] at hcut
          have hcut2 : (!(S.extract a (a + m)).toList == T.toList) = false := by rw [← hb', hcut]; simp
          have HT := Lib.hid hT; clear hT
          have HBM := Lib.hid hbm; clear hbm
          clear ha hx hx0 hx1
          go_wp2_with (first | (go_at_call 12; refine HN.out.mono ?_; rintro e w3 ⟨rfl, hC3, ho3⟩; have HC3 := Lib.hid hC3; have HB3 := Lib.hid (hbr.out.trans (ho3.below (Nat.le_refl _) hbr.out.size)); clear hC3 ho3) | (go_at_call 8; refine (HP.out _).mono ?_; rintro e w4 ⟨rfl, hb4⟩; have HC4 : Hid (Cur w4 wo.heap.size S b) := Lib.hid (HC3.out.bel hb4); have HB4 := Lib.hid (HB3.out.trans (hb4.mono HB3.out.size)); have hc4 : w4.cell? ⟨b2, j, none⟩ = some (.int .i64 x) := (HB4.out.cell (p := ⟨b2, j, none⟩) hgl).trans hcell; clear hb4) | (go_at_call 13; refine (at_walk _ wo.heap.size b S HC4.out).mono ?_; rintro e w5 ⟨rfl, rfl⟩))
          exact ⟨⟨j + 1, by omega, by go_num, Lib.hid (by rw [← HBM.out]; exact HC4.out), HB4⟩, by simp [intOf]; omega⟩
        · obtain rfl : j = q := by omega
          have hC2 : Cur wr wo.heap.size S S.size := by
            have h := hC.out
            rw [← HZ.out] at h
            exact h
          have HC2 := Lib.hid hC2; clear hC2
          go_wp2_with (first | (go_at_call 10; refine (awake_true _).mono ?_; rintro e w5 ⟨rfl, hb5⟩; have HC5 : Hid (Cur w5 wo.heap.size S S.size) := Lib.hid (HC2.out.bel hb5); have HB5 := Lib.hid (hbr.out.trans (hb5.mono hbr.out.size)); clear hb5) | (go_at_call 14; refine (left_walk _ wo.heap.size S.size S (by omega) (Nat.le_refl _) HC5.out).mono ?_; rintro e w6 ⟨rfl, rfl⟩))
          go_ret
          exact ⟨by first | rfl | simp, (hb.out.trans (HB5.out.mono hb.out.size)).drew⟩
set_option maxHeartbeats 1600000 in
theorem back_arg (A : Option Addr) (n c : Nat) (s : Int) (f : Nat → Int) (hnc : n ≤ c) (hn : n ≤ 100) (h : s < 1 ∨ 4 < s) (w : World) (hI : InI w A n f) :
    Calls Try.prog 4 #[.slice A n c, .int .i64 s] w fun e w' => e = .returned (.bool true) ∧ Below w.heap.size w w' := by
  have HI := Lib.hid hI; clear hI
  have hP : ∀ x w, Calls Try.prog 8 #[.int .i64 x, .int .i64 s] w fun e w' => e = .returned (.tuple #[.string ⟨#[]⟩, .int .i64 1]) ∧ w = w' := fun x w => put_arg x s h w
  have HP := Lib.hid hP; clear hP h
  go_enter Try.func4, Try.ntmps4
  go_wp2_with fail
  go_loopw [5, 6, 7] (fun s v i wr => ∃ k : Nat, k ≤ n ∧ i = .int .i64 k ∧ s = .string ⟨#[]⟩ ∧ v = .slice none 0 0 ∧ wr = w) (fun _ _ i _ => n - (intOf i).toNat)
  case atStart => exact ⟨0, by omega, rfl, rfl, rfl, rfl⟩
  case round =>
    obtain ⟨k, hk, rfl, rfl, rfl, rfl⟩ := hrel
    by_cases hlt : k < n
    · obtain ⟨b, off, rfl, hbl, hcell, hwf⟩ := HI.out k hlt
      clear hwf
      go_wp2_with (first | (go_at_call 8; refine (HP.out _ _).mono ?_; rintro e w1 ⟨rfl, rfl⟩))
      exact ⟨⟨k + 1, by omega, by go_num, by first | rfl | trivial, by first | rfl | trivial, by first | rfl | trivial⟩, by simp [intOf]; omega⟩
    · obtain rfl : k = n := by omega
      obtain ⟨wo, rfl⟩ : ∃ wo : World, wo = wr := ⟨_, rfl⟩
      go_wp2_with (first | (go_at_call 11; refine (new_walk ⟨#[]⟩ _).mono ?_; rintro e w2 ⟨rfl, hC, hb2, hz⟩; have HC := Lib.hid hC; have HB := Lib.hid hb2; clear hC hb2))
      go_loopw [11] (fun i w3 => i = .int .i64 0 ∧ w3 = w2) (fun i _ => 0)
      case atStart => exact ⟨rfl, rfl⟩
      case round =>
        obtain ⟨rfl, rfl⟩ := hrel
        go_wp2_with (first | (go_at_call 10; refine (awake_true _).mono ?_; rintro e w5 ⟨rfl, hb5⟩; have HC5 : Hid (Cur w5 wo.heap.size ⟨#[]⟩ 0) := Lib.hid (HC.out.bel hb5); have HB5 := Lib.hid (HB.out.trans (hb5.mono HB.out.size)); clear hb5) | (go_at_call 14; refine (left_walk _ _ 0 ⟨#[]⟩ (by decide) (by decide) HC5.out).mono ?_; rintro e w6 ⟨rfl, rfl⟩))
        go_ret
        exact ⟨by first | rfl | simp, HB5.out.drew⟩
theorem back_long (A : Option Addr) (n c : Nat) (s : Int) (hn : 100 < n) (w : World) :
    Calls Try.prog 4 #[.slice A n c, .int .i64 s] w fun e w' => e = .returned (.bool true) ∧ Below w.heap.size w w' := by
  go_enter Try.func4, Try.ntmps4
  go_wp2_with (first | (go_at_call 10; refine (awake_true _).mono ?_; rintro e w1 ⟨rfl, hb⟩; have HB := Lib.hid hb; clear hb))
  go_ret
  exact ⟨rfl, HB.out⟩
theorem cursorBack_walk (A : Option Addr) (n c : Nat) (s : Int) (f : Nat → Int) (hnc : n ≤ c) (w : World) (hI : InI w A n f) :
    Calls Try.prog 4 #[.slice A n c, .int .i64 s] w fun e w' => e = .returned (.bool true) ∧ Below w.heap.size w w' := by
  by_cases hn : n ≤ 100
  · by_cases h : s < 1 ∨ 4 < s
    · exact back_arg A n c s f hnc hn h w hI
    · obtain ⟨m, rfl⟩ := Int.eq_ofNat_of_zero_le (show 0 ≤ s by omega)
      exact back_ok A n c m f hnc hn (by omega) (by omega) w hI
  · exact back_long A n c s (by omega) w

namespace lawCursorBack
open Go.ChangeShapes Go.WideShapes Go.ChangeAt Go.RowKit
open Go.ChangeMaps (open_string shut_string)
theorem own : ownKnob Try.prog.godebug = none := by kernel_rfl
theorem laidOut : laidOutB Try.prog = true := by kernel_rfl

set_option maxRecDepth 100000 in
theorem lifted (os : Os) (started : os.Started) (H : Type) (enc : TypeId × Value → H) :
    ReturnsInHanded {} Try.checked os 4 .any (Rows.cursorBackSpec.pre6 enc Try.prog Try.f4 Rows.cursorBackRow.domain false) (Rows.cursorBackSpec.post enc Try.prog Try.f4 false true false false) := by
  refine returnsInHanded_of_change_sized (C := Try.checked) own started (by kernel_rfl) Try.func4
    (ChangeSpec.witness6 (enc := enc) (C := Try.checked) false ⟨#[], #[.slice none 0 0, .int .i64 0], []⟩ 8 (by kernel_rfl) (by kernel_rfl) (by kernel_rfl) (by kernel_rfl)) ?_
  intro W base args ds gs before hval0 hW hcnd hsz0 _
  have hsz : (DataW.weightsEach Try.prog (Try.f4.params.toList ++ Rows.cursorBackSpec.plain.varTypes Try.prog) (ds ++ gs)).all (· ≤ reachBytes) = true := hsz0
  have hval : ∀ (j : Nat) t v, Try.f4.params[j]? = some t → args[j]? = some v → Value.okWide Try.prog W .any base t v := hval0
  have hW' := hW
  obtain ⟨p, q, hA0, hV, hbefore, hfz, hnd⟩ := hW
  obtain ⟨rfl, rfl⟩ := trodVars_none hV
  have hA : DataW.TrodAll enc Try.prog W 0 (fun _ => true) true Try.f4.params.toList args.toList ds p := hA0
  rw [Try.params4] at hA hval hsz
  obtain ⟨v0, vs1, d0, ds1, p0, q0, hargs, rfl, hps, h0, r0⟩ := trodAll_cons hA
  obtain ⟨v1, vs2, d1, ds2, p1, q1, rfl, rfl, rfl, h1, r1⟩ := trodAll_cons r0
  obtain ⟨rfl, rfl, rfl⟩ := trodAll_nil r1
  obtain rfl : args = #[v0, v1] := by cases args; simp_all
  have o0 := hval 0 29 v0 rfl rfl
  have o1 := hval 1 3 v1 rfl rfl
  clear hA0 hval0
  obtain ⟨A, n, c, f, rfl, hnc, hI⟩ := openInI o0 h0
  obtain ⟨s, rfl, rfl, rfl, ws⟩ := open_int Try.underlying3 o1 h1
  refine (cursorBack_walk A n c s f hnc W hI).mono fun e W' ⟨he, hb⟩ => ?_
  subst he
  exact ⟨_, rfl, law_post laidOut (by rw [Try.params4]; intro t ht; simp only [List.mem_cons, List.not_mem_nil, or_false] at ht; rcases ht with rfl | rfl <;> exact ⟨by kernel_rfl, of_decide_eq_true (by kernel_rfl)⟩) (by kernel_rfl) Try.underlying4 hW' rfl rfl hb⟩
theorem said : Rows.CursorBackSaid :=
  OpenClaim.holds_of_wide 4 Try.f4 rfl rfl rfl rfl rfl rfl rfl ⟨rfl, rfl, rfl, rfl, rfl⟩ rfl rfl rfl rfl rfl (by kernel_rfl) Try.func4 (by kernel_rfl)
    (of_decide_eq_true (by kernel_rfl)) (by unfold Func.isWrapper; first | (rw [if_pos (by decide +kernel)]; kernel_rfl) | (rw [if_neg (by decide +kernel)]; exact ⟨rfl, rfl⟩))
    (fun os started H enc _ => lifted os started H enc)
#print axioms said
end lawCursorBack
end Go.Proofs.Ytlfhojmdffkkhaa

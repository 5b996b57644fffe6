/- No ff is followed by anything but 00, but where a marker was put. No condition. -/
import Derived.Test.YtidockifeofgfaaStuf
import Derived.Test.YtidockifeofgfaaInS
import Derived.Test.YtidockifeofgfaaReg
import Derived.ShutString
import Derived.ChangeOld
import Derived.SizedLaws
namespace Go.Proofs.Ytidockifeofgfaa
open Go.RowKit
set_option linter.unusedSimpArgs false
set_option linter.unusedVariables false
theorem marks_mono (us : List (List Int)) (j : Nat) : marksOf us j ≤ marksOf us us.length := by
  rw [marksOf_all]
  unfold marksOf
  have e : (us.map uMark).sum = ((us.take j).map uMark).sum + ((us.drop j).map uMark).sum := by
    conv => lhs; rw [← List.take_append_drop j us]
    rw [List.map_append, List.sum_append]
  omega
def KA : Nat → IntKind := fun j => if j = 0 then .u8 else .i64
theorem WS.drew {w : World} {base g k m : Nat} (H : WS w base g k m) : WS w.drew base g k m := H
set_option maxHeartbeats 0 in
set_option maxRecDepth 20000 in
theorem stuffed_ok (A : Option Addr) (n c : Nat) (f : Nat → Nat → Int) (hnc : n ≤ c) (hn : n ≤ 200) (w : World) (hI : InS w A n 3 KA f) :
    Calls Try.prog 3 #[.slice A n c] w fun e w' => e = .returned (.bool true) ∧ Below w.heap.size w w' := by
  have HI := Lib.hid hI; clear hI
  have hg2 : decide ((200 : Int) < (n : Int)) = false := by simp; omega
  go_enter Try.func3, Try.ntmps3
  go_wp2_with (first | (go_at_call 8; refine (awake_true _).mono ?_; rintro e w1 ⟨rfl, hb1⟩; have HB1 := Lib.hid hb1; clear hb1) | (go_at_call 9; refine (newWriter_walk _).mono ?_; rintro e w2 ⟨rfl, hW2, hb2⟩; have HW2 := Lib.hid hW2; have HB2 := Lib.hid (HB1.out.trans (hb2.mono HB1.out.size)); clear hW2 hb2))
  go_loopw [4, 5] (fun mk i wr => ∃ k m : Nat, k ≤ n ∧ m ≤ k ∧ i = .int .i64 k ∧ mk = .int .i64 m ∧ Hid (WS wr w1.heap.size w1.heap.size k m) ∧ Hid (Below w.heap.size w wr)) (fun _ i _ => n - (intOf i).toNat)
  case atStart => exact ⟨0, 0, by omega, by omega, rfl, rfl, Lib.hid ⟨_, _, _, _, _, HW2.out, Str.nil, by simp, by decide, by decide, by decide, by decide, by decide, by decide⟩, HB2⟩
  case round =>
    obtain ⟨k, m, hk, hmk, rfl, rfl, hS, hb⟩ := hrel
    by_cases hlt : k < n
    · obtain ⟨bb, off, rfl, hbl, hcell⟩ := HI.out k hlt
      have hq0 := (hcell 0 (by decide)).1
      have hq00 := (hcell 0 (by decide)).2
      have hq1 := (hcell 1 (by decide)).1
      have hq2 := (hcell 2 (by decide)).1
      obtain ⟨d, hd⟩ : ∃ d, d = f k 0 := ⟨_, rfl⟩
      obtain ⟨x, hx⟩ : ∃ x, x = f k 1 := ⟨_, rfl⟩
      obtain ⟨y, hy⟩ : ∃ y, y = f k 2 := ⟨_, rfl⟩
      rw [← hd] at hq0 hq00
      rw [← hx] at hq1
      rw [← hy] at hq2
      have hdw : 0 ≤ d ∧ d < 256 := by have hmin : IntKind.u8.min = 0 := rfl; have hmax : IntKind.u8.max = 255 := rfl; simp [KA, Lit.wf, hmin, hmax] at hq00; omega
      have hqa : wr.cell? ⟨bb, off + k * 3, none⟩ = some (.int .u8 d) := (hb.out.cell (p := ⟨bb, off + k * 3, none⟩) hbl).trans hq0
      have hqb : wr.cell? ⟨bb, off + k * 3 + 1, none⟩ = some (.int .i64 x) := (hb.out.cell (p := ⟨bb, off + (k * 3 + 1), none⟩) hbl).trans hq1
      have hqc : wr.cell? ⟨bb, off + k * 3 + 2, none⟩ = some (.int .i64 y) := (hb.out.cell (p := ⟨bb, off + (k * 3 + 2), none⟩) hbl).trans hq2
      clear hcell hq0 hq00 hx hd hy
      by_cases h5 : d % 6 < 5
      · go_wp2_with fail
        refine r_start (n := 12) (S := (fun w' => w'.cell? ⟨bb, off + k * 3 + 1, none⟩ = some (.int .i64 x) ∧ w'.cell? ⟨bb, off + k * 3 + 2, none⟩ = some (.int .i64 y))) #[false, false, false, false, false, false, false, false, false, false, false, false] (by kernel_rfl) rfl rfl ⟨hqb, hqc⟩ (fun hHeld => ?_)
        refine r_take (i := 0) (N := some 30) (v := ?_) (a' := ?_) #[true, false, false, false, false, false, false, false, false, false, false, false] rfl rfl (by kernel_rfl) (fun _ _ _ h => h) hHeld (Or.inl ⟨by rfl, ?_⟩) ?_ ?_
        rotate_left
        · intro w' hSw
          (try dsimp only at hSw)
          go_simp
          try with_reducible rfl
        rotate_left
        · simp only [Act.put, List.setIfInBounds_toArray, List.set_cons_zero, List.set_cons_succ]
          rfl
        refine r_take (i := 1) (N := some 31) (v := ?_) (a' := ?_) #[true, true, false, false, false, false, false, false, false, false, false, false] rfl rfl (by kernel_rfl) (fun _ _ _ h => h) hHeld (Or.inl ⟨by rfl, ?_⟩) ?_ ?_
        rotate_left
        · intro w' hSw
          (try dsimp only at hSw)
          go_simp
          try with_reducible rfl
        rotate_left
        · simp only [Act.put, List.setIfInBounds_toArray, List.set_cons_zero, List.set_cons_succ]
          rfl
        refine r_take (i := 2) (N := some 32) (v := ?_) (a' := ?_) #[true, true, true, false, false, false, false, false, false, false, false, false] rfl rfl (by kernel_rfl) (fun _ _ _ h => h) hHeld (Or.inl ⟨by rfl, ?_⟩) ?_ ?_
        rotate_left
        · intro w' hSw
          (try dsimp only at hSw)
          go_simp
          try with_reducible rfl
        rotate_left
        · simp only [Act.put, List.setIfInBounds_toArray, List.set_cons_zero, List.set_cons_succ]
          rfl
        refine r_take (i := 3) (N := some 33) (v := ?_) (a' := ?_) #[true, true, true, true, false, false, false, false, false, false, false, false] rfl rfl (by kernel_rfl) (fun _ _ _ h => h) hHeld (Or.inl ⟨by rfl, ?_⟩) ?_ ?_
        rotate_left
        · intro w' hSw
          (try dsimp only at hSw)
          go_simp
          try with_reducible rfl
        rotate_left
        · simp only [Act.put, List.setIfInBounds_toArray, List.set_cons_zero, List.set_cons_succ]
          rfl
        refine r_take (i := 4) (N := some 34) (v := ?_) (a' := ?_) #[true, true, true, true, true, false, false, false, false, false, false, false] rfl rfl (by kernel_rfl) (fun _ _ _ h => h) hHeld (Or.inl ⟨by rfl, ?_⟩) ?_ ?_
        rotate_left
        · intro w' hSw
          (try dsimp only at hSw)
          go_simp
          try with_reducible rfl
        rotate_left
        · simp only [Act.put, List.setIfInBounds_toArray, List.set_cons_zero, List.set_cons_succ]
          rfl
        refine r_take (i := 5) (N := some 35) (v := ?_) (a' := ?_) #[true, true, true, true, true, true, false, false, false, false, false, false] rfl rfl (by kernel_rfl) (fun _ _ _ h => h) hHeld (Or.inl ⟨by rfl, ?_⟩) ?_ ?_
        rotate_left
        · intro w' hSw
          (try dsimp only at hSw)
          obtain ⟨hS1, hS2⟩ := hSw
          go_simp
          try with_reducible rfl
        rotate_left
        · simp only [Act.put, List.setIfInBounds_toArray, List.set_cons_zero, List.set_cons_succ]
          rfl
        refine r_take (i := 6) (N := some 36) (v := ?_) (a' := ?_) #[true, true, true, true, true, true, true, false, false, false, false, false] rfl rfl (by kernel_rfl) (fun _ _ _ h => h) hHeld (Or.inl ⟨by rfl, ?_⟩) ?_ ?_
        rotate_left
        · intro w' hSw
          (try dsimp only at hSw)
          go_simp
          try with_reducible rfl
        rotate_left
        · simp only [Act.put, List.setIfInBounds_toArray, List.set_cons_zero, List.set_cons_succ]
          rfl
        refine r_take (i := 7) (N := some 37) (v := ?_) (a' := ?_) #[true, true, true, true, true, true, true, true, false, false, false, false] rfl rfl (by kernel_rfl) (fun _ _ _ h => h) hHeld (Or.inl ⟨by rfl, ?_⟩) ?_ ?_
        rotate_left
        · intro w' hSw
          (try dsimp only at hSw)
          go_simp
          try with_reducible rfl
        rotate_left
        · simp only [Act.put, List.setIfInBounds_toArray, List.set_cons_zero, List.set_cons_succ]
          rfl
        refine r_take (i := 8) (N := some 38) (v := ?_) (a' := ?_) #[true, true, true, true, true, true, true, true, true, false, false, false] rfl rfl (by kernel_rfl) (fun _ _ _ h => h) hHeld (Or.inl ⟨by rfl, ?_⟩) ?_ ?_
        rotate_left
        · intro w' hSw
          (try dsimp only at hSw)
          go_simp
          try with_reducible rfl
        rotate_left
        · simp only [Act.put, List.setIfInBounds_toArray, List.set_cons_zero, List.set_cons_succ]
          rfl
        refine r_take (i := 9) (N := some 39) (v := ?_) (a' := ?_) #[true, true, true, true, true, true, true, true, true, true, false, false] rfl rfl (by kernel_rfl) (fun _ _ _ h => h) hHeld (Or.inl ⟨by rfl, ?_⟩) ?_ ?_
        rotate_left
        · intro w' hSw
          (try dsimp only at hSw)
          go_simp
          try with_reducible rfl
        rotate_left
        · simp only [Act.put, List.setIfInBounds_toArray, List.set_cons_zero, List.set_cons_succ]
          rfl
        refine r_take (i := 10) (N := some 40) (v := ?_) (a' := ?_) #[true, true, true, true, true, true, true, true, true, true, true, false] rfl rfl (by kernel_rfl) (fun _ _ _ h => h) hHeld (Or.inl ⟨by rfl, ?_⟩) ?_ ?_
        rotate_left
        · intro w' hSw
          (try dsimp only at hSw)
          obtain ⟨hS1, hS2⟩ := hSw
          go_simp
          try with_reducible rfl
        rotate_left
        · simp only [Act.put, List.setIfInBounds_toArray, List.set_cons_zero, List.set_cons_succ]
          rfl
        refine r_one (i := 11) (N := some 41) #[true, true, true, true, true, true, true, true, true, true, true, true] rfl rfl (by kernel_rfl) ?_
        refine r_call Try.func10 (by kernel_rfl) rfl #[.pointer (some ⟨w1.heap.size, 0, none⟩), .int .i64 x, .int .i64 y] (by rfl) rfl rfl (by simp only [List.map_toArray, List.map_cons, List.map_nil]; first | done | rfl) ?_
        with_reducible refine (put_any _ w1.heap.size w1.heap.size k m (WS.drew hS.out) (Nat.le_refl _) (by omega) x y).mono ?_
        intro e w3 hp3
        obtain ⟨e0, rfl, hS3, hB3⟩ := hp3.out
        have HS3 := Lib.hid hS3
        have HB3 := Lib.hid (hb.out.drew.trans (hB3.mono HB1.out.size))
        clear hS3 hB3 hp3
        refine ⟨_, rfl, ⟨(HB3.out.cell (p := ⟨bb, off + k * 3 + 1, none⟩) hbl).trans hq1, (HB3.out.cell (p := ⟨bb, off + k * 3 + 2, none⟩) hbl).trans hq2⟩, fun hHeld => ?_⟩
        try simp only [Act.put, List.setIfInBounds_toArray, List.set_cons_zero, List.set_cons_succ]
        refine r_done (by kernel_rfl) ?_
        go_wp2
        exact ⟨⟨k + 1, m, by omega, by omega, by go_num, rfl, HS3, HB3⟩, by simp [intOf]; omega⟩
      · by_cases hxx : 1 ≤ x ∧ x < 255
        · go_wp2_with (first | (go_at_call 11; refine (mark_any _ w1.heap.size w1.heap.size k m hS.out (Nat.le_refl _) (by omega) x hxx.1 hxx.2).mono ?_; intro e w3 hp3; obtain ⟨rfl, hS3, hB3⟩ := hp3.out; have HS3 := Lib.hid hS3; have HB3 := Lib.hid (hb.out.trans (hB3.mono HB1.out.size)); clear hS3 hB3 hp3))
          exact ⟨⟨k + 1, m + 1, by omega, by omega, by go_num, by go_num, HS3, HB3⟩, by simp [intOf]; omega⟩
        · go_wp2_with (first | (go_at_call 11; refine (wmark_arg _ _ x (by omega) _ rfl).mono ?_; rintro e w3 ⟨rfl, rfl⟩))
          exact ⟨⟨k + 1, m, by omega, by omega, by go_num, rfl, Lib.hid hS.out.up, hb⟩, by simp [intOf]; omega⟩
    · obtain rfl : k = n := by omega
      obtain ⟨wo, rfl⟩ : ∃ wo : World, wo = wr := ⟨_, rfl⟩
      obtain ⟨L, ⟨us, hu, hfl, hms⟩, hl, hBy⟩ := bytes_any _ _ _ _ _ hS.out (by omega)
      have hsz : (bytesOf L).size = L.length := bytesOf_size L
      have hpa : posOf us us.length = L.length := by rw [posOf_all, hfl]
      have hma : marksOf us us.length = m := by rw [marksOf_all, hms]
      have hat : ∀ j (h : j < us.length) i (hi : i < us[j].length), posOf us j + i < L.length ∧ L[posOf us j + i]? = us[j][i]? := fun j h i hi => by have e := flat_at us j i h hi; rw [hfl] at e; exact e
      have hby : ∀ i x, L[i]? = some x → 0 ≤ x → x < 256 → ∀ hi : i < (bytesOf L).size, (((bytesOf L)[i]'hi).toNat : Int) = x := fun i x h h0 h1 hi => bytesOf_at L i x h h0 h1 hi
      obtain ⟨s, hs⟩ : ∃ s, s = bytesOf L := ⟨_, rfl⟩
      rw [← hs] at hsz hBy
      have HBY := Lib.hid hBy
      have HAT := Lib.hid hat
      have Hby : Hid (∀ i x, L[i]? = some x → 0 ≤ x → x < 256 → ∀ hi : i < s.size, ((s[i]'hi).toNat : Int) = x) := Lib.hid (by subst hs; exact hby)
      have HU := Lib.hid hu
      have HPA := Lib.hid hpa
      have HMA := Lib.hid hma
      clear hBy hat hby hu hfl hms hs hpa hma
      go_wp2_with (first | (go_at_call 12; refine HBY.out.mono ?_; rintro e w3 ⟨rfl, hb3⟩; have HB3 := Lib.hid (hb.out.trans (hb3.mono hb.out.size)); clear hb3))
      go_loopw [4, 7] (fun mk i wr => ∃ j : Nat, j ≤ us.length ∧ (∃ p : Nat, p ≤ s.size ∧ i = .int .i64 p ∧ Hid (p = posOf us j)) ∧ (∃ q : Int, mk = .int .i64 q ∧ q ≤ 1000 ∧ -1000 ≤ q ∧ Hid (q = (m : Int) - marksOf us j)) ∧ wr = w3) (fun _ i _ => s.size - (intOf i).toNat)
      case atStart => exact ⟨0, by omega, ⟨0, by omega, rfl, Lib.hid rfl⟩, ⟨m, rfl, by omega, by omega, Lib.hid (by simp [marksOf])⟩, by first | rfl | trivial⟩
      case round =>
        obtain ⟨j, hj, ⟨p, hps, rfl, hp⟩, ⟨q, rfl, hq1, hq2, hq⟩, rfl⟩ := hrel
        by_cases hjl : j < us.length
        · have hm2 : marksOf us (j + 1) ≤ m := by rw [← HMA.out]; exact marks_mono us (j + 1)
          have hsu := posOf_succ us j hjl
          have hsm := marksOf_succ us j hjl
          have hqq := hq.out
          rcases HU.out us[j] (List.getElem_mem hjl) with ⟨b, e, hb255, b0, b1⟩ | ⟨x, e, x0, x1⟩
          · have a0 := HAT.out j hjl 0 (by rw [e]; simp)
            rw [e] at a0 hsu hsm
            rw [← hp.out] at a0 hsu
            have hpl : p < s.size := by omega
            have c0 := Hby.out p b (by simpa using a0.2) b0 b1 hpl
            have HSU := Lib.hid hsu; have HSM := Lib.hid hsm
            clear hsu hsm a0 e hqq hm2
            go_wp2
            exact ⟨⟨j + 1, by omega, ⟨p + 1, by omega, by go_num, Lib.hid (by rw [HSU.out]; rfl)⟩, ⟨q, rfl, hq1, hq2, Lib.hid (by rw [HSM.out, hq.out]; simp [uMark])⟩, by first | rfl | trivial⟩, by simp [intOf]; omega⟩
          · have a0 := HAT.out j hjl 0 (by rw [e]; simp)
            have a1 := HAT.out j hjl 1 (by rw [e]; simp)
            rw [e] at a0 a1 hsu hsm
            rw [← hp.out] at a0 a1 hsu
            have hpl : p < s.size := by omega
            have hpl2 : p + 1 < s.size := by omega
            have c0 := Hby.out p 255 (by simpa using a0.2) (by omega) (by omega) hpl
            have c1 := Hby.out (p + 1) x (by simpa using a1.2) (by omega) (by omega) hpl2
            have HSU := Lib.hid hsu; have HSM := Lib.hid hsm
            by_cases hx0 : x = 0
            · subst hx0
              clear hsu hsm a0 a1 e hqq hm2
              go_wp2
              exact ⟨⟨j + 1, by omega, ⟨p + 2, by omega, by go_num, Lib.hid (by rw [HSU.out]; rfl)⟩, ⟨q, rfl, hq1, hq2, Lib.hid (by rw [HSM.out, hq.out]; simp [uMark])⟩, by first | rfl | trivial⟩, by simp [intOf]; omega⟩
            · have hu1 : uMark [255, x] = 1 := by simp [uMark, hx0]
              rw [hu1] at hsm
              have hq3 : 1 ≤ q := by omega
              clear hsu a0 a1 e hqq hm2 hsm
              go_wp2
              exact ⟨⟨j + 1, by omega, ⟨p + 2, by omega, by go_num, Lib.hid (by rw [HSU.out]; rfl)⟩, ⟨q - 1, by go_num, by omega, by omega, Lib.hid (by rw [HSM.out, hu1, hq.out]; omega)⟩, by first | rfl | trivial⟩, by simp [intOf]; omega⟩
        · obtain rfl : j = us.length := by omega
          have hpe : p = s.size := by rw [hp.out, HPA.out, hsz]
          have hqe : q = 0 := by rw [hq.out, HMA.out]; omega
          subst hqe
          subst hpe
          go_wp2
          go_ret
          exact ⟨by first | rfl | simp, HB3.out⟩
set_option maxRecDepth 20000 in
theorem stuffed_long (A : Option Addr) (n c : Nat) (hn : 200 < n) (w : World) :
    Calls Try.prog 3 #[.slice A n c] w fun e w' => e = .returned (.bool true) ∧ Below w.heap.size w w' := by
  have hg2 : decide ((200 : Int) < (n : Int)) = true := by simp; omega
  go_enter Try.func3, Try.ntmps3
  go_wp2_with fail
  refine (awake_true _).mono ?_
  rintro e w1 ⟨rfl, hb1⟩
  have HB1 := Lib.hid hb1; clear hb1
  go_wp2_with fail
  refine (awake_true _).mono ?_
  rintro e w2 ⟨rfl, hb2⟩
  have HB2 := Lib.hid (HB1.out.trans (hb2.mono HB1.out.size)); clear hb2
  go_wp2_with fail
  go_ret
  exact ⟨rfl, HB2.out⟩
theorem bitsStuffed_walk (A : Option Addr) (n c : Nat) (f : Nat → Nat → Int) (hnc : n ≤ c) (w : World) (hI : InS w A n 3 KA f) :
    Calls Try.prog 3 #[.slice A n c] w fun e w' => e = .returned (.bool true) ∧ Below w.heap.size w w' := by
  by_cases hn : n ≤ 200
  · exact stuffed_ok A n c f hnc hn w hI
  · exact stuffed_long A n c (by omega) w

namespace lawBitsStuffed
open Go.ChangeShapes Go.WideShapes Go.ChangeAt Go.RowKit
open Go.ChangeMaps (open_string shut_string)
theorem own : ownKnob Try.prog.godebug = none := by kernel_rfl
theorem laidOut : laidOutB Try.prog = true := by kernel_rfl

set_option maxRecDepth 100000 in
theorem lifted (os : Os) (started : os.Started) (H : Type) (enc : TypeId × Value → H) :
    ReturnsInHanded {} Try.checked os 3 .any (Rows.bitsStuffedSpec.pre6 enc Try.prog Try.f3 Rows.bitsStuffedRow.domain false) (Rows.bitsStuffedSpec.post enc Try.prog Try.f3 false true false false) := by
  refine returnsInHanded_of_change_sized (C := Try.checked) own started (by kernel_rfl) Try.func3
    (ChangeSpec.witness6 (enc := enc) (C := Try.checked) false ⟨#[], #[.slice none 0 0], []⟩ 8 (by kernel_rfl) (by kernel_rfl) (by kernel_rfl) (by kernel_rfl)) ?_
  intro W base args ds gs before hval0 hW hcnd hsz0 _
  have hsz : (DataW.weightsEach Try.prog (Try.f3.params.toList ++ Rows.bitsStuffedSpec.plain.varTypes Try.prog) (ds ++ gs)).all (· ≤ reachBytes) = true := hsz0
  have hval : ∀ (j : Nat) t v, Try.f3.params[j]? = some t → args[j]? = some v → Value.okWide Try.prog W .any base t v := hval0
  have hW' := hW
  obtain ⟨p, q, hA0, hV, hbefore, hfz, hnd⟩ := hW
  obtain ⟨rfl, rfl⟩ := trodVars_none hV
  have hA : DataW.TrodAll enc Try.prog W 0 (fun _ => true) true Try.f3.params.toList args.toList ds p := hA0
  rw [Try.params3] at hA hval hsz
  obtain ⟨v0, vs1, d0, ds1, p0, q0, hargs, rfl, hps, h0, r0⟩ := trodAll_cons hA
  obtain ⟨rfl, rfl, rfl⟩ := trodAll_nil r0
  obtain rfl : args = #[v0] := by cases args; simp_all
  have o0 := hval 0 22 v0 rfl rfl
  clear hA0 hval0
  obtain ⟨A, n, c, f, rfl, hnc, hI⟩ := openInS Try.underlying22 Try.underlying27 (by kernel_rfl) (by kernel_rfl) (by decide) KA (by intro j f h; match j, h with | 0, h => (cases h; exact Try.underlying5) | 1, h => (cases h; exact Try.underlying3) | 2, h => (cases h; exact Try.underlying3) | j + 3, h => simp at h) o0 h0
  refine (bitsStuffed_walk A n c f hnc W hI).mono fun e W' ⟨he, hb⟩ => ?_
  subst he
  exact ⟨_, rfl, law_post laidOut (by rw [Try.params3]; intro t ht; simp only [List.mem_cons, List.not_mem_nil, or_false] at ht; subst ht; exact ⟨by kernel_rfl, of_decide_eq_true (by kernel_rfl)⟩) (by kernel_rfl) Try.underlying4 hW' rfl rfl hb⟩
theorem said : Rows.BitsStuffedSaid :=
  OpenClaim.holds_of_wide 3 Try.f3 rfl rfl rfl rfl rfl rfl rfl ⟨rfl, rfl, rfl, rfl, rfl⟩ rfl rfl rfl rfl rfl (by kernel_rfl) Try.func3 (by kernel_rfl)
    (of_decide_eq_true (by kernel_rfl)) (by unfold Func.isWrapper; first | (rw [if_pos (by decide +kernel)]; kernel_rfl) | (rw [if_neg (by decide +kernel)]; exact ⟨rfl, rfl⟩))
    (fun os started H enc _ => lifted os started H enc)
#print axioms said
end lawBitsStuffed
end Go.Proofs.Ytidockifeofgfaa

/- Any bytes' numbers are the document's, or refused. No condition. -/
import Derived.Test.YtlfhojmdffkkhaaCurD
import Derived.ShutString
import Derived.ChangeOld
import Derived.SizedLaws
import Derived.Test.YtlfhojmdffkkhaaOwnI
namespace Go.Proofs.Ytlfhojmdffkkhaa
open Go.RowKit
set_option linter.unusedSimpArgs false
set_option linter.unusedVariables false
/-- The numbers of the first k runs of m bytes. -/
def wl (m : Nat) (s : ByteArray) (k : Nat) : List Int := (List.range k).map fun j => numL (s.extract (m * j) (m * j + m)).data.toList
theorem wl_length (m : Nat) (s : ByteArray) (k : Nat) : (wl m s k).length = k := by simp [wl]
theorem wl_succ (m : Nat) (s : ByteArray) (k : Nat) : wl m s (k + 1) = wl m s k ++ [numL (s.extract (m * k) (m * k + m)).data.toList] := by simp [wl, List.range_succ]
set_option maxHeartbeats 1600000 in
theorem whole_ok1 (s : ByteArray) (q : Nat) (hs : s.size ≤ 5000) (h1 : s.size ≤ q) (h2 : q ≤ s.size) (w : World) :
    Calls Try.prog 20 #[.string s, .int .i64 1] w fun e w' => Hid (∃ A c, e = .returned (.tuple #[.slice A q c, .int .i64 0]) ∧ q ≤ c ∧ RowI w' w.heap.size A q (fun j => numL (s.extract (1 * j) (1 * j + 1)).data.toList) ∧ Below w.heap.size w w') := by
  go_enter Try.func20, Try.ntmps20
  have hd : decide (1 ≤ (1 : Int) ∧ (1 : Int) ≤ 4) = true := by decide
  have hm : (((s.size : Int) % 1) != 0) = false := by first | (simp; done) | (simp; omega)
  go_wp2_with (first | (go_at_call 21; refine (sized_walk _ _).mono ?_; rintro e w' ⟨rfl, rfl⟩))
  go_loopw [6, 7] (fun v i wr => ∃ k : Nat, k ≤ q ∧ i = .int .i64 (k : Int) ∧ Hid (OwnI wr w.heap.size v (wl 1 s k)) ∧ Hid (Below w.heap.size w wr)) (fun _ i _ => s.size - (intOf i).toNat)
  case atStart => exact ⟨0, by omega, by first | rfl | simp, Lib.hid (OwnI.nil _ _), Lib.hid (Below.refl _ _)⟩
  case round =>
    obtain ⟨k, hk, rfl, hO, hb⟩ := hrel
    by_cases hlt : k < q
    · have hN := fun w => number_walk (s.extract k (k + 1)) (by rw [ext_size s k 1 (by omega)]; decide) w
      obtain ⟨x, hx⟩ : ∃ x, x = numL (s.extract k (k + 1)).data.toList := ⟨_, rfl⟩
      rw [← hx] at hN
      have HN := Lib.hid hN; clear hN
      have Hx := Lib.hid hx; clear hx
      go_wp2_with (first | (go_at_call 23; refine (HN.out _).mono ?_; rintro e w' ⟨rfl, rfl⟩) | (at_builtin; refine appI rfl (.tmp 25) (.tmp 33) rfl x rfl rfl hO.out (by rw [wl_length]; omega) hb.out.size ?_; intro v' w1 hO1 hg1 hb1; have HO1 := Lib.hid hO1; have HB1 := Lib.hid (hb.out.trans hb1); clear hO1 hg1 hb1))
      refine ⟨⟨k + 1, by omega, by first | (congr 1; done) | (congr 1; omega), Lib.hid ?_, HB1⟩, by simp [intOf]; omega⟩
      rw [wl_succ, Nat.one_mul]
      rw [← Hx.out]
      exact HO1.out
    · obtain rfl : k = q := by omega
      go_wp2
      go_ret2
      obtain ⟨A, c, e1, hc, hr⟩ := hO.out.row (fun j => numL (s.extract (1 * j) (1 * j + 1)).data.toList) (fun j hj => by simp [wl])
      rw [wl_length] at e1 hc hr
      subst e1
      exact Lib.hid ⟨A, c, rfl, hc, hr, hb.out⟩
set_option maxHeartbeats 1600000 in
theorem cursorWhole_ok1 (s : ByteArray) (q : Nat) (hs : s.size ≤ 5000) (h1 : s.size ≤ q) (h2 : q ≤ s.size) (w : World) :
    Calls Try.prog 6 #[.string s, .int .i64 1] w fun e w' => e = .returned (.bool true) ∧ Below w.heap.size w w' := by
  have hm : (((s.size : Int) % 1) != 0) = false := by first | (simp; done) | (simp; omega)
  have hdv : (s.size : Int) / 1 = q := by omega
  have Hdv := Lib.hid hdv; clear hdv
  go_enter Try.func6, Try.ntmps6
  go_wp2_with fail
  refine (whole_ok1 s q hs h1 h2 _).mono ?_
  intro e w1 h
  obtain ⟨A, c, rfl, hc, hr, hb⟩ := h.out
  have HR := Lib.hid hr; clear hr h
  have HB := Lib.hid hb; clear hb
  go_wp2_with fail
  have e0 : (s.size : Int) / 1 = q := by omega
  clear e0
  go_loopw [7] (fun i wr => ∃ k : Nat, k ≤ q ∧ i = .int .i64 k ∧ Hid (Below w1.heap.size w1 wr)) (fun i _ => q - (intOf i).toNat)
  case atStart => exact ⟨0, by omega, rfl, Lib.hid (Below.refl _ _)⟩
  case round =>
    obtain ⟨k, hk, rfl, hb⟩ := hrel
    have HRr := Lib.hid (RowI.bel HR.out hb.out)
    by_cases hlt : k < q
    · obtain ⟨g, rfl, hg1, hg2, hcell⟩ := HRr.out k hlt
      obtain ⟨a, ha⟩ : ∃ a, a = k := ⟨_, rfl⟩
      obtain ⟨b, hbb⟩ : ∃ b, b = k + 1 := ⟨_, rfl⟩
      have hN := fun w => refNum_walk (s.extract a b) (by rw [ha, hbb, ext_size s k 1 (by omega)]; decide) w
      obtain ⟨x, hx⟩ : ∃ x, x = numL (s.extract a b).data.toList := ⟨_, rfl⟩
      rw [← hx] at hN
      have hcx : wr.cell? ⟨g, k, none⟩ = some (.int .i64 x) := by rw [hcell, hx, ha, hbb]; simp
      have hw1 : IntKind.i64.wrap (k : Int) = a := by rw [IntKind.wrap_i64]; omega
      have hw2 : IntKind.i64.wrap ((k : Int) + 1) = b := by rw [IntKind.wrap_i64]; omega
      have hw3 : IntKind.i64.wrap (b : Int) = b := by rw [IntKind.wrap_i64]; omega
      have hab : (a : Int) ≤ b := by omega
      have hbs : (b : Int) ≤ s.size := by omega
      have HN := Lib.hid hN; clear hN hcell ha hbb
      have Hx := Lib.hid hx; clear hx
      go_wp2_with fail
      refine r_start (n := 15) (S := (fun w' => w'.cell? ⟨g, k, none⟩ = some (.int .i64 x))) #[false, false, false, false, false, false, false, false, false, false, false, false, false, false, false] (by kernel_rfl) rfl rfl hcx (fun hHeld => ?_)
      refine r_take (i := 0) (N := some 66) (v := ?_) (a' := ?_) #[true, false, false, false, false, false, false, false, false, false, false, false, false, false, false] rfl rfl (by kernel_rfl) (fun _ _ _ h => h) hHeld (Or.inl ⟨by rfl, ?_⟩) ?_ ?_
      rotate_left
      · intro w' hSw
        (try dsimp only at hSw)
        go_simp
        try with_reducible rfl
      rotate_left
      · simp only [Act.put, List.setIfInBounds_toArray, List.set_cons_zero, List.set_cons_succ]
        rfl
      refine r_take (i := 1) (N := some 67) (v := ?_) (a' := ?_) #[true, true, false, false, false, false, false, false, false, false, false, false, false, false, false] rfl rfl (by kernel_rfl) (fun _ _ _ h => h) hHeld (Or.inl ⟨by rfl, ?_⟩) ?_ ?_
      rotate_left
      · intro w' hSw
        (try dsimp only at hSw)
        go_simp
        try with_reducible rfl
      rotate_left
      · simp only [Act.put, List.setIfInBounds_toArray, List.set_cons_zero, List.set_cons_succ]
        rfl
      refine r_take (i := 2) (N := some 68) (v := ?_) (a' := ?_) #[true, true, true, false, false, false, false, false, false, false, false, false, false, false, false] rfl rfl (by kernel_rfl) (fun _ _ _ h => h) hHeld (Or.inl ⟨by rfl, ?_⟩) ?_ ?_
      rotate_left
      · intro w' hSw
        (try dsimp only at hSw)
        go_simp
        try with_reducible rfl
      rotate_left
      · simp only [Act.put, List.setIfInBounds_toArray, List.set_cons_zero, List.set_cons_succ]
        rfl
      refine r_take (i := 3) (N := some 69) (v := ?_) (a' := ?_) #[true, true, true, true, false, false, false, false, false, false, false, false, false, false, false] rfl rfl (by kernel_rfl) (fun _ _ _ h => h) hHeld (Or.inl ⟨by rfl, ?_⟩) ?_ ?_
      rotate_left
      · intro w' hSw
        (try dsimp only at hSw)
        go_simp
        try with_reducible rfl
      rotate_left
      · simp only [Act.put, List.setIfInBounds_toArray, List.set_cons_zero, List.set_cons_succ]
        rfl
      refine r_take (i := 4) (N := some 70) (v := ?_) (a' := ?_) #[true, true, true, true, true, false, false, false, false, false, false, false, false, false, false] rfl rfl (by kernel_rfl) (fun _ _ _ h => h) hHeld (Or.inl ⟨by rfl, ?_⟩) ?_ ?_
      rotate_left
      · intro w' hSw
        (try dsimp only at hSw)
        go_simp
        try with_reducible rfl
      rotate_left
      · simp only [Act.put, List.setIfInBounds_toArray, List.set_cons_zero, List.set_cons_succ]
        rfl
      refine r_take (i := 5) (N := some 71) (v := ?_) (a' := ?_) #[true, true, true, true, true, true, false, false, false, false, false, false, false, false, false] rfl rfl (by kernel_rfl) (fun _ _ _ h => h) hHeld (Or.inl ⟨by rfl, ?_⟩) ?_ ?_
      rotate_left
      · intro w' hSw
        (try dsimp only at hSw)
        go_simp
        try with_reducible rfl
      rotate_left
      · simp only [Act.put, List.setIfInBounds_toArray, List.set_cons_zero, List.set_cons_succ]
        rfl
      refine r_take (i := 6) (N := some 72) (v := ?_) (a' := ?_) #[true, true, true, true, true, true, true, false, false, false, false, false, false, false, false] rfl rfl (by kernel_rfl) (fun _ _ _ h => h) hHeld (Or.inl ⟨by rfl, ?_⟩) ?_ ?_
      rotate_left
      · intro w' hSw
        (try dsimp only at hSw)
        go_simp
        try with_reducible rfl
      rotate_left
      · simp only [Act.put, List.setIfInBounds_toArray, List.set_cons_zero, List.set_cons_succ]
        rfl
      refine r_take (i := 7) (N := some 73) (v := ?_) (a' := ?_) #[true, true, true, true, true, true, true, true, false, false, false, false, false, false, false] rfl rfl (by kernel_rfl) (fun _ _ _ h => h) hHeld (Or.inl ⟨by rfl, ?_⟩) ?_ ?_
      rotate_left
      · intro w' hSw
        (try dsimp only at hSw)
        go_simp
        try with_reducible rfl
      rotate_left
      · simp only [Act.put, List.setIfInBounds_toArray, List.set_cons_zero, List.set_cons_succ]
        rfl
      refine r_take (i := 8) (N := some 74) (v := ?_) (a' := ?_) #[true, true, true, true, true, true, true, true, true, false, false, false, false, false, false] rfl rfl (by kernel_rfl) (fun _ _ _ h => h) hHeld (Or.inl ⟨by rfl, ?_⟩) ?_ ?_
      rotate_left
      · intro w' hSw
        (try dsimp only at hSw)
        go_simp
        try with_reducible rfl
      rotate_left
      · simp only [Act.put, List.setIfInBounds_toArray, List.set_cons_zero, List.set_cons_succ]
        rfl
      refine r_take (i := 9) (N := some 75) (v := ?_) (a' := ?_) #[true, true, true, true, true, true, true, true, true, true, false, false, false, false, false] rfl rfl (by kernel_rfl) (fun _ _ _ h => h) hHeld (Or.inl ⟨by rfl, ?_⟩) ?_ ?_
      rotate_left
      · intro w' hSw
        (try dsimp only at hSw)
        go_simp
        try with_reducible rfl
      rotate_left
      · simp only [Act.put, List.setIfInBounds_toArray, List.set_cons_zero, List.set_cons_succ]
        rfl
      refine r_take (i := 10) (N := some 76) (v := ?_) (a' := ?_) #[true, true, true, true, true, true, true, true, true, true, true, false, false, false, false] rfl rfl (by kernel_rfl) (fun _ _ _ h => h) hHeld (Or.inl ⟨by rfl, ?_⟩) ?_ ?_
      rotate_left
      · intro w' hSw
        (try dsimp only at hSw)
        go_simp
        try with_reducible rfl
      rotate_left
      · simp only [Act.put, List.setIfInBounds_toArray, List.set_cons_zero, List.set_cons_succ]
        rfl
      refine r_take (i := 11) (N := some 77) (v := ?_) (a' := ?_) #[true, true, true, true, true, true, true, true, true, true, true, true, false, false, false] rfl rfl (by kernel_rfl) (fun _ _ _ h => h) hHeld (Or.inl ⟨by rfl, ?_⟩) ?_ ?_
      rotate_left
      · intro w' hSw
        (try dsimp only at hSw)
        go_simp
        try with_reducible rfl
      rotate_left
      · simp only [Act.put, List.setIfInBounds_toArray, List.set_cons_zero, List.set_cons_succ]
        rfl
      refine r_take (i := 12) (N := some 78) (v := ?_) (a' := ?_) #[true, true, true, true, true, true, true, true, true, true, true, true, true, false, false] rfl rfl (by kernel_rfl) (fun _ _ _ h => h) hHeld (Or.inl ⟨by rfl, ?_⟩) ?_ ?_
      rotate_left
      · intro w' hSw
        (try dsimp only at hSw)
        go_simp
        try with_reducible rfl
      rotate_left
      · simp only [Act.put, List.setIfInBounds_toArray, List.set_cons_zero, List.set_cons_succ]
        rfl
      refine r_one (i := 13) (N := some 79) #[true, true, true, true, true, true, true, true, true, true, true, true, true, true, false] rfl rfl (by kernel_rfl) ?_
      refine r_call Try.func16 (by kernel_rfl) rfl #[.string (s.extract a b)] (by rfl) rfl rfl (by simp only [List.map_toArray, List.map_cons, List.map_nil]; first | done | rfl) ?_
      with_reducible refine (HN.out _).mono ?_
      rintro e w2 ⟨rfl, rfl⟩
      refine ⟨_, rfl, hHeld, fun hHeld => ?_⟩
      try simp only [Act.put, List.setIfInBounds_toArray, List.set_cons_zero, List.set_cons_succ]
      refine r_take (i := 14) (N := some 80) (v := ?_) (a' := ?_) #[true, true, true, true, true, true, true, true, true, true, true, true, true, true, true] rfl rfl (by kernel_rfl) (fun _ _ _ h => h) hHeld (Or.inl ⟨by rfl, ?_⟩) ?_ ?_
      rotate_left
      · intro w' hSw
        (try dsimp only at hSw)
        go_simp
        try with_reducible rfl
      rotate_left
      · simp only [Act.put, List.setIfInBounds_toArray, List.set_cons_zero, List.set_cons_succ]
        rfl
      refine r_done (by kernel_rfl) ?_
      clear hw1 hw2 hw3
      go_wp2
      first | exact ⟨⟨k + 1, by omega, by go_num, Lib.hid hb.out.drew⟩, by simp [intOf]; omega⟩ | (go_roundw; (case rel => exact ⟨k + 1, by omega, by go_num, Lib.hid hb.out.drew⟩); (case measure => simp [intOf]; omega))
    · obtain rfl : k = q := by omega
      go_wp2_with (go_at_call 10; refine (awake_true _).mono ?_; rintro e w5 ⟨rfl, hb5⟩; have HB5 := Lib.hid ((HB.out.trans (hb.out.mono HB.out.size)).trans (hb5.mono (HB.out.trans (hb.out.mono HB.out.size)).size)); clear hb5)
      go_ret
      exact ⟨rfl, HB5.out⟩
set_option maxHeartbeats 1600000 in
theorem whole_ok2 (s : ByteArray) (q : Nat) (hs : s.size ≤ 5000) (h1 : s.size ≤ 2 * q) (h2 : 2 * q ≤ s.size) (w : World) :
    Calls Try.prog 20 #[.string s, .int .i64 2] w fun e w' => Hid (∃ A c, e = .returned (.tuple #[.slice A q c, .int .i64 0]) ∧ q ≤ c ∧ RowI w' w.heap.size A q (fun j => numL (s.extract (2 * j) (2 * j + 2)).data.toList) ∧ Below w.heap.size w w') := by
  go_enter Try.func20, Try.ntmps20
  have hd : decide (1 ≤ (2 : Int) ∧ (2 : Int) ≤ 4) = true := by decide
  have hm : (((s.size : Int) % 2) != 0) = false := by first | (simp; done) | (simp; omega)
  go_wp2_with (first | (go_at_call 21; refine (sized_walk _ _).mono ?_; rintro e w' ⟨rfl, rfl⟩))
  go_loopw [6, 7] (fun v i wr => ∃ k : Nat, k ≤ q ∧ i = .int .i64 (2 * (k : Int)) ∧ Hid (OwnI wr w.heap.size v (wl 2 s k)) ∧ Hid (Below w.heap.size w wr)) (fun _ i _ => s.size - (intOf i).toNat)
  case atStart => exact ⟨0, by omega, by first | rfl | simp, Lib.hid (OwnI.nil _ _), Lib.hid (Below.refl _ _)⟩
  case round =>
    obtain ⟨k, hk, rfl, hO, hb⟩ := hrel
    by_cases hlt : k < q
    · have hN := fun w => number_walk (s.extract (2 * k) ((2 * k) + 2)) (by rw [ext_size s (2 * k) 2 (by omega)]; decide) w
      obtain ⟨x, hx⟩ : ∃ x, x = numL (s.extract (2 * k) ((2 * k) + 2)).data.toList := ⟨_, rfl⟩
      rw [← hx] at hN
      have HN := Lib.hid hN; clear hN
      have Hx := Lib.hid hx; clear hx
      go_wp2_with (first | (go_at_call 23; refine (HN.out _).mono ?_; rintro e w' ⟨rfl, rfl⟩) | (at_builtin; refine appI rfl (.tmp 25) (.tmp 33) rfl x rfl rfl hO.out (by rw [wl_length]; omega) hb.out.size ?_; intro v' w1 hO1 hg1 hb1; have HO1 := Lib.hid hO1; have HB1 := Lib.hid (hb.out.trans hb1); clear hO1 hg1 hb1))
      refine ⟨⟨k + 1, by omega, by first | (congr 1; done) | (congr 1; omega), Lib.hid ?_, HB1⟩, by simp [intOf]; omega⟩
      rw [wl_succ]
      rw [← Hx.out]
      exact HO1.out
    · obtain rfl : k = q := by omega
      go_wp2
      go_ret2
      obtain ⟨A, c, e1, hc, hr⟩ := hO.out.row (fun j => numL (s.extract (2 * j) (2 * j + 2)).data.toList) (fun j hj => by simp [wl])
      rw [wl_length] at e1 hc hr
      subst e1
      exact Lib.hid ⟨A, c, rfl, hc, hr, hb.out⟩
set_option maxHeartbeats 1600000 in
theorem cursorWhole_ok2 (s : ByteArray) (q : Nat) (hs : s.size ≤ 5000) (h1 : s.size ≤ 2 * q) (h2 : 2 * q ≤ s.size) (w : World) :
    Calls Try.prog 6 #[.string s, .int .i64 2] w fun e w' => e = .returned (.bool true) ∧ Below w.heap.size w w' := by
  have hm : (((s.size : Int) % 2) != 0) = false := by first | (simp; done) | (simp; omega)
  have hdv : (s.size : Int) / 2 = q := by omega
  have Hdv := Lib.hid hdv; clear hdv
  go_enter Try.func6, Try.ntmps6
  go_wp2_with fail
  refine (whole_ok2 s q hs h1 h2 _).mono ?_
  intro e w1 h
  obtain ⟨A, c, rfl, hc, hr, hb⟩ := h.out
  have HR := Lib.hid hr; clear hr h
  have HB := Lib.hid hb; clear hb
  go_wp2_with fail
  have e0 : (s.size : Int) / 2 = q := by omega
  clear e0
  go_loopw [7] (fun i wr => ∃ k : Nat, k ≤ q ∧ i = .int .i64 k ∧ Hid (Below w1.heap.size w1 wr)) (fun i _ => q - (intOf i).toNat)
  case atStart => exact ⟨0, by omega, rfl, Lib.hid (Below.refl _ _)⟩
  case round =>
    obtain ⟨k, hk, rfl, hb⟩ := hrel
    have HRr := Lib.hid (RowI.bel HR.out hb.out)
    by_cases hlt : k < q
    · obtain ⟨g, rfl, hg1, hg2, hcell⟩ := HRr.out k hlt
      obtain ⟨a, ha⟩ : ∃ a, a = (2 * k) := ⟨_, rfl⟩
      obtain ⟨b, hbb⟩ : ∃ b, b = (2 * k) + 2 := ⟨_, rfl⟩
      have hN := fun w => refNum_walk (s.extract a b) (by rw [ha, hbb, ext_size s (2 * k) 2 (by omega)]; decide) w
      obtain ⟨x, hx⟩ : ∃ x, x = numL (s.extract a b).data.toList := ⟨_, rfl⟩
      rw [← hx] at hN
      have hcx : wr.cell? ⟨g, k, none⟩ = some (.int .i64 x) := by rw [hcell, hx, ha, hbb]
      have hw1 : IntKind.i64.wrap ((k : Int) * 2) = a := by rw [IntKind.wrap_i64]; omega
      have hw2 : IntKind.i64.wrap ((k : Int) + 1) = (k : Int) + 1 := by rw [IntKind.wrap_i64]; omega
      have hw3 : IntKind.i64.wrap (((k : Int) + 1) * 2) = b := by rw [IntKind.wrap_i64]; omega
      have hab : (a : Int) ≤ b := by omega
      have hbs : (b : Int) ≤ s.size := by omega
      have HN := Lib.hid hN; clear hN hcell ha hbb
      have Hx := Lib.hid hx; clear hx
      go_wp2_with fail
      refine r_start (n := 15) (S := (fun w' => w'.cell? ⟨g, k, none⟩ = some (.int .i64 x))) #[false, false, false, false, false, false, false, false, false, false, false, false, false, false, false] (by kernel_rfl) rfl rfl hcx (fun hHeld => ?_)
      refine r_take (i := 0) (N := some 66) (v := ?_) (a' := ?_) #[true, false, false, false, false, false, false, false, false, false, false, false, false, false, false] rfl rfl (by kernel_rfl) (fun _ _ _ h => h) hHeld (Or.inl ⟨by rfl, ?_⟩) ?_ ?_
      rotate_left
      · intro w' hSw
        (try dsimp only at hSw)
        go_simp
        try with_reducible rfl
      rotate_left
      · simp only [Act.put, List.setIfInBounds_toArray, List.set_cons_zero, List.set_cons_succ]
        rfl
      refine r_take (i := 1) (N := some 67) (v := ?_) (a' := ?_) #[true, true, false, false, false, false, false, false, false, false, false, false, false, false, false] rfl rfl (by kernel_rfl) (fun _ _ _ h => h) hHeld (Or.inl ⟨by rfl, ?_⟩) ?_ ?_
      rotate_left
      · intro w' hSw
        (try dsimp only at hSw)
        go_simp
        try with_reducible rfl
      rotate_left
      · simp only [Act.put, List.setIfInBounds_toArray, List.set_cons_zero, List.set_cons_succ]
        rfl
      refine r_take (i := 2) (N := some 68) (v := ?_) (a' := ?_) #[true, true, true, false, false, false, false, false, false, false, false, false, false, false, false] rfl rfl (by kernel_rfl) (fun _ _ _ h => h) hHeld (Or.inl ⟨by rfl, ?_⟩) ?_ ?_
      rotate_left
      · intro w' hSw
        (try dsimp only at hSw)
        go_simp
        try with_reducible rfl
      rotate_left
      · simp only [Act.put, List.setIfInBounds_toArray, List.set_cons_zero, List.set_cons_succ]
        rfl
      refine r_take (i := 3) (N := some 69) (v := ?_) (a' := ?_) #[true, true, true, true, false, false, false, false, false, false, false, false, false, false, false] rfl rfl (by kernel_rfl) (fun _ _ _ h => h) hHeld (Or.inl ⟨by rfl, ?_⟩) ?_ ?_
      rotate_left
      · intro w' hSw
        (try dsimp only at hSw)
        go_simp
        try with_reducible rfl
      rotate_left
      · simp only [Act.put, List.setIfInBounds_toArray, List.set_cons_zero, List.set_cons_succ]
        rfl
      refine r_take (i := 4) (N := some 70) (v := ?_) (a' := ?_) #[true, true, true, true, true, false, false, false, false, false, false, false, false, false, false] rfl rfl (by kernel_rfl) (fun _ _ _ h => h) hHeld (Or.inl ⟨by rfl, ?_⟩) ?_ ?_
      rotate_left
      · intro w' hSw
        (try dsimp only at hSw)
        go_simp
        try with_reducible rfl
      rotate_left
      · simp only [Act.put, List.setIfInBounds_toArray, List.set_cons_zero, List.set_cons_succ]
        rfl
      refine r_take (i := 5) (N := some 71) (v := ?_) (a' := ?_) #[true, true, true, true, true, true, false, false, false, false, false, false, false, false, false] rfl rfl (by kernel_rfl) (fun _ _ _ h => h) hHeld (Or.inl ⟨by rfl, ?_⟩) ?_ ?_
      rotate_left
      · intro w' hSw
        (try dsimp only at hSw)
        go_simp
        try with_reducible rfl
      rotate_left
      · simp only [Act.put, List.setIfInBounds_toArray, List.set_cons_zero, List.set_cons_succ]
        rfl
      refine r_take (i := 6) (N := some 72) (v := ?_) (a' := ?_) #[true, true, true, true, true, true, true, false, false, false, false, false, false, false, false] rfl rfl (by kernel_rfl) (fun _ _ _ h => h) hHeld (Or.inl ⟨by rfl, ?_⟩) ?_ ?_
      rotate_left
      · intro w' hSw
        (try dsimp only at hSw)
        go_simp
        try with_reducible rfl
      rotate_left
      · simp only [Act.put, List.setIfInBounds_toArray, List.set_cons_zero, List.set_cons_succ]
        rfl
      refine r_take (i := 7) (N := some 73) (v := ?_) (a' := ?_) #[true, true, true, true, true, true, true, true, false, false, false, false, false, false, false] rfl rfl (by kernel_rfl) (fun _ _ _ h => h) hHeld (Or.inl ⟨by rfl, ?_⟩) ?_ ?_
      rotate_left
      · intro w' hSw
        (try dsimp only at hSw)
        go_simp
        try with_reducible rfl
      rotate_left
      · simp only [Act.put, List.setIfInBounds_toArray, List.set_cons_zero, List.set_cons_succ]
        rfl
      refine r_take (i := 8) (N := some 74) (v := ?_) (a' := ?_) #[true, true, true, true, true, true, true, true, true, false, false, false, false, false, false] rfl rfl (by kernel_rfl) (fun _ _ _ h => h) hHeld (Or.inl ⟨by rfl, ?_⟩) ?_ ?_
      rotate_left
      · intro w' hSw
        (try dsimp only at hSw)
        go_simp
        try with_reducible rfl
      rotate_left
      · simp only [Act.put, List.setIfInBounds_toArray, List.set_cons_zero, List.set_cons_succ]
        rfl
      refine r_take (i := 9) (N := some 75) (v := ?_) (a' := ?_) #[true, true, true, true, true, true, true, true, true, true, false, false, false, false, false] rfl rfl (by kernel_rfl) (fun _ _ _ h => h) hHeld (Or.inl ⟨by rfl, ?_⟩) ?_ ?_
      rotate_left
      · intro w' hSw
        (try dsimp only at hSw)
        go_simp
        try with_reducible rfl
      rotate_left
      · simp only [Act.put, List.setIfInBounds_toArray, List.set_cons_zero, List.set_cons_succ]
        rfl
      refine r_take (i := 10) (N := some 76) (v := ?_) (a' := ?_) #[true, true, true, true, true, true, true, true, true, true, true, false, false, false, false] rfl rfl (by kernel_rfl) (fun _ _ _ h => h) hHeld (Or.inl ⟨by rfl, ?_⟩) ?_ ?_
      rotate_left
      · intro w' hSw
        (try dsimp only at hSw)
        go_simp
        try with_reducible rfl
      rotate_left
      · simp only [Act.put, List.setIfInBounds_toArray, List.set_cons_zero, List.set_cons_succ]
        rfl
      refine r_take (i := 11) (N := some 77) (v := ?_) (a' := ?_) #[true, true, true, true, true, true, true, true, true, true, true, true, false, false, false] rfl rfl (by kernel_rfl) (fun _ _ _ h => h) hHeld (Or.inl ⟨by rfl, ?_⟩) ?_ ?_
      rotate_left
      · intro w' hSw
        (try dsimp only at hSw)
        go_simp
        try with_reducible rfl
      rotate_left
      · simp only [Act.put, List.setIfInBounds_toArray, List.set_cons_zero, List.set_cons_succ]
        rfl
      refine r_take (i := 12) (N := some 78) (v := ?_) (a' := ?_) #[true, true, true, true, true, true, true, true, true, true, true, true, true, false, false] rfl rfl (by kernel_rfl) (fun _ _ _ h => h) hHeld (Or.inl ⟨by rfl, ?_⟩) ?_ ?_
      rotate_left
      · intro w' hSw
        (try dsimp only at hSw)
        go_simp
        try with_reducible rfl
      rotate_left
      · simp only [Act.put, List.setIfInBounds_toArray, List.set_cons_zero, List.set_cons_succ]
        rfl
      refine r_one (i := 13) (N := some 79) #[true, true, true, true, true, true, true, true, true, true, true, true, true, true, false] rfl rfl (by kernel_rfl) ?_
      refine r_call Try.func16 (by kernel_rfl) rfl #[.string (s.extract a b)] (by rfl) rfl rfl (by simp only [List.map_toArray, List.map_cons, List.map_nil]; first | done | rfl) ?_
      with_reducible refine (HN.out _).mono ?_
      rintro e w2 ⟨rfl, rfl⟩
      refine ⟨_, rfl, hHeld, fun hHeld => ?_⟩
      try simp only [Act.put, List.setIfInBounds_toArray, List.set_cons_zero, List.set_cons_succ]
      refine r_take (i := 14) (N := some 80) (v := ?_) (a' := ?_) #[true, true, true, true, true, true, true, true, true, true, true, true, true, true, true] rfl rfl (by kernel_rfl) (fun _ _ _ h => h) hHeld (Or.inl ⟨by rfl, ?_⟩) ?_ ?_
      rotate_left
      · intro w' hSw
        (try dsimp only at hSw)
        go_simp
        try with_reducible rfl
      rotate_left
      · simp only [Act.put, List.setIfInBounds_toArray, List.set_cons_zero, List.set_cons_succ]
        rfl
      refine r_done (by kernel_rfl) ?_
      clear hw1 hw2 hw3
      go_wp2
      first | exact ⟨⟨k + 1, by omega, by go_num, Lib.hid hb.out.drew⟩, by simp [intOf]; omega⟩ | (go_roundw; (case rel => exact ⟨k + 1, by omega, by go_num, Lib.hid hb.out.drew⟩); (case measure => simp [intOf]; omega))
    · obtain rfl : k = q := by omega
      go_wp2_with (go_at_call 10; refine (awake_true _).mono ?_; rintro e w5 ⟨rfl, hb5⟩; have HB5 := Lib.hid ((HB.out.trans (hb.out.mono HB.out.size)).trans (hb5.mono (HB.out.trans (hb.out.mono HB.out.size)).size)); clear hb5)
      go_ret
      exact ⟨rfl, HB5.out⟩
set_option maxHeartbeats 1600000 in
theorem whole_ok3 (s : ByteArray) (q : Nat) (hs : s.size ≤ 5000) (h1 : s.size ≤ 3 * q) (h2 : 3 * q ≤ s.size) (w : World) :
    Calls Try.prog 20 #[.string s, .int .i64 3] w fun e w' => Hid (∃ A c, e = .returned (.tuple #[.slice A q c, .int .i64 0]) ∧ q ≤ c ∧ RowI w' w.heap.size A q (fun j => numL (s.extract (3 * j) (3 * j + 3)).data.toList) ∧ Below w.heap.size w w') := by
  go_enter Try.func20, Try.ntmps20
  have hd : decide (1 ≤ (3 : Int) ∧ (3 : Int) ≤ 4) = true := by decide
  have hm : (((s.size : Int) % 3) != 0) = false := by first | (simp; done) | (simp; omega)
  go_wp2_with (first | (go_at_call 21; refine (sized_walk _ _).mono ?_; rintro e w' ⟨rfl, rfl⟩))
  go_loopw [6, 7] (fun v i wr => ∃ k : Nat, k ≤ q ∧ i = .int .i64 (3 * (k : Int)) ∧ Hid (OwnI wr w.heap.size v (wl 3 s k)) ∧ Hid (Below w.heap.size w wr)) (fun _ i _ => s.size - (intOf i).toNat)
  case atStart => exact ⟨0, by omega, by first | rfl | simp, Lib.hid (OwnI.nil _ _), Lib.hid (Below.refl _ _)⟩
  case round =>
    obtain ⟨k, hk, rfl, hO, hb⟩ := hrel
    by_cases hlt : k < q
    · have hN := fun w => number_walk (s.extract (3 * k) ((3 * k) + 3)) (by rw [ext_size s (3 * k) 3 (by omega)]; decide) w
      obtain ⟨x, hx⟩ : ∃ x, x = numL (s.extract (3 * k) ((3 * k) + 3)).data.toList := ⟨_, rfl⟩
      rw [← hx] at hN
      have HN := Lib.hid hN; clear hN
      have Hx := Lib.hid hx; clear hx
      go_wp2_with (first | (go_at_call 23; refine (HN.out _).mono ?_; rintro e w' ⟨rfl, rfl⟩) | (at_builtin; refine appI rfl (.tmp 25) (.tmp 33) rfl x rfl rfl hO.out (by rw [wl_length]; omega) hb.out.size ?_; intro v' w1 hO1 hg1 hb1; have HO1 := Lib.hid hO1; have HB1 := Lib.hid (hb.out.trans hb1); clear hO1 hg1 hb1))
      refine ⟨⟨k + 1, by omega, by first | (congr 1; done) | (congr 1; omega), Lib.hid ?_, HB1⟩, by simp [intOf]; omega⟩
      rw [wl_succ]
      rw [← Hx.out]
      exact HO1.out
    · obtain rfl : k = q := by omega
      go_wp2
      go_ret2
      obtain ⟨A, c, e1, hc, hr⟩ := hO.out.row (fun j => numL (s.extract (3 * j) (3 * j + 3)).data.toList) (fun j hj => by simp [wl])
      rw [wl_length] at e1 hc hr
      subst e1
      exact Lib.hid ⟨A, c, rfl, hc, hr, hb.out⟩
set_option maxHeartbeats 1600000 in
theorem cursorWhole_ok3 (s : ByteArray) (q : Nat) (hs : s.size ≤ 5000) (h1 : s.size ≤ 3 * q) (h2 : 3 * q ≤ s.size) (w : World) :
    Calls Try.prog 6 #[.string s, .int .i64 3] w fun e w' => e = .returned (.bool true) ∧ Below w.heap.size w w' := by
  have hm : (((s.size : Int) % 3) != 0) = false := by first | (simp; done) | (simp; omega)
  have hdv : (s.size : Int) / 3 = q := by omega
  have Hdv := Lib.hid hdv; clear hdv
  go_enter Try.func6, Try.ntmps6
  go_wp2_with fail
  refine (whole_ok3 s q hs h1 h2 _).mono ?_
  intro e w1 h
  obtain ⟨A, c, rfl, hc, hr, hb⟩ := h.out
  have HR := Lib.hid hr; clear hr h
  have HB := Lib.hid hb; clear hb
  go_wp2_with fail
  have e0 : (s.size : Int) / 3 = q := by omega
  clear e0
  go_loopw [7] (fun i wr => ∃ k : Nat, k ≤ q ∧ i = .int .i64 k ∧ Hid (Below w1.heap.size w1 wr)) (fun i _ => q - (intOf i).toNat)
  case atStart => exact ⟨0, by omega, rfl, Lib.hid (Below.refl _ _)⟩
  case round =>
    obtain ⟨k, hk, rfl, hb⟩ := hrel
    have HRr := Lib.hid (RowI.bel HR.out hb.out)
    by_cases hlt : k < q
    · obtain ⟨g, rfl, hg1, hg2, hcell⟩ := HRr.out k hlt
      obtain ⟨a, ha⟩ : ∃ a, a = (3 * k) := ⟨_, rfl⟩
      obtain ⟨b, hbb⟩ : ∃ b, b = (3 * k) + 3 := ⟨_, rfl⟩
      have hN := fun w => refNum_walk (s.extract a b) (by rw [ha, hbb, ext_size s (3 * k) 3 (by omega)]; decide) w
      obtain ⟨x, hx⟩ : ∃ x, x = numL (s.extract a b).data.toList := ⟨_, rfl⟩
      rw [← hx] at hN
      have hcx : wr.cell? ⟨g, k, none⟩ = some (.int .i64 x) := by rw [hcell, hx, ha, hbb]
      have hw1 : IntKind.i64.wrap ((k : Int) * 3) = a := by rw [IntKind.wrap_i64]; omega
      have hw2 : IntKind.i64.wrap ((k : Int) + 1) = (k : Int) + 1 := by rw [IntKind.wrap_i64]; omega
      have hw3 : IntKind.i64.wrap (((k : Int) + 1) * 3) = b := by rw [IntKind.wrap_i64]; omega
      have hab : (a : Int) ≤ b := by omega
      have hbs : (b : Int) ≤ s.size := by omega
      have HN := Lib.hid hN; clear hN hcell ha hbb
      have Hx := Lib.hid hx; clear hx
      go_wp2_with fail
      refine r_start (n := 15) (S := (fun w' => w'.cell? ⟨g, k, none⟩ = some (.int .i64 x))) #[false, false, false, false, false, false, false, false, false, false, false, false, false, false, false] (by kernel_rfl) rfl rfl hcx (fun hHeld => ?_)
      refine r_take (i := 0) (N := some 66) (v := ?_) (a' := ?_) #[true, false, false, false, false, false, false, false, false, false, false, false, false, false, false] rfl rfl (by kernel_rfl) (fun _ _ _ h => h) hHeld (Or.inl ⟨by rfl, ?_⟩) ?_ ?_
      rotate_left
      · intro w' hSw
        (try dsimp only at hSw)
        go_simp
        try with_reducible rfl
      rotate_left
      · simp only [Act.put, List.setIfInBounds_toArray, List.set_cons_zero, List.set_cons_succ]
        rfl
      refine r_take (i := 1) (N := some 67) (v := ?_) (a' := ?_) #[true, true, false, false, false, false, false, false, false, false, false, false, false, false, false] rfl rfl (by kernel_rfl) (fun _ _ _ h => h) hHeld (Or.inl ⟨by rfl, ?_⟩) ?_ ?_
      rotate_left
      · intro w' hSw
        (try dsimp only at hSw)
        go_simp
        try with_reducible rfl
      rotate_left
      · simp only [Act.put, List.setIfInBounds_toArray, List.set_cons_zero, List.set_cons_succ]
        rfl
      refine r_take (i := 2) (N := some 68) (v := ?_) (a' := ?_) #[true, true, true, false, false, false, false, false, false, false, false, false, false, false, false] rfl rfl (by kernel_rfl) (fun _ _ _ h => h) hHeld (Or.inl ⟨by rfl, ?_⟩) ?_ ?_
      rotate_left
      · intro w' hSw
        (try dsimp only at hSw)
        go_simp
        try with_reducible rfl
      rotate_left
      · simp only [Act.put, List.setIfInBounds_toArray, List.set_cons_zero, List.set_cons_succ]
        rfl
      refine r_take (i := 3) (N := some 69) (v := ?_) (a' := ?_) #[true, true, true, true, false, false, false, false, false, false, false, false, false, false, false] rfl rfl (by kernel_rfl) (fun _ _ _ h => h) hHeld (Or.inl ⟨by rfl, ?_⟩) ?_ ?_
      rotate_left
      · intro w' hSw
        (try dsimp only at hSw)
        go_simp
        try with_reducible rfl
      rotate_left
      · simp only [Act.put, List.setIfInBounds_toArray, List.set_cons_zero, List.set_cons_succ]
        rfl
      refine r_take (i := 4) (N := some 70) (v := ?_) (a' := ?_) #[true, true, true, true, true, false, false, false, false, false, false, false, false, false, false] rfl rfl (by kernel_rfl) (fun _ _ _ h => h) hHeld (Or.inl ⟨by rfl, ?_⟩) ?_ ?_
      rotate_left
      · intro w' hSw
        (try dsimp only at hSw)
        go_simp
        try with_reducible rfl
      rotate_left
      · simp only [Act.put, List.setIfInBounds_toArray, List.set_cons_zero, List.set_cons_succ]
        rfl
      refine r_take (i := 5) (N := some 71) (v := ?_) (a' := ?_) #[true, true, true, true, true, true, false, false, false, false, false, false, false, false, false] rfl rfl (by kernel_rfl) (fun _ _ _ h => h) hHeld (Or.inl ⟨by rfl, ?_⟩) ?_ ?_
      rotate_left
      · intro w' hSw
        (try dsimp only at hSw)
        go_simp
        try with_reducible rfl
      rotate_left
      · simp only [Act.put, List.setIfInBounds_toArray, List.set_cons_zero, List.set_cons_succ]
        rfl
      refine r_take (i := 6) (N := some 72) (v := ?_) (a' := ?_) #[true, true, true, true, true, true, true, false, false, false, false, false, false, false, false] rfl rfl (by kernel_rfl) (fun _ _ _ h => h) hHeld (Or.inl ⟨by rfl, ?_⟩) ?_ ?_
      rotate_left
      · intro w' hSw
        (try dsimp only at hSw)
        go_simp
        try with_reducible rfl
      rotate_left
      · simp only [Act.put, List.setIfInBounds_toArray, List.set_cons_zero, List.set_cons_succ]
        rfl
      refine r_take (i := 7) (N := some 73) (v := ?_) (a' := ?_) #[true, true, true, true, true, true, true, true, false, false, false, false, false, false, false] rfl rfl (by kernel_rfl) (fun _ _ _ h => h) hHeld (Or.inl ⟨by rfl, ?_⟩) ?_ ?_
      rotate_left
      · intro w' hSw
        (try dsimp only at hSw)
        go_simp
        try with_reducible rfl
      rotate_left
      · simp only [Act.put, List.setIfInBounds_toArray, List.set_cons_zero, List.set_cons_succ]
        rfl
      refine r_take (i := 8) (N := some 74) (v := ?_) (a' := ?_) #[true, true, true, true, true, true, true, true, true, false, false, false, false, false, false] rfl rfl (by kernel_rfl) (fun _ _ _ h => h) hHeld (Or.inl ⟨by rfl, ?_⟩) ?_ ?_
      rotate_left
      · intro w' hSw
        (try dsimp only at hSw)
        go_simp
        try with_reducible rfl
      rotate_left
      · simp only [Act.put, List.setIfInBounds_toArray, List.set_cons_zero, List.set_cons_succ]
        rfl
      refine r_take (i := 9) (N := some 75) (v := ?_) (a' := ?_) #[true, true, true, true, true, true, true, true, true, true, false, false, false, false, false] rfl rfl (by kernel_rfl) (fun _ _ _ h => h) hHeld (Or.inl ⟨by rfl, ?_⟩) ?_ ?_
      rotate_left
      · intro w' hSw
        (try dsimp only at hSw)
        go_simp
        try with_reducible rfl
      rotate_left
      · simp only [Act.put, List.setIfInBounds_toArray, List.set_cons_zero, List.set_cons_succ]
        rfl
      refine r_take (i := 10) (N := some 76) (v := ?_) (a' := ?_) #[true, true, true, true, true, true, true, true, true, true, true, false, false, false, false] rfl rfl (by kernel_rfl) (fun _ _ _ h => h) hHeld (Or.inl ⟨by rfl, ?_⟩) ?_ ?_
      rotate_left
      · intro w' hSw
        (try dsimp only at hSw)
        go_simp
        try with_reducible rfl
      rotate_left
      · simp only [Act.put, List.setIfInBounds_toArray, List.set_cons_zero, List.set_cons_succ]
        rfl
      refine r_take (i := 11) (N := some 77) (v := ?_) (a' := ?_) #[true, true, true, true, true, true, true, true, true, true, true, true, false, false, false] rfl rfl (by kernel_rfl) (fun _ _ _ h => h) hHeld (Or.inl ⟨by rfl, ?_⟩) ?_ ?_
      rotate_left
      · intro w' hSw
        (try dsimp only at hSw)
        go_simp
        try with_reducible rfl
      rotate_left
      · simp only [Act.put, List.setIfInBounds_toArray, List.set_cons_zero, List.set_cons_succ]
        rfl
      refine r_take (i := 12) (N := some 78) (v := ?_) (a' := ?_) #[true, true, true, true, true, true, true, true, true, true, true, true, true, false, false] rfl rfl (by kernel_rfl) (fun _ _ _ h => h) hHeld (Or.inl ⟨by rfl, ?_⟩) ?_ ?_
      rotate_left
      · intro w' hSw
        (try dsimp only at hSw)
        go_simp
        try with_reducible rfl
      rotate_left
      · simp only [Act.put, List.setIfInBounds_toArray, List.set_cons_zero, List.set_cons_succ]
        rfl
      refine r_one (i := 13) (N := some 79) #[true, true, true, true, true, true, true, true, true, true, true, true, true, true, false] rfl rfl (by kernel_rfl) ?_
      refine r_call Try.func16 (by kernel_rfl) rfl #[.string (s.extract a b)] (by rfl) rfl rfl (by simp only [List.map_toArray, List.map_cons, List.map_nil]; first | done | rfl) ?_
      with_reducible refine (HN.out _).mono ?_
      rintro e w2 ⟨rfl, rfl⟩
      refine ⟨_, rfl, hHeld, fun hHeld => ?_⟩
      try simp only [Act.put, List.setIfInBounds_toArray, List.set_cons_zero, List.set_cons_succ]
      refine r_take (i := 14) (N := some 80) (v := ?_) (a' := ?_) #[true, true, true, true, true, true, true, true, true, true, true, true, true, true, true] rfl rfl (by kernel_rfl) (fun _ _ _ h => h) hHeld (Or.inl ⟨by rfl, ?_⟩) ?_ ?_
      rotate_left
      · intro w' hSw
        (try dsimp only at hSw)
        go_simp
        try with_reducible rfl
      rotate_left
      · simp only [Act.put, List.setIfInBounds_toArray, List.set_cons_zero, List.set_cons_succ]
        rfl
      refine r_done (by kernel_rfl) ?_
      clear hw1 hw2 hw3
      go_wp2
      first | exact ⟨⟨k + 1, by omega, by go_num, Lib.hid hb.out.drew⟩, by simp [intOf]; omega⟩ | (go_roundw; (case rel => exact ⟨k + 1, by omega, by go_num, Lib.hid hb.out.drew⟩); (case measure => simp [intOf]; omega))
    · obtain rfl : k = q := by omega
      go_wp2_with (go_at_call 10; refine (awake_true _).mono ?_; rintro e w5 ⟨rfl, hb5⟩; have HB5 := Lib.hid ((HB.out.trans (hb.out.mono HB.out.size)).trans (hb5.mono (HB.out.trans (hb.out.mono HB.out.size)).size)); clear hb5)
      go_ret
      exact ⟨rfl, HB5.out⟩
set_option maxHeartbeats 1600000 in
theorem whole_ok4 (s : ByteArray) (q : Nat) (hs : s.size ≤ 5000) (h1 : s.size ≤ 4 * q) (h2 : 4 * q ≤ s.size) (w : World) :
    Calls Try.prog 20 #[.string s, .int .i64 4] w fun e w' => Hid (∃ A c, e = .returned (.tuple #[.slice A q c, .int .i64 0]) ∧ q ≤ c ∧ RowI w' w.heap.size A q (fun j => numL (s.extract (4 * j) (4 * j + 4)).data.toList) ∧ Below w.heap.size w w') := by
  go_enter Try.func20, Try.ntmps20
  have hd : decide (1 ≤ (4 : Int) ∧ (4 : Int) ≤ 4) = true := by decide
  have hm : (((s.size : Int) % 4) != 0) = false := by first | (simp; done) | (simp; omega)
  go_wp2_with (first | (go_at_call 21; refine (sized_walk _ _).mono ?_; rintro e w' ⟨rfl, rfl⟩))
  go_loopw [6, 7] (fun v i wr => ∃ k : Nat, k ≤ q ∧ i = .int .i64 (4 * (k : Int)) ∧ Hid (OwnI wr w.heap.size v (wl 4 s k)) ∧ Hid (Below w.heap.size w wr)) (fun _ i _ => s.size - (intOf i).toNat)
  case atStart => exact ⟨0, by omega, by first | rfl | simp, Lib.hid (OwnI.nil _ _), Lib.hid (Below.refl _ _)⟩
  case round =>
    obtain ⟨k, hk, rfl, hO, hb⟩ := hrel
    by_cases hlt : k < q
    · have hN := fun w => number_walk (s.extract (4 * k) ((4 * k) + 4)) (by rw [ext_size s (4 * k) 4 (by omega)]; decide) w
      obtain ⟨x, hx⟩ : ∃ x, x = numL (s.extract (4 * k) ((4 * k) + 4)).data.toList := ⟨_, rfl⟩
      rw [← hx] at hN
      have HN := Lib.hid hN; clear hN
      have Hx := Lib.hid hx; clear hx
      go_wp2_with (first | (go_at_call 23; refine (HN.out _).mono ?_; rintro e w' ⟨rfl, rfl⟩) | (at_builtin; refine appI rfl (.tmp 25) (.tmp 33) rfl x rfl rfl hO.out (by rw [wl_length]; omega) hb.out.size ?_; intro v' w1 hO1 hg1 hb1; have HO1 := Lib.hid hO1; have HB1 := Lib.hid (hb.out.trans hb1); clear hO1 hg1 hb1))
      refine ⟨⟨k + 1, by omega, by first | (congr 1; done) | (congr 1; omega), Lib.hid ?_, HB1⟩, by simp [intOf]; omega⟩
      rw [wl_succ]
      rw [← Hx.out]
      exact HO1.out
    · obtain rfl : k = q := by omega
      go_wp2
      go_ret2
      obtain ⟨A, c, e1, hc, hr⟩ := hO.out.row (fun j => numL (s.extract (4 * j) (4 * j + 4)).data.toList) (fun j hj => by simp [wl])
      rw [wl_length] at e1 hc hr
      subst e1
      exact Lib.hid ⟨A, c, rfl, hc, hr, hb.out⟩
set_option maxHeartbeats 1600000 in
theorem cursorWhole_ok4 (s : ByteArray) (q : Nat) (hs : s.size ≤ 5000) (h1 : s.size ≤ 4 * q) (h2 : 4 * q ≤ s.size) (w : World) :
    Calls Try.prog 6 #[.string s, .int .i64 4] w fun e w' => e = .returned (.bool true) ∧ Below w.heap.size w w' := by
  have hm : (((s.size : Int) % 4) != 0) = false := by first | (simp; done) | (simp; omega)
  have hdv : (s.size : Int) / 4 = q := by omega
  have Hdv := Lib.hid hdv; clear hdv
  go_enter Try.func6, Try.ntmps6
  go_wp2_with fail
  refine (whole_ok4 s q hs h1 h2 _).mono ?_
  intro e w1 h
  obtain ⟨A, c, rfl, hc, hr, hb⟩ := h.out
  have HR := Lib.hid hr; clear hr h
  have HB := Lib.hid hb; clear hb
  go_wp2_with fail
  have e0 : (s.size : Int) / 4 = q := by omega
  clear e0
  go_loopw [7] (fun i wr => ∃ k : Nat, k ≤ q ∧ i = .int .i64 k ∧ Hid (Below w1.heap.size w1 wr)) (fun i _ => q - (intOf i).toNat)
  case atStart => exact ⟨0, by omega, rfl, Lib.hid (Below.refl _ _)⟩
  case round =>
    obtain ⟨k, hk, rfl, hb⟩ := hrel
    have HRr := Lib.hid (RowI.bel HR.out hb.out)
    by_cases hlt : k < q
    · obtain ⟨g, rfl, hg1, hg2, hcell⟩ := HRr.out k hlt
      obtain ⟨a, ha⟩ : ∃ a, a = (4 * k) := ⟨_, rfl⟩
      obtain ⟨b, hbb⟩ : ∃ b, b = (4 * k) + 4 := ⟨_, rfl⟩
      have hN := fun w => refNum_walk (s.extract a b) (by rw [ha, hbb, ext_size s (4 * k) 4 (by omega)]; decide) w
      obtain ⟨x, hx⟩ : ∃ x, x = numL (s.extract a b).data.toList := ⟨_, rfl⟩
      rw [← hx] at hN
      have hcx : wr.cell? ⟨g, k, none⟩ = some (.int .i64 x) := by rw [hcell, hx, ha, hbb]
      have hw1 : IntKind.i64.wrap ((k : Int) * 4) = a := by rw [IntKind.wrap_i64]; omega
      have hw2 : IntKind.i64.wrap ((k : Int) + 1) = (k : Int) + 1 := by rw [IntKind.wrap_i64]; omega
      have hw3 : IntKind.i64.wrap (((k : Int) + 1) * 4) = b := by rw [IntKind.wrap_i64]; omega
      have hab : (a : Int) ≤ b := by omega
      have hbs : (b : Int) ≤ s.size := by omega
      have HN := Lib.hid hN; clear hN hcell ha hbb
      have Hx := Lib.hid hx; clear hx
      go_wp2_with fail
      refine r_start (n := 15) (S := (fun w' => w'.cell? ⟨g, k, none⟩ = some (.int .i64 x))) #[false, false, false, false, false, false, false, false, false, false, false, false, false, false, false] (by kernel_rfl) rfl rfl hcx (fun hHeld => ?_)
      refine r_take (i := 0) (N := some 66) (v := ?_) (a' := ?_) #[true, false, false, false, false, false, false, false, false, false, false, false, false, false, false] rfl rfl (by kernel_rfl) (fun _ _ _ h => h) hHeld (Or.inl ⟨by rfl, ?_⟩) ?_ ?_
      rotate_left
      · intro w' hSw
        (try dsimp only at hSw)
        go_simp
        try with_reducible rfl
      rotate_left
      · simp only [Act.put, List.setIfInBounds_toArray, List.set_cons_zero, List.set_cons_succ]
        rfl
      refine r_take (i := 1) (N := some 67) (v := ?_) (a' := ?_) #[true, true, false, false, false, false, false, false, false, false, false, false, false, false, false] rfl rfl (by kernel_rfl) (fun _ _ _ h => h) hHeld (Or.inl ⟨by rfl, ?_⟩) ?_ ?_
      rotate_left
      · intro w' hSw
        (try dsimp only at hSw)
        go_simp
        try with_reducible rfl
      rotate_left
      · simp only [Act.put, List.setIfInBounds_toArray, List.set_cons_zero, List.set_cons_succ]
        rfl
      refine r_take (i := 2) (N := some 68) (v := ?_) (a' := ?_) #[true, true, true, false, false, false, false, false, false, false, false, false, false, false, false] rfl rfl (by kernel_rfl) (fun _ _ _ h => h) hHeld (Or.inl ⟨by rfl, ?_⟩) ?_ ?_
      rotate_left
      · intro w' hSw
        (try dsimp only at hSw)
        go_simp
        try with_reducible rfl
      rotate_left
      · simp only [Act.put, List.setIfInBounds_toArray, List.set_cons_zero, List.set_cons_succ]
        rfl
      refine r_take (i := 3) (N := some 69) (v := ?_) (a' := ?_) #[true, true, true, true, false, false, false, false, false, false, false, false, false, false, false] rfl rfl (by kernel_rfl) (fun _ _ _ h => h) hHeld (Or.inl ⟨by rfl, ?_⟩) ?_ ?_
      rotate_left
      · intro w' hSw
        (try dsimp only at hSw)
        go_simp
        try with_reducible rfl
      rotate_left
      · simp only [Act.put, List.setIfInBounds_toArray, List.set_cons_zero, List.set_cons_succ]
        rfl
      refine r_take (i := 4) (N := some 70) (v := ?_) (a' := ?_) #[true, true, true, true, true, false, false, false, false, false, false, false, false, false, false] rfl rfl (by kernel_rfl) (fun _ _ _ h => h) hHeld (Or.inl ⟨by rfl, ?_⟩) ?_ ?_
      rotate_left
      · intro w' hSw
        (try dsimp only at hSw)
        go_simp
        try with_reducible rfl
      rotate_left
      · simp only [Act.put, List.setIfInBounds_toArray, List.set_cons_zero, List.set_cons_succ]
        rfl
      refine r_take (i := 5) (N := some 71) (v := ?_) (a' := ?_) #[true, true, true, true, true, true, false, false, false, false, false, false, false, false, false] rfl rfl (by kernel_rfl) (fun _ _ _ h => h) hHeld (Or.inl ⟨by rfl, ?_⟩) ?_ ?_
      rotate_left
      · intro w' hSw
        (try dsimp only at hSw)
        go_simp
        try with_reducible rfl
      rotate_left
      · simp only [Act.put, List.setIfInBounds_toArray, List.set_cons_zero, List.set_cons_succ]
        rfl
      refine r_take (i := 6) (N := some 72) (v := ?_) (a' := ?_) #[true, true, true, true, true, true, true, false, false, false, false, false, false, false, false] rfl rfl (by kernel_rfl) (fun _ _ _ h => h) hHeld (Or.inl ⟨by rfl, ?_⟩) ?_ ?_
      rotate_left
      · intro w' hSw
        (try dsimp only at hSw)
        go_simp
        try with_reducible rfl
      rotate_left
      · simp only [Act.put, List.setIfInBounds_toArray, List.set_cons_zero, List.set_cons_succ]
        rfl
      refine r_take (i := 7) (N := some 73) (v := ?_) (a' := ?_) #[true, true, true, true, true, true, true, true, false, false, false, false, false, false, false] rfl rfl (by kernel_rfl) (fun _ _ _ h => h) hHeld (Or.inl ⟨by rfl, ?_⟩) ?_ ?_
      rotate_left
      · intro w' hSw
        (try dsimp only at hSw)
        go_simp
        try with_reducible rfl
      rotate_left
      · simp only [Act.put, List.setIfInBounds_toArray, List.set_cons_zero, List.set_cons_succ]
        rfl
      refine r_take (i := 8) (N := some 74) (v := ?_) (a' := ?_) #[true, true, true, true, true, true, true, true, true, false, false, false, false, false, false] rfl rfl (by kernel_rfl) (fun _ _ _ h => h) hHeld (Or.inl ⟨by rfl, ?_⟩) ?_ ?_
      rotate_left
      · intro w' hSw
        (try dsimp only at hSw)
        go_simp
        try with_reducible rfl
      rotate_left
      · simp only [Act.put, List.setIfInBounds_toArray, List.set_cons_zero, List.set_cons_succ]
        rfl
      refine r_take (i := 9) (N := some 75) (v := ?_) (a' := ?_) #[true, true, true, true, true, true, true, true, true, true, false, false, false, false, false] rfl rfl (by kernel_rfl) (fun _ _ _ h => h) hHeld (Or.inl ⟨by rfl, ?_⟩) ?_ ?_
      rotate_left
      · intro w' hSw
        (try dsimp only at hSw)
        go_simp
        try with_reducible rfl
      rotate_left
      · simp only [Act.put, List.setIfInBounds_toArray, List.set_cons_zero, List.set_cons_succ]
        rfl
      refine r_take (i := 10) (N := some 76) (v := ?_) (a' := ?_) #[true, true, true, true, true, true, true, true, true, true, true, false, false, false, false] rfl rfl (by kernel_rfl) (fun _ _ _ h => h) hHeld (Or.inl ⟨by rfl, ?_⟩) ?_ ?_
      rotate_left
      · intro w' hSw
        (try dsimp only at hSw)
        go_simp
        try with_reducible rfl
      rotate_left
      · simp only [Act.put, List.setIfInBounds_toArray, List.set_cons_zero, List.set_cons_succ]
        rfl
      refine r_take (i := 11) (N := some 77) (v := ?_) (a' := ?_) #[true, true, true, true, true, true, true, true, true, true, true, true, false, false, false] rfl rfl (by kernel_rfl) (fun _ _ _ h => h) hHeld (Or.inl ⟨by rfl, ?_⟩) ?_ ?_
      rotate_left
      · intro w' hSw
        (try dsimp only at hSw)
        go_simp
        try with_reducible rfl
      rotate_left
      · simp only [Act.put, List.setIfInBounds_toArray, List.set_cons_zero, List.set_cons_succ]
        rfl
      refine r_take (i := 12) (N := some 78) (v := ?_) (a' := ?_) #[true, true, true, true, true, true, true, true, true, true, true, true, true, false, false] rfl rfl (by kernel_rfl) (fun _ _ _ h => h) hHeld (Or.inl ⟨by rfl, ?_⟩) ?_ ?_
      rotate_left
      · intro w' hSw
        (try dsimp only at hSw)
        go_simp
        try with_reducible rfl
      rotate_left
      · simp only [Act.put, List.setIfInBounds_toArray, List.set_cons_zero, List.set_cons_succ]
        rfl
      refine r_one (i := 13) (N := some 79) #[true, true, true, true, true, true, true, true, true, true, true, true, true, true, false] rfl rfl (by kernel_rfl) ?_
      refine r_call Try.func16 (by kernel_rfl) rfl #[.string (s.extract a b)] (by rfl) rfl rfl (by simp only [List.map_toArray, List.map_cons, List.map_nil]; first | done | rfl) ?_
      with_reducible refine (HN.out _).mono ?_
      rintro e w2 ⟨rfl, rfl⟩
      refine ⟨_, rfl, hHeld, fun hHeld => ?_⟩
      try simp only [Act.put, List.setIfInBounds_toArray, List.set_cons_zero, List.set_cons_succ]
      refine r_take (i := 14) (N := some 80) (v := ?_) (a' := ?_) #[true, true, true, true, true, true, true, true, true, true, true, true, true, true, true] rfl rfl (by kernel_rfl) (fun _ _ _ h => h) hHeld (Or.inl ⟨by rfl, ?_⟩) ?_ ?_
      rotate_left
      · intro w' hSw
        (try dsimp only at hSw)
        go_simp
        try with_reducible rfl
      rotate_left
      · simp only [Act.put, List.setIfInBounds_toArray, List.set_cons_zero, List.set_cons_succ]
        rfl
      refine r_done (by kernel_rfl) ?_
      clear hw1 hw2 hw3
      go_wp2
      first | exact ⟨⟨k + 1, by omega, by go_num, Lib.hid hb.out.drew⟩, by simp [intOf]; omega⟩ | (go_roundw; (case rel => exact ⟨k + 1, by omega, by go_num, Lib.hid hb.out.drew⟩); (case measure => simp [intOf]; omega))
    · obtain rfl : k = q := by omega
      go_wp2_with (go_at_call 10; refine (awake_true _).mono ?_; rintro e w5 ⟨rfl, hb5⟩; have HB5 := Lib.hid ((HB.out.trans (hb.out.mono HB.out.size)).trans (hb5.mono (HB.out.trans (hb.out.mono HB.out.size)).size)); clear hb5)
      go_ret
      exact ⟨rfl, HB5.out⟩
theorem whole_arg (s : ByteArray) (n : Int) (h : n < 1 ∨ 4 < n) (w : World) :
    Calls Try.prog 20 #[.string s, .int .i64 n] w fun e w' => e = .returned (.tuple #[.slice none 0 0, .int .i64 1]) ∧ w = w' := by
  have hd : decide (1 ≤ n ∧ n ≤ 4) = false := by simp; omega
  clear h
  go_enter Try.func20, Try.ntmps20
  go_wp2_with (first | (go_at_call 21; refine (sized_walk _ _).mono ?_; rintro e w' ⟨rfl, rfl⟩))
  go_ret2
  exact ⟨rfl, rfl⟩
theorem whole_short (s : ByteArray) (m : Nat) (h1 : 1 ≤ m) (h4 : m ≤ 4) (hm : s.size % m ≠ 0) (w : World) :
    Calls Try.prog 20 #[.string s, .int .i64 m] w fun e w' => e = .returned (.tuple #[.slice none 0 0, .int .i64 2]) ∧ w = w' := by
  have hd : decide (1 ≤ (m : Int) ∧ (m : Int) ≤ 4) = true := by simp; omega
  have hm2 : (((s.size : Int) % (m : Int)) != 0) = true := by
    rw [bne_iff_ne]
    intro e
    exact hm (by have : ((s.size % m : Nat) : Int) = 0 := by rw [Int.natCast_emod]; exact e
                 omega)
  clear hm
  go_enter Try.func20, Try.ntmps20
  go_wp2_with (first | (go_at_call 21; refine (sized_walk _ _).mono ?_; rintro e w' ⟨rfl, rfl⟩))
  go_ret2
  exact ⟨rfl, rfl⟩
theorem cursorWhole_long (s : ByteArray) (n : Int) (h : 5000 < s.size) (w : World) :
    Calls Try.prog 6 #[.string s, .int .i64 n] w fun e w' => e = .returned (.bool true) ∧ Below w.heap.size w w' := by
  go_enter Try.func6, Try.ntmps6
  go_wp2_with (first | (go_at_call 10; refine (awake_true _).mono ?_; rintro e w1 ⟨rfl, hb⟩; have HB := Lib.hid hb; clear hb))
  go_ret
  exact ⟨rfl, HB.out⟩
theorem cursorWhole_arg (s : ByteArray) (n : Int) (hs : s.size ≤ 5000) (h : n < 1 ∨ 4 < n) (w : World) :
    Calls Try.prog 6 #[.string s, .int .i64 n] w fun e w' => e = .returned (.bool true) ∧ Below w.heap.size w w' := by
  have H := Lib.hid h
  rcases h with h | h
  case' inr => have h2 : ¬ n < 1 := by omega
  all_goals
    go_enter Try.func6, Try.ntmps6
    go_wp2_with (first | (go_at_call 20; refine (whole_arg s n H.out _).mono ?_; rintro e w1 ⟨rfl, rfl⟩) | (go_at_call 10; refine (awake_true _).mono ?_; rintro e w1 ⟨rfl, hb⟩; have HB := Lib.hid hb; clear hb))
    go_ret
    exact ⟨rfl, HB.out⟩
theorem cursorWhole_short (s : ByteArray) (m : Nat) (hs : s.size ≤ 5000) (h1 : 1 ≤ m) (h4 : m ≤ 4) (hm : s.size % m ≠ 0) (w : World) :
    Calls Try.prog 6 #[.string s, .int .i64 m] w fun e w' => e = .returned (.bool true) ∧ Below w.heap.size w w' := by
  have hm2 : (((s.size : Int) % (m : Int)) != 0) = true := by
    rw [bne_iff_ne]
    intro e
    exact hm (by have : ((s.size % m : Nat) : Int) = 0 := by rw [Int.natCast_emod]; exact e
                 omega)
  have Hm := Lib.hid hm; clear hm
  go_enter Try.func6, Try.ntmps6
  go_wp2_with (first | (go_at_call 20; refine (whole_short s m h1 h4 Hm.out _).mono ?_; rintro e w1 ⟨rfl, rfl⟩) | (go_at_call 10; refine (awake_true _).mono ?_; rintro e w1 ⟨rfl, hb⟩; have HB := Lib.hid hb; clear hb))
  go_ret
  exact ⟨rfl, HB.out⟩
theorem cursorWhole_walk (s : ByteArray) (n : Int) (w : World) :
    Calls Try.prog 6 #[.string s, .int .i64 n] w fun e w' => e = .returned (.bool true) ∧ Below w.heap.size w w' := by
  by_cases hs : s.size ≤ 5000
  · by_cases h : n < 1 ∨ 4 < n
    · exact cursorWhole_arg s n hs h w
    · obtain ⟨m, rfl⟩ := Int.eq_ofNat_of_zero_le (show 0 ≤ n by omega)
      by_cases hm : s.size % m = 0
      · rcases (by omega : m = 1 ∨ m = 2 ∨ m = 3 ∨ m = 4) with rfl | rfl | rfl | rfl
        · exact cursorWhole_ok1 s s.size hs (by omega) (by omega) w
        · exact cursorWhole_ok2 s (s.size / 2) hs (by omega) (by omega) w
        · exact cursorWhole_ok3 s (s.size / 3) hs (by omega) (by omega) w
        · exact cursorWhole_ok4 s (s.size / 4) hs (by omega) (by omega) w
      · exact cursorWhole_short s m hs (by omega) (by omega) hm w
  · exact cursorWhole_long s n (by omega) w

namespace lawCursorWhole
open Go.ChangeShapes Go.WideShapes Go.ChangeAt Go.RowKit
open Go.ChangeMaps (open_string shut_string)
theorem own : ownKnob Try.prog.godebug = none := by kernel_rfl
theorem laidOut : laidOutB Try.prog = true := by kernel_rfl

set_option maxRecDepth 100000 in
theorem lifted (os : Os) (started : os.Started) (H : Type) (enc : TypeId × Value → H) :
    ReturnsInHanded {} Try.checked os 6 .any (Rows.cursorWholeSpec.pre6 enc Try.prog Try.f6 Rows.cursorWholeRow.domain false) (Rows.cursorWholeSpec.post enc Try.prog Try.f6 false true false false) := by
  refine returnsInHanded_of_change_sized (C := Try.checked) own started (by kernel_rfl) Try.func6
    (ChangeSpec.witness6 (enc := enc) (C := Try.checked) false ⟨#[], #[.string ByteArray.empty, .int .i64 0], []⟩ 8 (by kernel_rfl) (by kernel_rfl) (by kernel_rfl) (by kernel_rfl)) ?_
  intro W base args ds gs before hval0 hW hcnd hsz0 _
  have hsz : (DataW.weightsEach Try.prog (Try.f6.params.toList ++ Rows.cursorWholeSpec.plain.varTypes Try.prog) (ds ++ gs)).all (· ≤ reachBytes) = true := hsz0
  have hval : ∀ (j : Nat) t v, Try.f6.params[j]? = some t → args[j]? = some v → Value.okWide Try.prog W .any base t v := hval0
  have hW' := hW
  obtain ⟨p, q, hA0, hV, hbefore, hfz, hnd⟩ := hW
  obtain ⟨rfl, rfl⟩ := trodVars_none hV
  have hA : DataW.TrodAll enc Try.prog W 0 (fun _ => true) true Try.f6.params.toList args.toList ds p := hA0
  rw [Try.params6] at hA hval hsz
  obtain ⟨v0, vs1, d0, ds1, p0, q0, hargs, rfl, hps, h0, r0⟩ := trodAll_cons hA
  obtain ⟨v1, vs2, d1, ds2, p1, q1, rfl, rfl, rfl, h1, r1⟩ := trodAll_cons r0
  obtain ⟨rfl, rfl, rfl⟩ := trodAll_nil r1
  obtain rfl : args = #[v0, v1] := by cases args; simp_all
  have o0 := hval 0 9 v0 rfl rfl
  have o1 := hval 1 3 v1 rfl rfl
  clear hA0 hval0
  obtain ⟨s, rfl, rfl, rfl, ws⟩ := open_string Try.underlying9 o0 h0
  obtain ⟨n, rfl, rfl, rfl, wn⟩ := open_int Try.underlying3 o1 h1
  refine (cursorWhole_walk s n W).mono fun e W' ⟨he, hb⟩ => ?_
  subst he
  exact ⟨_, rfl, law_post laidOut (by rw [Try.params6]; intro t ht; simp only [List.mem_cons, List.not_mem_nil, or_false] at ht; rcases ht with rfl | rfl <;> exact ⟨by kernel_rfl, of_decide_eq_true (by kernel_rfl)⟩) (by kernel_rfl) Try.underlying4 hW' rfl rfl hb⟩
theorem said : Rows.CursorWholeSaid :=
  OpenClaim.holds_of_wide 6 Try.f6 rfl rfl rfl rfl rfl rfl rfl ⟨rfl, rfl, rfl, rfl, rfl⟩ rfl rfl rfl rfl rfl (by kernel_rfl) Try.func6 (by kernel_rfl)
    (of_decide_eq_true (by kernel_rfl)) (by unfold Func.isWrapper; first | (rw [if_pos (by decide +kernel)]; kernel_rfl) | (rw [if_neg (by decide +kernel)]; exact ⟨rfl, rfl⟩))
    (fun os started H enc _ => lifted os started H enc)
#print axioms said
end lawCursorWhole
end Go.Proofs.Ytlfhojmdffkkhaa

/- The walks of the reference's Rest and Marker. No condition. -/
import Derived.Test.YtidockifeofgfaaRfI
import Derived.Test.YtidockifeofgfaaRdE
namespace Go.Proofs.Ytidockifeofgfaa
open Go.RowKit
set_option linter.unusedSimpArgs false
set_option linter.unusedVariables false
set_option maxHeartbeats 1600000 in
theorem refRest_walk (s : ByteArray) (a : Nat) (y : Value) (H : List Int) (hH : H.length < 8) (hb : bitL H) (w : World) (hy : HeldV w y H) :
    Calls Try.prog 21 #[rV s a y] w fun e w' => e = .returned (.tuple #[.int .i64 H.length, .int .i64 (valB H)]) ∧ Below w.heap.size w w' := by
  unfold rV
  have HBL := Lib.hid hb; clear hb
  rcases hy with ⟨rfl, rfl⟩ | ⟨g, off, c, rfl, hc, hcell⟩
  · go_enter Try.func21, Try.ntmps21
    go_wp2_with fail
    go_loop [4, 5] (fun v i => v = .int .i64 0 ∧ i = .int .i64 0) (fun _ _ => 0)
    case atStart => exact ⟨rfl, rfl⟩
    case round =>
      obtain ⟨rfl, rfl⟩ := hrel
      go_wp2
      go_ret2
      exact ⟨rfl, (Below.refl _ _).alloc (Nat.le_refl _) _⟩
  · obtain ⟨N, hN⟩ : ∃ N, N = H.length := ⟨_, rfl⟩
    rw [← hN] at hc hH ⊢
    have HC : Hid (∀ j (h : j < H.length), g < w.heap.size ∧ w.cell? ⟨g, off + j, none⟩ = some (.int .i64 H[j])) := Lib.hid hcell
    have HN := Lib.hid hN
    clear hcell hN
    go_enter Try.func21, Try.ntmps21
    go_wp2_with fail
    go_loop [4, 5] (fun v i => ∃ (k : Nat) (V : Int), k ≤ N ∧ v = .int .i64 V ∧ i = .int .i64 k ∧ 0 ≤ V ∧ V < 256 ∧ Hid (V = valB (H.take k))) (fun _ i => N - (intOf i).toNat)
    case atStart => exact ⟨0, 0, by omega, rfl, rfl, by decide, by decide, Lib.hid (by simp [valB])⟩
    case round =>
      obtain ⟨k, V, hk, rfl, rfl, hV0, hV1, hV⟩ := hrel
      by_cases hkn : k < N
      · have hkl : k < H.length := by rw [← HN.out]; exact hkn
        obtain ⟨hgl, hcell⟩ := HC.out k hkl
        have hbk := HBL.out H[k] (List.getElem_mem hkl)
        have hsn : valB (H.take (k + 1)) = V * 2 + H[k] := by rw [List.take_succ_eq_append_getElem hkl, valB_snoc, hV.out]
        have hrg := bit_range (H.take (k + 1)) (HBL.out.take _) 8 (by simp; omega)
        have e8 : (2 : Int) ^ 8 = 256 := by decide
        rw [hsn, e8] at hrg
        obtain ⟨b, hbb⟩ : ∃ b, b = H[k] := ⟨_, rfl⟩
        rw [← hbb] at hcell hbk hsn hrg
        have hcw : (w.alloc (.cells #[.string s, .int .i64 a, .slice (some ⟨g, off, none⟩) N c] 44)).cell? ⟨g, off + k, none⟩ = some (.int .i64 b) := (((Below.refl w.heap.size w).alloc (Nat.le_refl _) _).cell (p := ⟨g, off + k, none⟩) hgl).trans hcell
        have HSN := Lib.hid hsn
        clear hbb hsn e8
        go_wp2
        go_round
        case rel => exact ⟨k + 1, V * 2 + b, by omega, by go_num, by go_num, by omega, by omega, Lib.hid HSN.out.symm⟩
        case measure => simp [intOf]; omega
      · obtain rfl : k = N := by omega
        have hVH : V = valB H := by rw [hV.out, HN.out, List.take_length]
        have HVH := Lib.hid hVH; clear hVH
        go_wp2
        go_ret2
        exact ⟨by rw [HVH.out]; rfl, (Below.refl _ _).alloc (Nat.le_refl _) _⟩
theorem ffE_le (s : ByteArray) (f a : Nat) : a ≤ ffE s f a ∧ ffE s f a ≤ max a s.size := by
  induction f generalizing a with
  | zero => simp [ffE]; omega
  | succ f ih =>
    rw [ffE]
    split
    · rename_i h
      have := ih (a + 1)
      omega
    · omega
set_option maxHeartbeats 1600000 in
theorem refMarker_walk (s : ByteArray) (a : Nat) (y : Value) (hy : y.oneCell' = true) (hs : s.size ≤ 1000000) (ha : a ≤ s.size) (w : World) :
    Calls Try.prog 23 #[rV s a y] w fun e w' => e = .returned (.tuple #[.int .i64 (markerV s a).1, .int .i64 (markerV s a).2]) ∧ Below w.heap.size w w' := by
  unfold rV
  go_enter Try.func23, Try.ntmps23
  go_wp2_with fail
  go_loop [4] (fun v => ∃ f k : Nat, s.size ≤ a + k + f ∧ a + k ≤ s.size ∧ v = .int .i64 k ∧ Hid (ffE s s.size a = ffE s f (a + k))) (fun v => s.size - (intOf v).toNat)
  case atStart => exact ⟨s.size, 0, by omega, by omega, rfl, Lib.hid rfl⟩
  case round =>
    obtain ⟨f, k, hf, hk, rfl, hr⟩ := hrel
    by_cases hb : a + k < s.size
    · have hbb := byteA_eq s (a + k) hb
      by_cases hff : byteA s (a + k) = 255
      · obtain ⟨f', rfl⟩ : ∃ f', f = f' + 1 := ⟨f - 1, by omega⟩
        have hst : ffE s (f' + 1) (a + k) = ffE s f' (a + (k + 1)) := by rw [ffE, if_pos ⟨hb, hff⟩]; rfl
        have HR := Lib.hid (hr.out.trans hst)
        rw [hbb] at hff
        clear hst hbb
        go_wp2
        go_round
        case rel => exact ⟨f', k + 1, by omega, by omega, by go_num, HR⟩
        case measure => simp [intOf]; omega
      · have hst : ffE s f (a + k) = a + k := by
          cases f with
          | zero => rfl
          | succ f => rw [ffE, if_neg (by intro e; exact hff e.2)]
        have HR := Lib.hid (hr.out.trans hst)
        by_cases hk0 : k = 0
        · have e : markerV s a = (0, 0) := by unfold markerV; rw [HR.out, if_pos (Or.inl (by omega))]
          have EE := Lib.hid e
          rw [hbb] at hff
          clear e hst hbb
          subst hk0
          simp only [Nat.add_zero] at hff
          go_wp2
          go_ret2
          rw [EE.out]
          exact ⟨rfl, (Below.refl _ _).alloc (Nat.le_refl _) _⟩
        · have g1 : (((k : Nat) : Int) == 0) = false := by simp; exact hk0
          have g2 : ((a : Int) + k == (s.size : Int)) = false := by simp; omega
          by_cases h0 : byteA s (a + k) = 0
          · have e : markerV s a = (0, 0) := by unfold markerV; rw [HR.out, if_pos (Or.inr (Or.inr h0))]
            have EE := Lib.hid e
            rw [hbb] at hff h0
            clear e hst hbb
            go_wp2
            go_ret2
            rw [EE.out]
            exact ⟨rfl, (Below.refl _ _).alloc (Nat.le_refl _) _⟩
          · have e : markerV s a = (((s[a + k]'hb).toNat : Int), a + k + 1 - a) := by unfold markerV; rw [HR.out, if_neg (by intro e; rcases e with e | e | e; omega; omega; exact h0 e), hbb]
            have EE := Lib.hid e
            rw [hbb] at hff h0
            have g3 : (((s[a + k]'hb).toNat : Int) == 0) = false := by rw [beq_eq_false_iff_ne]; exact h0
            have hw : wrap64 ((s[a + k]'hb).toNat : Int) = ((s[a + k]'hb).toNat : Int) := by have := (s[a + k]'hb).toNat_lt; unfold wrap64; omega
            clear e hst hbb
            go_wp2
            go_ret2
            rw [EE.out]
            refine ⟨?_, (Below.refl _ _).alloc (Nat.le_refl _) _⟩
            have e2 : (((a + k + 1 - a : Nat) : Nat) : Int) = (k : Int) + 1 := by omega
            rw [e2]
            first | rfl | (show Ending.returned (.tuple #[.int .i64 (wrap64 ((s[a + k]'hb).toNat : Int)), .int .i64 ((k : Int) + 1)]) = _; rw [hw])
    · have hst : ffE s f (a + k) = a + k := by
        cases f with
        | zero => rfl
        | succ f => rw [ffE, if_neg (by intro e; exact hb e.1)]
      have HR := Lib.hid (hr.out.trans hst)
      have hka : (a : Int) + k = s.size := by omega
      have e : markerV s a = (0, 0) := by unfold markerV; rw [HR.out, if_pos (Or.inr (Or.inl (by omega)))]
      have EE := Lib.hid e
      have g2 : ((a : Int) + k == (s.size : Int)) = true := by simp; omega
      have HKA := Lib.hid hka
      clear e hst hka
      by_cases hk0 : k = 0
      · subst hk0
        go_wp2
        go_ret2
        rw [EE.out]
        exact ⟨rfl, (Below.refl _ _).alloc (Nat.le_refl _) _⟩
      · have g1 : (((k : Nat) : Int) == 0) = false := by simp; exact hk0
        go_wp2
        go_ret2
        rw [EE.out]
        exact ⟨rfl, (Below.refl _ _).alloc (Nat.le_refl _) _⟩
end Go.Proofs.Ytidockifeofgfaa

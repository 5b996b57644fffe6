/- More walks of package zig's last function and of the reference's functions. -/
import Derived.Test.YthibnhgbgmpjoaaDoorHGD
namespace Go.Proofs.YthibnhgbgmpjoaaDoor
open Go.RowKit
/-- The last place before or at k where f isn't 0. -/
def lastOf (f : Nat → Int) : Nat → Nat
  | 0 => 0
  | k + 1 => if f (k + 1) ≠ 0 then k + 1 else lastOf f k
theorem lastOf_le (f : Nat → Int) (k : Nat) : lastOf f k ≤ k := by
  induction k with
  | zero => simp [lastOf]
  | succ k ih => unfold lastOf; split <;> omega
theorem lastOf_ne (f : Nat → Int) (k : Nat) (h : 0 < lastOf f k) : f (lastOf f k) ≠ 0 := by
  induction k with
  | zero => simp [lastOf] at h
  | succ k ih =>
    unfold lastOf at h ⊢
    by_cases hf : f (k + 1) ≠ 0
    · rw [if_pos hf]; exact hf
    · rw [if_neg hf] at h ⊢; exact ih h
theorem lastOf_after (f : Nat → Int) (k j : Nat) (h : lastOf f k < j) (hj : j ≤ k) : f j = 0 := by
  induction k with
  | zero => simp [lastOf] at h; omega
  | succ k ih =>
    unfold lastOf at h
    by_cases hf : f (k + 1) ≠ 0
    · rw [if_pos hf] at h; omega
    · rw [if_neg hf] at h
      by_cases hjk : j = k + 1
      · subst hjk; simpa using hf
      · exact ih h (by omega)
/-! ### The reference's order -/
/-- Is place i of line n within the block; how many places come before it. -/
def cnd (n i : Nat) : Bool := (if n % 2 = 1 then n - i else i) < 8 && (if n % 2 = 1 then i else n - i) < 8
def posI (n : Nat) : Nat → Nat
  | 0 => 0
  | i + 1 => posI n i + (if cnd n i = true then 1 else 0)
def posO : Nat → Nat
  | 0 => 0
  | n + 1 => posO n + posI n (n + 1)
def pos (n i : Nat) : Nat := posO n + posI n i
theorem pos_end : pos 15 0 = 64 := by decide +kernel
theorem pos_line (n : Nat) : pos (n + 1) 0 = pos n (n + 1) := by simp [pos, posO, posI]
theorem pos_no (n i : Nat) (h : cnd n i = false) : pos n (i + 1) = pos n i := by simp [pos, posI, h]
theorem pos_yes (n i : Nat) (h : cnd n i = true) : pos n (i + 1) = pos n i + 1 := by simp [pos, posI, h]; omega
theorem pos_ord (n : Nat) (hn : n < 15) (i : Nat) (hi : i < n + 1) (h : cnd n i = true) : pos n i < 64 ∧ ord (pos n i) = 8 * (if n % 2 = 1 then i else n - i) + (if n % 2 = 1 then n - i else i) :=
  (by decide +kernel : ∀ n < 15, ∀ i < n + 1, cnd n i = true → pos n i < 64 ∧ ord (pos n i) = 8 * (if n % 2 = 1 then i else n - i) + (if n % 2 = 1 then n - i else i)) n hn i hi h
set_option maxHeartbeats 1000000 in
theorem order_walk (w : World) :
    Calls Tryd.prog 59 #[] w fun e w' => e = .returned (.agg (arrN .i64 64 (fun k => (ord k : Nat)))) ∧ Below w.heap.size w w' := by
  go_enter Tryd.func59, Tryd.ntmps59
  go_wp2
  go_loopw [2, 3] (fun k i wr => ∃ n : Nat, n ≤ 15 ∧ i = .int .i64 n ∧ k = .int .i64 (pos n 0) ∧ Hid (∃ z, Blk wr w.heap.size 153 z ∧ z.size = 64) ∧ Hid (Blk wr (w.heap.size + 1) 153 (setTo .i64 64 id (fun k => (ord k : Nat)) (pos n 0))) ∧ Hid (Below w.heap.size w wr)) (fun _ i _ => 15 - (intOf i).toNat)
  case atStart =>
    refine ⟨0, by omega, rfl, rfl, ?_, ?_, ?_⟩
    · exact Lib.hid ⟨_, (Blk.nw rfl).alloc _, rfl⟩
    · exact Lib.hid (Blk.nw (by simp))
    · exact Lib.hid (((Below.refl _ _).alloc (Nat.le_refl _) _).alloc (by simp) _)
  case round =>
    obtain ⟨n, hn, rfl, rfl, h1, h2, hb⟩ := hrel
    by_cases hlt : n < 15
    · have hltd : decide ((n : Int) < 15) = true := by simp; omega
      go_wp2
      obtain ⟨wo, rfl⟩ : ∃ wo : World, wo = wr := ⟨_, rfl⟩
      go_loopw [2, 4] (fun k i wr => ∃ m : Nat, m ≤ n + 1 ∧ i = .int .i64 m ∧ k = .int .i64 (pos n m) ∧ Hid (∃ z, Blk wr w.heap.size 153 z ∧ z.size = 64) ∧ Hid (Blk wr (w.heap.size + 1) 153 (setTo .i64 64 id (fun k => (ord k : Nat)) (pos n m))) ∧ Hid (Below w.heap.size w wr)) (fun _ i _ => n + 1 - (intOf i).toNat)
      case atStart => exact ⟨0, by omega, rfl, rfl, h1, h2, hb⟩
      case round =>
        clear h1 h2 hb
        obtain ⟨m, hm, rfl, rfl, h1, h2, hb⟩ := hrel
        by_cases hle : m ≤ n
        · have hf : ∀ i, wr.frozen? ⟨w.heap.size + 1, i, none⟩ = false := h2.out.frozen
          by_cases hc : cnd n m = true
          · obtain ⟨hp, ho⟩ := pos_ord n hlt m (by omega) hc
            have Ho := Lib.hid ho
            have Hc := Lib.hid hc
            clear ho
            obtain ⟨u, hu⟩ := setTo_some .i64 id (fun k => ((ord k : Nat) : Int)) (pos n m) hp
            have hc2 : wr.cell? ⟨w.heap.size + 1, pos n m, none⟩ = some u := (h2.out.cell _).trans hu
            have Hu := Lib.hid hu; clear hu
            simp only [cnd, Bool.and_eq_true, decide_eq_true_eq] at hc
            obtain ⟨q1, q2⟩ := hc
            obtain ⟨p, hpp⟩ : ∃ p, p = pos n m := ⟨_, rfl⟩
            rw [← hpp] at hp hc2 ⊢
            have Hpp := Lib.hid hpp; clear hpp
            have fin : ∀ x : Int, x = (ord p : Nat) → (∃ m_1 : Nat, m_1 ≤ n + 1 ∧ Value.int .i64 ((m : Int) + 1) = .int .i64 m_1 ∧ Value.int .i64 ((p : Int) + 1) = .int .i64 (pos n m_1) ∧ Hid (∃ z, Blk (wr.setCell ⟨w.heap.size + 1, p, none⟩ (.int .i64 x)) w.heap.size 153 z ∧ z.size = 64) ∧ Hid (Blk (wr.setCell ⟨w.heap.size + 1, p, none⟩ (.int .i64 x)) (w.heap.size + 1) 153 (setTo .i64 64 id (fun k => (ord k : Nat)) (pos n m_1))) ∧ Hid (Below w.heap.size w (wr.setCell ⟨w.heap.size + 1, p, none⟩ (.int .i64 x)))) := by
              rintro x rfl
              have e := pos_yes n m Hc.out
              refine ⟨m + 1, by omega, by go_num, by rw [e, ← Hpp.out]; go_num, ?_, ?_, Lib.hid (hb.out.setCell (by simp) _)⟩
              · obtain ⟨z, hz, hzs⟩ := h1.out
                exact Lib.hid ⟨z, hz.far (by simp) _, hzs⟩
              · rw [e, ← Hpp.out]
                have := h2.out.set_ p (.int .i64 (ord p : Nat))
                rw [← Hpp.out] at this
                exact Lib.hid this
            have Fin := Lib.hid fin; clear fin
            by_cases hodd : n % 2 = 1
            · rw [if_pos hodd] at q1 q2
              have ho2 : (((n : Int) % 2) == 1) = true := by simp; omega
              have hval : (8 * (m : Int) + ((n : Int) - m)) = (ord p : Nat) := by
                have := Ho.out; rw [← Hpp.out, if_pos hodd, if_pos hodd] at this; omega
              have Hval := Lib.hid hval; clear hval hodd
              have q3 : (n : Int) - m < 8 := by omega
              have q4 : (0 : Int) ≤ (n : Int) - m := by omega
              go_wp2
              first | exact ⟨Fin.out _ Hval.out, by simp [intOf]; omega⟩ | (go_roundw; (case rel => exact Fin.out _ Hval.out); (case measure => simp [intOf]; omega))
            · rw [if_neg hodd] at q1 q2
              have ho2 : (((n : Int) % 2) == 1) = false := by simp; omega
              have hval : (8 * ((n : Int) - m) + m) = (ord p : Nat) := by
                have := Ho.out; rw [← Hpp.out, if_neg hodd, if_neg hodd] at this; omega
              have Hval := Lib.hid hval; clear hval hodd
              have q3 : (n : Int) - m < 8 := by omega
              have q4 : (0 : Int) ≤ (n : Int) - m := by omega
              go_wp2
              first | exact ⟨Fin.out _ Hval.out, by simp [intOf]; omega⟩ | (go_roundw; (case rel => exact Fin.out _ Hval.out); (case measure => simp [intOf]; omega))
          · have hc0 : cnd n m = false := by simpa using hc
            have e := pos_no n m hc0
            have He := Lib.hid e
            clear e
            simp only [cnd, Bool.and_eq_true, decide_eq_true_eq] at hc
            clear hc0
            have hm1 : (m : Int) ≤ n := by omega
            by_cases hodd : n % 2 = 1
            · rw [if_pos hodd, if_pos hodd] at hc
              have ho2 : (((n : Int) % 2) == 1) = true := by simp; omega
              clear hodd
              by_cases q1 : n - m < 8
              · have q3 : (n : Int) - m < 8 := by omega
                have q2 : ¬ (m : Int) < 8 := by omega
                clear hc
                go_wp2
                first | exact ⟨⟨m + 1, by omega, by go_num, by rw [He.out], h1, by rw [He.out]; exact h2, hb⟩, by simp [intOf]; omega⟩ | (go_roundw; (case rel => exact ⟨m + 1, by omega, by go_num, by rw [He.out], h1, by rw [He.out]; exact h2, hb⟩); (case measure => simp [intOf]; omega))
              · have q3 : ¬ (n : Int) - m < 8 := by omega
                clear hc
                go_wp2
                first | exact ⟨⟨m + 1, by omega, by go_num, by rw [He.out], h1, by rw [He.out]; exact h2, hb⟩, by simp [intOf]; omega⟩ | (go_roundw; (case rel => exact ⟨m + 1, by omega, by go_num, by rw [He.out], h1, by rw [He.out]; exact h2, hb⟩); (case measure => simp [intOf]; omega))
            · rw [if_neg hodd, if_neg hodd] at hc
              have ho2 : (((n : Int) % 2) == 1) = false := by simp; omega
              clear hodd
              by_cases q1 : m < 8
              · have q3 : ¬ (n : Int) - m < 8 := by omega
                clear hc
                go_wp2
                first | exact ⟨⟨m + 1, by omega, by go_num, by rw [He.out], h1, by rw [He.out]; exact h2, hb⟩, by simp [intOf]; omega⟩ | (go_roundw; (case rel => exact ⟨m + 1, by omega, by go_num, by rw [He.out], h1, by rw [He.out]; exact h2, hb⟩); (case measure => simp [intOf]; omega))
              · have q3 : ¬ (m : Int) < 8 := by omega
                clear hc
                go_wp2
                first | exact ⟨⟨m + 1, by omega, by go_num, by rw [He.out], h1, by rw [He.out]; exact h2, hb⟩, by simp [intOf]; omega⟩ | (go_roundw; (case rel => exact ⟨m + 1, by omega, by go_num, by rw [He.out], h1, by rw [He.out]; exact h2, hb⟩); (case measure => simp [intOf]; omega))
        · obtain rfl : m = n + 1 := by omega
          have e := Lib.hid (pos_line n)
          clear hle hm
          have hle : ¬ ((n + 1 : Nat) : Int) ≤ n := by omega
          go_wp2
          go_roundw
          case rel => exact ⟨n + 1, by omega, by go_num, by rw [e.out], h1, by rw [e.out]; exact h2, hb⟩
          case measure => simp [intOf]; omega
    · obtain rfl : n = 15 := by omega
      obtain ⟨z, hz, hzs⟩ := h1.out
      clear hlt h1
      have Hz := Lib.hid hz
      have Hzs := Lib.hid hzs
      clear hz hzs
      go_wp2_with (first | (refine wpList_load_row rfl 153 (.tmp 1) rfl (w.heap.size + 1) rfl 153 (setTo .i64 64 id (fun k => (ord k : Nat)) (pos 15 0)) (0, 0) _ h2.out Tryd.underlying153 rfl (by rw [setTo_size]; kernel_rfl) ?_) | (refine wpList_store_row rfl 153 (.tmp 0) (.tmp 41) rfl w.heap.size (setTo .i64 64 id (fun k => (ord k : Nat)) (pos 15 0)) rfl rfl 153 z Hz.out (by rw [setTo_size]; kernel_rfl) (by rw [setTo_size, Hzs.out]) (setTo_one _ _ _ _ _) ?_))
      exact bodyPost_ret (results_cell_row rfl _ _ w.heap.size 153 _ (0, 0) _ rfl (setRow_heap _ _ _ _ _ _ Hz.out) Tryd.underlying153 rfl (by rw [setTo_size]; kernel_rfl)) rfl ⟨by rw [pos_end, setTo_all .i64 64 id id _ 64 (fun _ hj => ⟨hj, rfl, fun _ _ e => e⟩)]; rfl, below_setRow hb.out (by omega) _⟩
end Go.Proofs.YthibnhgbgmpjoaaDoor

/- Plain laws: bits packed in bytes. No condition. -/
import Derived.Test.YtaofponadaifiaaRfB
import Derived.Test.YtaofponadaifiaaWriE
namespace Go.Proofs.Ytaofponadaifiaa
open Go.RowKit
set_option linter.unusedSimpArgs false
set_option linter.unusedVariables false
/-- Whole bytes of bits, each with its zero. -/
def packL (l : List Int) : List Int := if h : 8 ≤ l.length then st (valB (l.take 8)) ++ packL (l.drop 8) else []
termination_by l.length
decreasing_by simp; omega
def restL (l : List Int) : List Int := if h : 8 ≤ l.length then restL (l.drop 8) else l
termination_by l.length
decreasing_by simp; omega
theorem packL_lt {l : List Int} (h : l.length < 8) : packL l = [] := by rw [packL, dif_neg (by omega)]
theorem restL_lt {l : List Int} (h : l.length < 8) : restL l = l := by rw [restL, dif_neg (by omega)]
theorem packL_ge {l : List Int} (h : 8 ≤ l.length) : packL l = st (valB (l.take 8)) ++ packL (l.drop 8) := by rw [packL, dif_pos h]
theorem restL_ge {l : List Int} (h : 8 ≤ l.length) : restL l = restL (l.drop 8) := by rw [restL, dif_pos h]
theorem restL_len : ∀ (n : Nat) (l : List Int), l.length ≤ n → (restL l).length = l.length % 8
  | n, l, hn => by
    by_cases h : 8 ≤ l.length
    · rw [restL_ge h]
      match n, hn with
      | n + 1, hn =>
        rw [restL_len n (l.drop 8) (by simp; omega)]
        simp
        omega
      | 0, hn => omega
    · rw [restL_lt (by omega)]; omega
theorem restL_mem : ∀ (n : Nat) (l : List Int), l.length ≤ n → ∀ x ∈ restL l, x ∈ l
  | n, l, hn, x, hx => by
    by_cases h : 8 ≤ l.length
    · rw [restL_ge h] at hx
      match n, hn with
      | n + 1, hn => exact List.mem_of_mem_drop (restL_mem n (l.drop 8) (by simp; omega) x hx)
      | 0, hn => omega
    · rw [restL_lt (by omega)] at hx; exact hx
theorem packL_append : ∀ (n : Nat) (l m : List Int), l.length ≤ n → packL (l ++ m) = packL l ++ packL (restL l ++ m) ∧ restL (l ++ m) = restL (restL l ++ m)
  | n, l, m, hn => by
    by_cases h : 8 ≤ l.length
    · match n, hn with
      | n + 1, hn =>
        obtain ⟨h1, h2⟩ := packL_append n (l.drop 8) m (by simp; omega)
        have ht : (l ++ m).take 8 = l.take 8 := List.take_append_of_le_length h
        have hd : (l ++ m).drop 8 = l.drop 8 ++ m := List.drop_append_of_le_length h
        rw [packL_ge (by simp; omega), ht, hd, h1, packL_ge h, restL_ge (l := l ++ m) (by simp; omega), hd, h2, restL_ge h, List.append_assoc]
        exact ⟨rfl, rfl⟩
      | 0, hn => omega
    · rw [packL_lt (l := l) (by omega), restL_lt (l := l) (by omega)]; simp
theorem snoc_ind {α : Type} {p : List α → Prop} (l : List α) (h0 : p []) (h1 : ∀ l x, p l → p (l ++ [x])) : p l := by
  have H : ∀ m : List α, p m.reverse := by
    intro m
    induction m with
    | nil => exact h0
    | cons a m ih => rw [List.reverse_cons]; exact h1 _ _ ih
  have := H l.reverse
  rwa [List.reverse_reverse] at this
theorem valB_append (a b : List Int) : valB (a ++ b) = valB a * 2 ^ b.length + valB b := by
  refine snoc_ind (p := fun b => valB (a ++ b) = valB a * 2 ^ b.length + valB b) b (by simp [valB]) fun b x ih => ?_
  · skip
    rw [← List.append_assoc, valB_snoc, ih, valB_snoc, List.length_append, List.length_singleton, Int.pow_succ]
    rw [Int.add_mul, Int.mul_assoc]
    omega
def bitL (l : List Int) : Prop := ∀ b ∈ l, 0 ≤ b ∧ b ≤ 1
theorem valB_range (l : List Int) (h : bitL l) : 0 ≤ valB l ∧ valB l < 2 ^ l.length := by
  revert h
  refine snoc_ind (p := fun l => bitL l → 0 ≤ valB l ∧ valB l < 2 ^ l.length) l (fun _ => by simp [valB]) fun l x ih h => ?_
  · skip
    have h1 := ih fun b hb => h b (by simp [hb])
    have h2 := h x (by simp)
    rw [valB_snoc, List.length_append, List.length_singleton, Int.pow_succ]
    omega
theorem bitL.take {l : List Int} (h : bitL l) (n : Nat) : bitL (l.take n) := fun b hb => h b (List.mem_of_mem_take hb)
theorem bitL.drop {l : List Int} (h : bitL l) (n : Nat) : bitL (l.drop n) := fun b hb => h b (List.mem_of_mem_drop hb)
theorem bitL.app {l m : List Int} (h : bitL l) (h2 : bitL m) : bitL (l ++ m) := fun b hb => by
  rcases List.mem_append.1 hb with hb | hb
  · exact h b hb
  · exact h2 b hb
theorem bitL.rest {l : List Int} (h : bitL l) : bitL (restL l) := fun b hb => h b (restL_mem _ l (Nat.le_refl _) b hb)
theorem drn_pack : ∀ (k : Nat) (l bits : List Int), bitL bits → bits.length < 8 * k + 8 → drn k l (valB bits) bits.length = (l ++ packL bits, valB (restL bits), ((restL bits).length : Int))
  | 0, l, bits, hb, hn => by rw [packL_lt (by omega), restL_lt (by omega), List.append_nil]; rfl
  | k + 1, l, bits, hb, hn => by
    by_cases h : 8 ≤ bits.length
    · obtain ⟨n, hln⟩ : ∃ n, bits.length = n + 8 := ⟨bits.length - 8, by omega⟩
      have hv : valB bits = valB (bits.take 8) * 2 ^ n + valB (bits.drop 8) := by
        have e := valB_append (bits.take 8) (bits.drop 8)
        rw [List.take_append_drop] at e
        rw [e]
        congr 2
        simp [hln]
      have r1 := valB_range _ (hb.take 8)
      have r2 := valB_range _ (hb.drop 8)
      have l1 : (bits.take 8).length = 8 := by simp; omega
      have l2 : (bits.drop 8).length = n := by simp; omega
      rw [l1] at r1
      rw [l2] at r2
      have e8 : (2 : Int) ^ 8 = 256 := by decide
      rw [e8] at r1
      have hp := two_pos n
      have d1 : valB bits / 2 ^ n = valB (bits.take 8) := by
        rw [hv, Int.add_comm, Int.add_mul_ediv_right _ _ (by omega), Int.ediv_eq_zero_of_lt r2.1 r2.2]; omega
      have d2 : valB bits % 2 ^ n = valB (bits.drop 8) := by
        rw [hv, Int.add_comm, Int.add_mul_emod_self_right, Int.emod_eq_of_lt r2.1 r2.2]
      rw [hln, drn_step, d1, d2, Int.emod_eq_of_lt r1.1 r1.2]
      have IH := drn_pack k (pt l (valB (bits.take 8))) (bits.drop 8) (hb.drop 8) (by omega)
      rw [l2] at IH
      rw [IH, packL_ge h, restL_ge h, st_pt, List.append_assoc]
    · rw [packL_lt (by omega), restL_lt (by omega), List.append_nil, drn, if_neg (by omega)]
/-- Eight 1s at most. -/
def onesL (n : Nat) : List Int := List.replicate n 1
theorem valB_ones (n : Nat) : valB (onesL n) = 2 ^ n - 1 := by
  induction n with
  | zero => rfl
  | succ n ih =>
    have : onesL (n + 1) = onesL n ++ [1] := by unfold onesL; rw [List.replicate_succ']
    rw [this, valB_snoc, ih, Int.pow_succ]
    omega
def tailL (l : List Int) : List Int := if l = [] then [] else st (valB (l ++ onesL (8 - l.length)))
theorem last_tail (l0 l : List Int) (h : l.length < 8) : lastL l0 (valB l) l.length = l0 ++ tailL l := by
  unfold lastL tailL
  by_cases h0 : l = []
  · subst h0; simp
  · have hp : 0 < l.length := List.length_pos_iff.2 h0
    rw [if_pos (by omega), if_neg h0, st_pt]
    have e : (8 - (l.length : Int)).toNat = 8 - l.length := by omega
    have e2 : (onesL (8 - l.length)).length = 8 - l.length := by simp [onesL]
    rw [valB_append, valB_ones, bitP, e, e2]
theorem chunk_shift (n : Nat) (f : Nat → Int) (i j : Nat) : chunk n f (i + 8) j = chunk (n - 8) (fun t => f (t + 8)) i j := by
  unfold chunk
  refine congrArg valB (List.map_congr_left fun t _ => ?_)
  have e1 : i + 8 + t = i + t + 8 := by omega
  rw [e1]
  by_cases h : i + t < n - 8
  · rw [if_pos (by omega), if_pos h]
  · rw [if_neg (by omega), if_neg h]
theorem stB_front (n : Nat) (f : Nat → Int) (q : Nat) : stB n f (q + 1) = st (chunk n f 0 8) ++ stB (n - 8) (fun j => f (j + 8)) q := by
  induction q with
  | zero => rw [stB_succ]; simp [stB]
  | succ q ih =>
    rw [stB_succ, ih, stB_succ, List.append_assoc]
    have e : chunk n f (8 * (q + 1)) 8 = chunk (n - 8) (fun t => f (t + 8)) (8 * q) 8 := by rw [← chunk_shift]; rfl
    rw [e]
theorem chunk_full (l : List Int) (f : Nat → Int) (hf : ∀ j (h : j < l.length), f j = l[j]) (j : Nat) (hj : j ≤ l.length) : chunk l.length f 0 j = valB (l.take j) := by
  induction j with
  | zero => simp [chunk, valB]
  | succ j ih =>
    rw [chunk_succ, ih (by omega), Nat.zero_add, if_pos (by omega), hf j (by omega), List.take_succ_eq_append_getElem (by omega), valB_snoc]
theorem chunk_ones (l : List Int) (f : Nat → Int) (hf : ∀ j (h : j < l.length), f j = l[j]) (k : Nat) : chunk l.length f 0 (l.length + k) = valB (l ++ onesL k) := by
  induction k with
  | zero => rw [Nat.add_zero, chunk_full l f hf _ (Nat.le_refl _), List.take_length]; simp [onesL]
  | succ k ih =>
    have : onesL (k + 1) = onesL k ++ [1] := by unfold onesL; rw [List.replicate_succ']
    rw [← Nat.add_assoc, chunk_succ, ih, if_neg (by omega), this, ← List.append_assoc, valB_snoc]
/-- What the reference makes of bits. -/
theorem stB_pack : ∀ (q : Nat) (l : List Int) (f : Nat → Int), (∀ j (h : j < l.length), f j = l[j]) → (l.length + 7) / 8 = q → stB l.length f q = packL l ++ tailL (restL l)
  | 0, l, f, hf, hq => by
    have : l = [] := List.eq_nil_of_length_eq_zero (by omega)
    subst this
    rw [packL_lt (by simp), restL_lt (by simp)]
    simp [stB, tailL]
  | q + 1, l, f, hf, hq => by
    have hs : stB l.length f (q + 1) = st (chunk l.length f 0 8) ++ stB (l.drop 8).length (fun j => f (j + 8)) q := by
      rw [List.length_drop]
      exact stB_front l.length f q
    rw [hs]
    by_cases h : 8 ≤ l.length
    · rw [stB_pack q (l.drop 8) (fun j => f (j + 8)) (fun j hj => by rw [hf (j + 8) (by simp at hj; omega)]; simp [Nat.add_comm]) (by simp; omega), packL_ge h, restL_ge h, List.append_assoc]
      rw [chunk_full l f hf 8 h]
    · have hq0 : q = 0 := by omega
      subst hq0
      have hd : l.drop 8 = [] := List.drop_eq_nil_of_le (by omega)
      rw [hd, packL_lt (by omega), restL_lt (by omega)]
      have hne : l ≠ [] := by intro e; subst e; simp at hq
      have e0 : stB ([] : List Int).length (fun j => f (j + 8)) 0 = [] := by simp [stB]
      rw [e0, List.append_nil, List.nil_append, tailL, if_neg hne]
      have e8 : 8 = l.length + (8 - l.length) := by omega
      have := chunk_ones l f hf (8 - l.length)
      rw [← e8] at this
      rw [this]
end Go.Proofs.Ytaofponadaifiaa

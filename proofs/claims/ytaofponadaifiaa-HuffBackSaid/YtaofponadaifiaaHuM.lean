/- Plain law: what was put is what the reader's bits are, and its symbols. No condition. -/
import Derived.Test.YtaofponadaifiaaHuL
import Derived.Test.YtaofponadaifiaaBkQ
namespace Go.Proofs.Ytaofponadaifiaa
open Go.RowKit
set_option linter.unusedSimpArgs false
set_option linter.unusedVariables false
theorem valB_one (b : Int) : valB [b] = b := by simp [valB]
theorem bit1_cons (s : ByteArray) (a : Nat) (b : Int) (H : List Int) : bit1 s a (b :: H) = some (b, a, H) := by
  unfold bit1
  rw [rdB_one, if_neg (by simp)]
  simp [valB_one]
theorem InvR.tail {s : ByteArray} {a : Nat} {b : Int} {H : List Int} (I : InvR s a (b :: H)) : InvR s a H := ⟨by have := I.bits.drop 1; simpa using this, by have := I.few; simp at this; omega, I.le⟩
theorem remB_held (s : ByteArray) (a : Nat) : ∀ (H : List Int), InvR s a H → remB s a H = H ++ remB s a []
  | [], _ => rfl
  | b :: H, I => by rw [remB_some I (bit1_cons s a b H), remB_held s a H I.tail, List.cons_append]
theorem bytesOf_len (S : List Int) : (bytesOf S).size = S.length := by simp [bytesOf, ByteArray.size]
theorem remB_units (S : List Int) : ∀ (U : List Int) (a : Nat), (∀ b ∈ U, 0 ≤ b ∧ b < 256) → a ≤ S.length → S.drop a = stf U → remB (bytesOf S) a [] = bitsU U
  | [], a, _, ha, h => by
    have hl : S.length ≤ a := by
      have := congrArg List.length h
      simp [stf] at this
      omega
    refine remB_none ?_
    unfold bit1
    rw [rdB_one, if_pos (by simp), if_pos (by unfold wholeV; rw [if_pos (by rw [bytesOf_len]; omega)])]
  | u :: U, a, hU, ha, h => by
    obtain ⟨u0, u1⟩ := hU u (by simp)
    have hd : S.drop a = st u ++ stf U := by rw [h]; simp [stf]
    have hw := whole_unit S (stf U) a u hd u0 u1
    have hst : 0 < (st u).length := by unfold st; split <;> simp
    have hlen : a + (st u).length ≤ S.length := by
      have := congrArg List.length hd
      rw [List.length_drop, List.length_append] at this
      omega
    have hne : ¬ (wholeV (bytesOf S) a).2 = 0 := by rw [hw]; simp only; omega
    have hr : rdB (bytesOf S) 1 3 [] a = some (bitsN 8 u, a + (st u).length) := by
      rw [rdB_one, if_pos (by simp), if_neg hne, hw]
    obtain ⟨c, B, hB⟩ : ∃ c B, bitsN 8 u = c :: B := by
      cases hb : bitsN 8 u with
      | nil => have := congrArg List.length hb; rw [bitsN_len] at this; simp at this
      | cons c B => exact ⟨c, B, rfl⟩
    have hb1 : bit1 (bytesOf S) a [] = some (c, a + (st u).length, B) := by
      unfold bit1
      rw [hr]
      simp only [hB, List.take_succ_cons, List.take_zero, List.drop_succ_cons, List.drop_zero, valB_one]
    have I0 : InvR (bytesOf S) a [] := ⟨(fun b hb => by cases hb), by simp, by rw [bytesOf_len]; exact ha⟩
    have I1 := (bit1_ok I0 hb1).1
    rw [remB_some I0 hb1, remB_held _ _ B I1, remB_units S U (a + (st u).length) (fun b hb => hU b (by simp [hb])) hlen (by rw [← List.drop_drop, hd, List.drop_left]), ← List.cons_append, ← hB]
    simp [bitsU]
/-- Puts alone. -/
def putE (l : List (Nat × Nat)) : List Ev := l.map fun p => .put p.1 p.2
theorem nextY_put (l : List (Nat × Nat)) : nextY (putE l) = [] := by
  induction l with
  | nil => rfl
  | cons p l ih => exact ih
theorem remB_enc (l : List (Nat × Nat)) : remB (bytesOf (enc [] (putE l))) 0 [] = segB [] (putE l) := by
  obtain ⟨h1, h2⟩ := seg_bits (putE l) [] (by simp) (fun b hb => by cases hb)
  have e : enc [] (putE l) = stf (segU [] (putE l)) := by unfold enc; rw [nextY_put, List.append_nil]
  rw [e, remB_units _ (segU [] (putE l)) 0 h2 (Nat.zero_le _) (by rw [List.drop_zero]), h1, List.nil_append]
theorem hitG_spec {s : ByteArray} {g : GS} {n : Nat} {v : Int} {x : Nat} : ∀ (k i : Nat), hitG s g n v k i = some x → ∃ q, i ≤ q ∧ q < i + k ∧ g.ni q = n ∧ (g.bi q : Int) = v ∧ symN s q = x
  | 0, i, h => by cases h
  | k + 1, i, h => by
    rw [hitG] at h
    by_cases e : g.ni i = n ∧ (g.bi i : Int) = v
    · rw [if_pos e] at h
      injection h with h
      exact ⟨i, Nat.le_refl _, by omega, e.1, e.2, h⟩
    · rw [if_neg e] at h
      obtain ⟨q, h1, h2, h3⟩ := hitG_spec k (i + 1) h
      exact ⟨q, by omega, by omega, h3⟩
/-- Behind the code of a symbol: the symbol. -/
theorem dec_code {cnt : Nat → Int} {s : ByteArray} {st : HS} {g : GS} (hc : ∀ j, j < 16 → 0 ≤ cnt j ∧ cnt j ≤ 255) (h0 : hufNew cnt s = some st) (hg : gOut cnt s 16 = some g) (hS : Sim s st g) (x l v : Nat) (hC : CodeIs st x l v) (hl : l ≤ 16) (R : List Int) :
    decP cnt s (bitsN l v ++ R) = ((x : Int), l, 0) := by
  rw [dec_both hc h0 hg]
  unfold decG
  have hPF := prefix_free h0
  have entry : ∀ q, q < g.at_ → CodeIs st (symN s q) (g.ni q) (g.bi q) := fun q hq => by
    obtain ⟨e1, e2, e3⟩ := hS.cell q hq
    exact ⟨e2, e1, e3, (hS.ok q hq).1⟩
  obtain ⟨qx, hqx, hqs⟩ := hS.sup x (by rw [hC.1]; have := hC.2.2.1; omega)
  have hqe := entry qx hqx
  rw [hqs] at hqe
  have hnx : g.ni qx = l := by have h1 := hqe.1; have h2 := hC.1; omega
  have hbx : g.bi qx = v := by have h1 := hqe.2.1; have h2 := hC.2.1; omega
  have hv0 : (0 : Int) ≤ (v : Int) ∧ (v : Int) < 2 ^ l := by
    have := hC.2.2.2
    obtain ⟨Q, q1, q2, _⟩ := pow_cast l
    rw [q1]; omega
  have main : ∀ (B A : List Int), bitsN l v = A ++ B → B ≠ [] → goD (fun n v => hitG s g n v g.at_ 0) (16 - A.length) (A.length + 1) (valB A) (B ++ R) = ((x : Int), l, 0) := by
    intro B
    induction B with
    | nil => intro A _ h; exact absurd rfl h
    | cons b B ih =>
      intro A hAB _
      have hlen : l = A.length + (B.length + 1) := by
        have := congrArg List.length hAB
        rw [bitsN_len, List.length_append, List.length_cons] at this
        exact this
      have hval : (v : Int) = valB (A ++ [b]) * 2 ^ B.length + valB B := by
        have h1 := bitsN_inj l v hv0.1 hv0.2
        rw [← h1, hAB, show A ++ b :: B = (A ++ [b]) ++ B by simp, valB_append]
      have hvb : valB A * 2 + b = valB (A ++ [b]) := by
        rw [valB_append, valB_one]; rfl
      have hbl : bitL B := by
        have h1 : bitL (bitsN l v) := bitsN_bit l v
        rw [hAB] at h1
        exact fun c hc => h1 c (by simp [hc])
      have hrB := valB_range B hbl
      obtain ⟨f, hf⟩ : ∃ f, 16 - A.length = f + 1 := ⟨15 - A.length, by omega⟩
      rw [hf, List.cons_append, goD, hvb]
      by_cases hB : B = []
      · subst hB
        have e1 : A.length + 1 = l := by simp at hlen; omega
        have e2 : valB (A ++ [b]) = v := by
          rw [hval]; simp [valB]
        rw [e1, e2]
        have hh : hitG s g l v g.at_ 0 = some x := by
          refine hitG_some _ _ _ (fun q _ hq hqn hqv => ?_) ⟨qx, Nat.zero_le _, by omega, hnx, by rw [hbx]⟩
          have h1 := entry q (by omega)
          by_cases e : symN s q = x
          · exact e
          · have h2 := hPF (symN s q) x _ _ _ _ e h1 hC (by omega)
            rw [hqn, Nat.sub_self] at h2
            simp at h2
            omega
        rw [hh]
      · have hnone : hitG s g (A.length + 1) (valB (A ++ [b])) g.at_ 0 = none := by
          cases hh : hitG s g (A.length + 1) (valB (A ++ [b])) g.at_ 0 with
          | none => rfl
          | some y =>
            obtain ⟨q, _, hq, hqn, hqv, hqy⟩ := hitG_spec _ _ hh
            have h1 := entry q (by omega)
            have hBl : 0 < B.length := List.length_pos_iff.2 hB
            have hne : x ≠ symN s q := fun e => by
              have h2 := h1.1
              rw [← e, hC.1] at h2
              omega
            have h2 := hPF x (symN s q) _ _ _ _ hne hC h1 (by omega)
            have e3 : l - g.ni q = B.length := by omega
            rw [e3] at h2
            exfalso
            apply h2
            have hp : (0 : Int) < 2 ^ B.length := by have := two_pos B.length; omega
            have h5 : (v : Int) / 2 ^ B.length = valB (A ++ [b]) := by
              rw [hval, Int.add_comm, Int.add_mul_ediv_right _ _ (by omega), Int.ediv_eq_zero_of_lt hrB.1 hrB.2]; omega
            have h6 : ((v / 2 ^ B.length : Nat) : Int) = (g.bi q : Int) := by
              rw [hqv, ← h5]; norm_cast
            exact_mod_cast h6
        rw [hnone]
        simp only
        have h7 := ih (A ++ [b]) (by rw [hAB]; simp) hB
        rw [List.length_append, List.length_singleton] at h7
        rw [show f = 16 - (A.length + 1) by omega]
        exact h7
  have h8 := main (bitsN l v) [] rfl (by intro e; have := congrArg List.length e; rw [bitsN_len] at this; have := hC.2.2.1; simp at *; omega)
  exact h8
end Go.Proofs.Ytaofponadaifiaa

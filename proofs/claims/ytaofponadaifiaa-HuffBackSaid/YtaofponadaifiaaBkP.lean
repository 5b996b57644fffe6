/- Plain laws: what was put is read again. No condition. -/
import Derived.Test.YtaofponadaifiaaRdW
import Derived.Test.YtaofponadaifiaaWrW
namespace Go.Proofs.Ytaofponadaifiaa
open Go.RowKit
set_option linter.unusedSimpArgs false
set_option linter.unusedVariables false
inductive Ev where
  | put (v : Int) (n : Nat)
  | mark (x : Int)
/-- The bytes of whole runs of eight bits. -/
def pk (l : List Int) : List Int := if h : 8 ≤ l.length then valB (l.take 8) :: pk (l.drop 8) else []
termination_by l.length
decreasing_by simp; omega
def stf (U : List Int) : List Int := (U.map st).flatten
def bitsU (U : List Int) : List Int := (U.map (bitsN 8)).flatten
theorem stf_app (U V : List Int) : stf (U ++ V) = stf U ++ stf V := by simp [stf]
theorem bitsU_app (U V : List Int) : bitsU (U ++ V) = bitsU U ++ bitsU V := by simp [bitsU]
theorem bitsU_len (U : List Int) : (bitsU U).length = 8 * U.length := by
  induction U with
  | nil => rfl
  | cons b U ih => simp only [bitsU, List.map_cons, List.flatten_cons, List.length_append, bitsN_len, List.length_cons] at *; omega
theorem pk_pack : ∀ (n : Nat) (l : List Int), l.length ≤ n → stf (pk l) = packL l
  | n, l, hn => by
    by_cases h : 8 ≤ l.length
    · match n, hn with
      | n + 1, hn =>
        rw [pk, dif_pos h, packL_ge h, ← pk_pack n (l.drop 8) (by simp; omega)]
        simp [stf]
      | 0, hn => omega
    · rw [pk, dif_neg h, packL_lt (by omega)]; rfl
theorem bits_val (l : List Int) (hb : bitL l) : bitsN l.length (valB l) = l := by
  revert hb
  refine snoc_ind (p := fun l => bitL l → bitsN l.length (valB l) = l) l (fun _ => rfl) fun l x ih hb => ?_
  have hx := hb x (by simp)
  have h1 := ih fun b h => hb b (by simp [h])
  rw [valB_snoc, List.length_append, List.length_singleton, bitsN]
  have e1 : (valB l * 2 + x) / 2 = valB l := by omega
  have e2 : (valB l * 2 + x) % 2 = x := by omega
  rw [e1, e2, h1]
theorem pk_rest : ∀ (n : Nat) (l : List Int), l.length ≤ n → bitL l → bitsU (pk l) ++ restL l = l
  | n, l, hn, hb => by
    by_cases h : 8 ≤ l.length
    · match n, hn with
      | n + 1, hn =>
        rw [pk, dif_pos h, restL_ge h]
        have h8 : (l.take 8).length = 8 := by simp; omega
        have e := bits_val (l.take 8) (hb.take 8)
        rw [h8] at e
        have ih := pk_rest n (l.drop 8) (by simp; omega) (hb.drop 8)
        have e2 : bitsU (valB (l.take 8) :: pk (l.drop 8)) = l.take 8 ++ bitsU (pk (l.drop 8)) := by simp [bitsU, e]
        rw [e2, List.append_assoc, ih, List.take_append_drop]
      | 0, hn => omega
    · rw [pk, dif_neg h, restL_lt (by omega)]; rfl
theorem pk_byte : ∀ (n : Nat) (l : List Int), l.length ≤ n → bitL l → ∀ b ∈ pk l, 0 ≤ b ∧ b < 256
  | n, l, hn, hb, b, hm => by
    by_cases h : 8 ≤ l.length
    · match n, hn with
      | n + 1, hn =>
        rw [pk, dif_pos h] at hm
        rcases List.mem_cons.1 hm with rfl | hm
        · have r := valB_range _ (hb.take 8)
          have h8 : (l.take 8).length = 8 := by simp; omega
          rw [h8] at r
          have e : (2 : Int) ^ 8 = 256 := by decide
          omega
        · exact pk_byte n (l.drop 8) (by simp; omega) (hb.drop 8) b hm
      | 0, hn => omega
    · rw [pk, dif_neg h] at hm; cases hm
/-- 1s up to a whole byte. -/
def pad (W : List Int) : List Int := if W = [] then [] else onesL (8 - W.length)
def padU (W : List Int) : List Int := if W = [] then [] else [valB (W ++ onesL (8 - W.length))]
theorem ones_bit (n : Nat) : bitL (onesL n) := fun b hb => by
  have := List.eq_of_mem_replicate hb
  omega
theorem pad_len (W : List Int) (h : W.length < 8) : (pad W).length < 8 ∧ valB (pad W) = 2 ^ (pad W).length - 1 := by
  unfold pad
  split
  · exact ⟨by simp, rfl⟩
  · rename_i h0
    have hl : (onesL (8 - W.length)).length = 8 - W.length := by simp [onesL]
    have := List.length_pos_iff.2 h0
    exact ⟨by omega, by rw [valB_ones, hl]⟩
theorem padU_bits (W : List Int) (h : W.length < 8) (hb : bitL W) : bitsU (padU W) = W ++ pad W := by
  unfold padU pad
  split
  · rename_i h0; subst h0; rfl
  · have hl : (W ++ onesL (8 - W.length)).length = 8 := by simp [onesL]; omega
    have e := bits_val (W ++ onesL (8 - W.length)) (hb.app (ones_bit _))
    rw [hl] at e
    simp [bitsU, e]
theorem padU_tail (W : List Int) : stf (padU W) = tailL W := by
  unfold padU tailL
  split
  · rfl
  · simp [stf]
theorem padU_byte (W : List Int) (h : W.length < 8) (hb : bitL W) : ∀ b ∈ padU W, 0 ≤ b ∧ b < 256 := by
  intro b hm
  unfold padU at hm
  split at hm
  · cases hm
  · rw [List.mem_singleton] at hm
    subst hm
    have hl : (W ++ onesL (8 - W.length)).length = 8 := by simp [onesL]; omega
    have r := valB_range _ (hb.app (ones_bit (8 - W.length)))
    rw [hl] at r
    have e : (2 : Int) ^ 8 = 256 := by decide
    omega
/-- The bytes of the segment from held bits W on; what follows it; its bits behind W. -/
def segU : List Int → List Ev → List Int
  | W, [] => padU W
  | W, .put v n :: es => pk (W ++ bitsN n v) ++ segU (restL (W ++ bitsN n v)) es
  | W, .mark _ :: _ => padU W
def nextY : List Ev → List Int
  | [] => []
  | .put _ _ :: es => nextY es
  | .mark x :: es => 255 :: x :: (stf (segU [] es) ++ nextY es)
def segB : List Int → List Ev → List Int
  | W, [] => pad W
  | W, .put v n :: es => bitsN n v ++ segB (restL (W ++ bitsN n v)) es
  | W, .mark _ :: _ => pad W
def enc (W : List Int) (es : List Ev) : List Int := stf (segU W es) ++ nextY es
theorem rest_lt (l : List Int) : (restL l).length < 8 := by have := restL_len _ l (Nat.le_refl _); omega
theorem seg_bits (es : List Ev) : ∀ W : List Int, W.length < 8 → bitL W → bitsU (segU W es) = W ++ segB W es ∧ ∀ b ∈ segU W es, 0 ≤ b ∧ b < 256 := by
  induction es with
  | nil => intro W h hb; exact ⟨padU_bits W h hb, padU_byte W h hb⟩
  | cons e es ih =>
    intro W h hb
    cases e with
    | mark x => exact ⟨padU_bits W h hb, padU_byte W h hb⟩
    | put v n =>
      have hT : bitL (W ++ bitsN n v) := hb.app (bitsN_bit n v)
      obtain ⟨h1, h2⟩ := ih (restL (W ++ bitsN n v)) (rest_lt _) hT.rest
      refine ⟨?_, fun b hm => ?_⟩
      · show bitsU (pk (W ++ bitsN n v) ++ segU (restL (W ++ bitsN n v)) es) = W ++ (bitsN n v ++ segB (restL (W ++ bitsN n v)) es)
        rw [bitsU_app, h1, ← List.append_assoc, pk_rest _ _ (Nat.le_refl _) hT, List.append_assoc]
      · rcases List.mem_append.1 hm with hm | hm
        · exact pk_byte _ _ (Nat.le_refl _) hT b hm
        · exact h2 b hm
theorem enc_put (W : List Int) (v : Int) (n : Nat) (es : List Ev) : enc W (.put v n :: es) = packL (W ++ bitsN n v) ++ enc (restL (W ++ bitsN n v)) es := by
  unfold enc
  rw [segU, nextY, stf_app, pk_pack _ _ (Nat.le_refl _), List.append_assoc]
theorem enc_mark (W : List Int) (x : Int) (es : List Ev) : enc W (.mark x :: es) = tailL W ++ [255, x] ++ enc [] es := by
  unfold enc
  rw [segU, nextY, padU_tail]
  simp
theorem enc_nil (W : List Int) : enc W [] = tailL W := by unfold enc; rw [segU, nextY, padU_tail, List.append_nil]
/-! ### reading -/
/-- Where a reader of the bytes S stands: at a, with bits H held; es are to come, W was held by the writer. -/
structure RS (S : List Int) (a : Nat) (H W : List Int) (es : List Ev) : Prop where
  w8 : W.length < 8
  wb : bitL W
  h8 : H.length < 8
  hb : bitL H
  le : a ≤ S.length
  at_ : ∃ U, (∀ b ∈ U, 0 ≤ b ∧ b < 256) ∧ S.drop a = stf U ++ nextY es ∧ H ++ bitsU U = segB W es
theorem byteA_list (S : List Int) (i : Nat) (hi : i < S.length) (h0 : 0 ≤ S[i]) (h1 : S[i] < 256) : byteA (bytesOf S) i = S[i] := by
  have hs : i < (bytesOf S).size := by rw [bytesOf_size]; exact hi
  rw [byteA_eq _ _ hs]
  exact bytesOf_at S i S[i] (by simp [hi]) h0 h1 hs
theorem drop_get {S X : List Int} {a i : Nat} {b : Int} (h : S.drop a = X) (hb : X[i]? = some b) : ∃ hl : a + i < S.length, S[a + i] = b := by
  rw [← h, List.getElem?_drop] at hb
  exact List.getElem?_eq_some_iff.1 hb
theorem whole_unit (S R : List Int) (a : Nat) (b : Int) (h : S.drop a = st b ++ R) (h0 : 0 ≤ b) (h1 : b < 256) : wholeV (bytesOf S) a = (b, (st b).length) := by
  unfold st at h ⊢
  by_cases hb : b = 255
  · rw [if_pos hb] at h ⊢
    obtain ⟨l0, e0⟩ := drop_get (i := 0) (b := 255) h (by simp)
    obtain ⟨l1, e1⟩ := drop_get (i := 1) (b := 0) h (by simp)
    have f0 : byteA (bytesOf S) a = 255 := by have := byteA_list S a l0 (by simp at e0; rw [e0]; decide) (by simp at e0; rw [e0]; decide); rw [this]; exact e0
    have f1 : byteA (bytesOf S) (a + 1) = 0 := by have := byteA_list S (a + 1) l1 (by rw [e1]; decide) (by rw [e1]; decide); rw [this]; exact e1
    unfold wholeV
    rw [bytesOf_size, if_neg (by omega), if_neg (by rw [f0]; simp), if_pos ⟨by omega, f1⟩, hb]
    rfl
  · rw [if_neg hb] at h ⊢
    obtain ⟨l0, e0⟩ := drop_get (i := 0) (b := b) h (by simp)
    have f0 : byteA (bytesOf S) a = b := by have := byteA_list S a l0 (by simp at e0; rw [e0]; exact h0) (by simp at e0; rw [e0]; exact h1); rw [this]; exact e0
    unfold wholeV
    rw [bytesOf_size, if_neg (by simp at l0; omega), if_pos (by rw [f0]; exact hb), f0]
    rfl
theorem rdB_units (S Y B Z : List Int) (n : Nat) (hB : B.length = n) : ∀ (f : Nat) (H : List Int) (a : Nat) (U : List Int), (∀ b ∈ U, 0 ≤ b ∧ b < 256) → bitL H → a ≤ S.length → S.drop a = stf U ++ Y → H ++ bitsU U = B ++ Z → n ≤ H.length + 8 * f → H.length < n + 8 →
    ∃ H' a' U', rdB (bytesOf S) n f H a = some (H', a') ∧ (∀ b ∈ U', 0 ≤ b ∧ b < 256) ∧ bitL H' ∧ a' ≤ S.length ∧ S.drop a' = stf U' ++ Y ∧ H' ++ bitsU U' = B ++ Z ∧ n ≤ H'.length ∧ H'.length < n + 8
  | 0, H, a, U, hU, hb, ha, hd, he, h1, h2 => ⟨H, a, U, rfl, hU, hb, ha, hd, he, by omega, h2⟩
  | f + 1, H, a, U, hU, hb, ha, hd, he, h1, h2 => by
    rw [rdB]
    by_cases h : H.length < n
    · cases U with
      | nil =>
        exfalso
        have := congrArg List.length he
        simp [bitsU] at this
        omega
      | cons b U =>
        have hbr := hU b (by simp)
        have hd2 : S.drop a = st b ++ (stf U ++ Y) := by rw [hd]; simp [stf]
        have hw := whole_unit S _ a b hd2 hbr.1 hbr.2
        have hz : (st b).length ≠ 0 := by unfold st; split <;> simp
        rw [if_pos h, hw, if_neg hz]
        have hd3 : S.drop (a + (st b).length) = stf U ++ Y := by rw [← List.drop_drop, hd2, List.drop_left]
        have ha3 : a + (st b).length ≤ S.length := by
          have := congrArg List.length hd2
          simp at this
          omega
        exact rdB_units S Y B Z n hB f (H ++ bitsN 8 b) (a + (st b).length) U (fun c hc => hU c (by simp [hc])) (hb.app (bitsN_bit 8 b)) ha3 hd3 (by rw [List.append_assoc, ← he]; simp [bitsU]) (by rw [List.length_append, bitsN_len]; omega) (by rw [List.length_append, bitsN_len]; omega)
    · rw [if_neg h]
      exact ⟨H, a, U, rfl, hU, hb, ha, hd, he, by omega, h2⟩
theorem RS.put {S H W : List Int} {a n : Nat} {v : Int} {es : List Ev} (R : RS S a H W (.put v n :: es)) (hn : n ≤ 16) (v0 : 0 ≤ v) (v1 : v < 2 ^ n) :
    ∃ H' a', rdB (bytesOf S) n 3 H a = some (H', a') ∧ valB (H'.take n) = v ∧ RS S a' (H'.drop n) (restL (W ++ bitsN n v)) es := by
  obtain ⟨U, hU, hd, he⟩ := R.at_
  obtain ⟨H', a', U', h1, h2, h3, h4, h5, h6, h7, h8⟩ := rdB_units S (nextY es) (bitsN n v) (segB (restL (W ++ bitsN n v)) es) n (bitsN_len n v) 3 H a U hU R.hb R.le hd he (by omega) (by have := R.h8; omega)
  have ht : H'.take n = bitsN n v := by
    have := congrArg (List.take n) h6
    have e2 : (bitsN n v).take n = bitsN n v := List.take_of_length_le (by rw [bitsN_len]; omega)
    rwa [List.take_append_of_le_length h7, List.take_append_of_le_length (by rw [bitsN_len]; omega), e2] at this
  have hdr : H'.drop n ++ bitsU U' = segB (restL (W ++ bitsN n v)) es := by
    have := congrArg (List.drop n) h6
    rwa [List.drop_append_of_le_length h7, List.drop_left' (by rw [bitsN_len])] at this
  exact ⟨H', a', h1, by rw [ht, bitsN_inj n v v0 v1], ⟨rest_lt _, (R.wb.app (bitsN_bit n v)).rest, by simp; omega, h3.drop n, h4, ⟨U', h2, h5, hdr⟩⟩⟩
theorem RS.pad_ {S H W : List Int} {a : Nat} {es : List Ev} (R : RS S a H W es) (hs : segB W es = pad W) : H = pad W ∧ S.drop a = nextY es := by
  obtain ⟨U, hU, hd, he⟩ := R.at_
  rw [hs] at he
  have hl := congrArg List.length he
  rw [List.length_append, bitsU_len] at hl
  have := (pad_len W R.w8).1
  obtain rfl : U = [] := List.eq_nil_of_length_eq_zero (by omega)
  refine ⟨by simpa [bitsU] using he, by simpa [stf] using hd⟩
theorem RS.mark {S H W : List Int} {a : Nat} {x : Int} {es : List Ev} (R : RS S a H W (.mark x :: es)) (x0 : 1 ≤ x) (x1 : x ≤ 254) :
    H.length < 8 ∧ valB H = 2 ^ H.length - 1 ∧ markerV (bytesOf S) a = (x, 2) ∧ RS S (a + 2) [] [] es := by
  obtain ⟨hH, hd⟩ := R.pad_ rfl
  have hp := pad_len W R.w8
  rw [← hH] at hp
  rw [nextY] at hd
  obtain ⟨l0, e0⟩ := drop_get (i := 0) (b := 255) hd (by simp)
  obtain ⟨l1, e1⟩ := drop_get (i := 1) (b := x) hd (by simp)
  have f0 : byteA (bytesOf S) a = 255 := by have := byteA_list S a l0 (by simp at e0; rw [e0]; decide) (by simp at e0; rw [e0]; decide); rw [this]; exact e0
  have f1 : byteA (bytesOf S) (a + 1) = x := by have := byteA_list S (a + 1) l1 (by rw [e1]; omega) (by rw [e1]; omega); rw [this]; exact e1
  have hE : ∀ f, 2 ≤ f → ffE (bytesOf S) f a = a + 1 := by
    intro f hf
    obtain ⟨g, rfl⟩ : ∃ g, f = g + 2 := ⟨f - 2, by omega⟩
    rw [ffE, if_pos ⟨by rw [bytesOf_size]; simpa using l0, f0⟩, ffE, if_neg (by rw [f1]; intro e; omega)]
  refine ⟨hp.1, hp.2, ?_, ⟨by simp, (fun b hb => by cases hb), by simp, (fun b hb => by cases hb), by omega, ⟨segU [] es, (seg_bits es [] (by simp) (fun b hb => by cases hb)).2, ?_, (seg_bits es [] (by simp) (fun b hb => by cases hb)).1⟩⟩⟩
  · unfold markerV
    rw [hE _ (by rw [bytesOf_size]; omega), if_neg (by rw [bytesOf_size, f1]; intro e; rcases e with e | e | e <;> omega), f1]
    congr 1
    omega
  · rw [← List.drop_drop, hd]; rfl
theorem RS.last {S H W : List Int} {a : Nat} (R : RS S a H W []) : H.length < 8 ∧ valB H = 2 ^ H.length - 1 ∧ a = S.length := by
  obtain ⟨hH, hd⟩ := R.pad_ rfl
  have hp := pad_len W R.w8
  rw [← hH] at hp
  refine ⟨hp.1, hp.2, ?_⟩
  have := congrArg List.length hd
  rw [nextY] at this
  simp at this
  have := R.le
  omega
theorem RS.first (es : List Ev) : RS (enc [] es) 0 [] [] es :=
  ⟨by simp, (fun b hb => by cases hb), by simp, (fun b hb => by cases hb), Nat.zero_le _, ⟨segU [] es, (seg_bits es [] (by simp) (fun b hb => by cases hb)).2, rfl, (seg_bits es [] (by simp) (fun b hb => by cases hb)).1⟩⟩
end Go.Proofs.Ytaofponadaifiaa

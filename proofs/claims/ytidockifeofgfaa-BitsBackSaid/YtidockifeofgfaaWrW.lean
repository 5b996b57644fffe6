/- What both writers' calls answer, together. No condition. -/
import Derived.Test.YtidockifeofgfaaStuf
import Derived.Test.YtidockifeofgfaaRfE
import Derived.Test.YtidockifeofgfaaBitW
namespace Go.Proofs.Ytidockifeofgfaa
open Go.RowKit
set_option linter.unusedSimpArgs false
set_option linter.unusedVariables false
/-- Both writers have the same, behind k calls. -/
structure InvW (l : List Int) (h c t : Int) (D : ByteArray) (L : List Int) (k : Nat) : Prop where
  old : ∃ l0, D = bytesOf l0 ∧ l = l0 ++ packL L
  held : h = valB (restL L)
  cnt : c = (restL L).length
  tot : t = L.length
  bits : bitL L
  few : L.length ≤ 16 * k
  len : l.length ≤ 8 * k
  sz : D.size ≤ 8 * k
theorem InvW.up {l : List Int} {h c t : Int} {D : ByteArray} {L : List Int} {k : Nat} (H : InvW l h c t D L k) : InvW l h c t D L (k + 1) := ⟨H.old, H.held, H.cnt, H.tot, H.bits, by have := H.few; omega, by have := H.len; omega, by have := H.sz; omega⟩
theorem InvW.c8 {l : List Int} {h c t : Int} {D : ByteArray} {L : List Int} {k : Nat} (H : InvW l h c t D L k) : 0 ≤ c ∧ c < 8 ∧ 0 ≤ h ∧ h < 2 ^ c.toNat := by
  have r := valB_range _ H.bits.rest
  have e := restL_len _ L (Nat.le_refl _)
  rw [H.cnt, H.held, Int.toNat_natCast]
  exact ⟨by omega, by omega, r.1, r.2⟩
theorem bitsN_bitL (n : Nat) (v : Int) : bitL (bitsN n v) := bitsN_bit n v
theorem bitsL_at {L : List Int} (h : bitL L) (j : Nat) (hj : j < L.length) : 0 ≤ L.getD j 0 ∧ L.getD j 0 ≤ 1 := by
  have e : L.getD j 0 = L[j] := by simp [hj]
  rw [e]
  exact h _ (List.getElem_mem hj)
/-- What the program's put leaves, and what the reference's. -/
theorem InvW.put {l : List Int} {h c t : Int} {D : ByteArray} {L : List Int} {k : Nat} (H : InvW l h c t D L k) (v : Int) (n : Nat) (hn : n ≤ 16) (v0 : 0 ≤ v) (v1 : v < 2 ^ n) :
    InvW (drn 3 l (h * 2 ^ n + v) (c + n)).1 (drn 3 l (h * 2 ^ n + v) (c + n)).2.1 (drn 3 l (h * 2 ^ n + v) (c + n)).2.2 (t + n) D (L ++ bitsN n v) (k + 1) := by
  obtain ⟨l0, hD, hl⟩ := H.old
  have hv : valB (restL L ++ bitsN n v) = h * 2 ^ n + v := by rw [valB_append, bitsN_len, bitsN_inj n v v0 v1, H.held]
  have hlen : ((restL L ++ bitsN n v).length : Int) = c + n := by rw [List.length_append, bitsN_len, H.cnt]; omega
  have hr := restL_len _ L (Nat.le_refl _)
  have hb : bitL (restL L ++ bitsN n v) := H.bits.rest.app (bitsN_bitL n v)
  have hlt : (restL L ++ bitsN n v).length < 8 * 3 + 8 := by rw [List.length_append, bitsN_len]; omega
  have hd := drn_pack 3 l _ hb hlt
  rw [hv, hlen] at hd
  rw [hd]
  obtain ⟨p1, p2⟩ := packL_append _ L (bitsN n v) (Nat.le_refl _)
  have hvr := valB_range _ hb
  rw [hv] at hvr
  have hcn : (c + (n : Int)).toNat = (restL L ++ bitsN n v).length := by omega
  have h8 := H.c8
  have h6 := (drn_ok 3 l (h * 2 ^ n + v) (c + n) (by omega) (by omega) hvr.1 (by rw [hcn]; exact hvr.2)).2.2.2.2.1
  rw [hd] at h6
  have h7 : (l ++ packL (restL L ++ bitsN n v)).length ≤ l.length + 2 * 3 := h6
  refine ⟨⟨l0, hD, ?_⟩, ?_, ?_, ?_, H.bits.app (bitsN_bitL n v), ?_, ?_, ?_⟩
  · show l ++ packL (restL L ++ bitsN n v) = l0 ++ packL (L ++ bitsN n v)
    rw [hl, p1, List.append_assoc]
  · show valB (restL (restL L ++ bitsN n v)) = _; rw [p2]
  · show ((restL (restL L ++ bitsN n v)).length : Int) = _; rw [p2]
  · rw [List.length_append, bitsN_len, H.tot]; omega
  · rw [List.length_append, bitsN_len]; have := H.few; omega
  · have := H.len
    show (l ++ packL (restL L ++ bitsN n v)).length ≤ _
    omega
  · have := H.sz; omega
/-- All bytes. -/
theorem InvW.all {l : List Int} {h c t : Int} {D : ByteArray} {L : List Int} {k : Nat} (H : InvW l h c t D L k) (f : Nat → Int) (hf : ∀ j (hj : j < L.length), f j = L[j]) :
    D ++ bytesOf (stB L.length f ((L.length + 7) / 8)) = bytesOf (lastL l h c) := by
  obtain ⟨l0, hD, hl⟩ := H.old
  have hr := restL_len _ L (Nat.le_refl _)
  rw [stB_pack _ L f hf rfl, H.held, H.cnt, last_tail _ _ (by omega), hl, hD, ← bytesOf_append, List.append_assoc]
theorem InvW.mark {l : List Int} {h c t : Int} {D : ByteArray} {L : List Int} {k : Nat} (H : InvW l h c t D L k) (f : Nat → Int) (hf : ∀ j (hj : j < L.length), f j = L[j]) (x : Int) :
    InvW (lastL l h c ++ [255, x]) 0 0 0 (D ++ bytesOf (stB L.length f ((L.length + 7) / 8)) ++ ⟨#[255]⟩ ++ bytesOf [x]) [] (k + 1) := by
  have e : D ++ bytesOf (stB L.length f ((L.length + 7) / 8)) ++ ⟨#[255]⟩ ++ bytesOf [x] = bytesOf (lastL l h c ++ [255, x]) := by
    rw [H.all f hf, ByteArray.append_assoc, bytesOf_append]
    rfl
  have hl := lastL_len l h c
  have := H.len
  refine ⟨⟨lastL l h c ++ [255, x], e, ?_⟩, ?_, ?_, ?_, ?_, ?_, ?_, ?_⟩
  · rw [packL_lt (by simp), List.append_nil]
  · rw [restL_lt (by simp)]; rfl
  · rw [restL_lt (by simp)]; rfl
  · rfl
  · intro b hb; cases hb
  · simp
  · simp; omega
  · rw [e, bytesOf_size]; simp; omega
/-- Both writers in memory: the program's at block g, the reference's in the variable at block m. -/
structure WB (w : World) (B g m : Nat) (vv : Value) (l : List Int) (h c t : Int) (D : ByteArray) (y : Value) (L : List Int) : Prop where
  wr : WrV w B g vv l h c t
  var : Blk w m 35 #[.string D, y]
  own : OwnI w B y L
theorem WB.bel {w w' : World} {B g m : Nat} {vv : Value} {l : List Int} {h c t : Int} {D : ByteArray} {y : Value} {L : List Int} (H : WB w B g m vv l h c t D y L) (hb : Below w.heap.size w w') : WB w' B g m vv l h c t D y L := ⟨H.wr.bel hb, H.var.bel hb, H.own.bel hb⟩
theorem WB.drewE {w wd : World} {B g m : Nat} {vv : Value} {l : List Int} {h c t : Int} {D : ByteArray} {y : Value} {L : List Int} (H : WB w B g m vv l h c t D y L) (hd : wd = w.drew) : WB wd B g m vv l h c t D y L := hd ▸ ⟨H.wr.drew, H.var.drew, H.own.drew⟩
/-- The program's Put and the reference's, at whatever numbers. -/
theorem wput_both (v n : Int) (l : List Int) (h c t : Int) (D : ByteArray) (L : List Int) (k : Nat) (hk : k ≤ 200) (H : InvW l h c t D L k) :
    ∃ (l' : List Int) (h' c' t' : Int) (L' : List Int) (e0 : Int), InvW l' h' c' t' D L' (k + 1) ∧
      (∀ w B g m vv y, WB w B g m vv l h c t D y L → B ≤ g → Calls Try.prog 10 #[.pointer (some ⟨g, 0, none⟩), .int .i64 v, .int .i64 n] w fun e w' => Hid (∃ vv', e = .returned (.int .i64 e0) ∧ WB w' B g m vv' l' h' c' t' D y L ∧ Below B w w')) ∧
      (∀ w B y, OwnI w B y L → B ≤ w.heap.size → Calls Try.prog 13 #[wV D y, .int .i64 v, .int .i64 n] w fun e w' => Hid (∃ y', e = .returned (.tuple #[wV D y', .int .i64 e0]) ∧ OwnI w' B y' L' ∧ Below w.heap.size w w')) := by
  have h8 := H.c8
  by_cases hn : n < 0 ∨ 16 < n
  · refine ⟨l, h, c, t, L, 1, H.up, fun w B g m vv y hW _ => (wput_arg w _ v n hn _ rfl).mono ?_, fun w B y hO hB => ?_⟩
    · rintro e w' ⟨rfl, rfl⟩
      exact Lib.hid ⟨vv, rfl, hW, Below.refl _ _⟩
    · obtain ⟨A, N, cp, rfl⟩ := hO.form2
      refine (refPut_arg D A N cp v n hn w).mono ?_
      rintro e w' ⟨rfl, hb⟩
      exact Lib.hid ⟨_, rfl, hO.bel hb, hb⟩
  · obtain ⟨N, rfl⟩ := Int.eq_ofNat_of_zero_le (show 0 ≤ n by omega)
    by_cases hv : v < 0 ∨ 2 ^ N ≤ v
    · refine ⟨l, h, c, t, L, 11, H.up, fun w B g m vv y hW _ => (wput_large w v N (by omega) hv _).mono ?_, fun w B y hO hB => ?_⟩
      · rintro e w' ⟨rfl, rfl⟩
        exact Lib.hid ⟨vv, rfl, hW, Below.refl _ _⟩
      · refine (refPut_large D y L B v N (by omega) hv w hO (by have := H.few; omega)).mono ?_
        rintro e w' ⟨rfl, hb⟩
        exact Lib.hid ⟨_, rfl, hO.bel hb, hb⟩
    · refine ⟨_, _, _, _, L ++ bitsN N v, 0, H.put v N (by omega) (by omega) (by omega), fun w B g m vv y hW hBg => (wput_ok w B g vv l h c t hW.wr hBg (by have := H.len; omega) h8.1 h8.2.1 h8.2.2.1 h8.2.2.2 (by have := H.tot; omega) (by have := H.tot; have := H.few; omega) v N (by omega) (by omega) (by omega)).mono ?_, fun w B y hO hB => (refPut_ok D y L B v N (by omega) (by omega) (by omega) w hO (by have := H.few; omega)).mono ?_⟩
      · intro e w' hp
        obtain ⟨v', rfl, b1, b2, b3⟩ := hp.out
        refine Lib.hid ⟨v', rfl, ⟨b1, b3 _ _ _ (by decide) (hW.var.ne hW.wr.1 (by decide)) hW.var, hW.own.keep fun g' cs hb => b3 _ _ _ (by decide) (hb.ne hW.wr.1 (by decide)) hb⟩, b2⟩
      · intro e w' hp
        obtain ⟨y', rfl, b1, b2⟩ := hp.out
        exact Lib.hid ⟨y', rfl, b1.mono hB, b2⟩
/-- The program's Mark and the reference's. -/
theorem wmark_both (x : Int) (l : List Int) (h c t : Int) (D : ByteArray) (L : List Int) (k : Nat) (hk : k ≤ 200) (H : InvW l h c t D L k) :
    ∃ (l' : List Int) (h' c' t' : Int) (D' : ByteArray) (L' : List Int) (e0 : Int), InvW l' h' c' t' D' L' (k + 1) ∧
      (∀ w B g m vv y, WB w B g m vv l h c t D y L → B ≤ g → Calls Try.prog 11 #[.pointer (some ⟨g, 0, none⟩), .int .i64 x] w fun e w' => Hid (∃ vv', e = .returned (.int .i64 e0) ∧ WB w' B g m vv' l' h' c' t' D y L ∧ Below B w w')) ∧
      (∀ w B y, OwnI w B y L → B ≤ w.heap.size → Calls Try.prog 14 #[wV D y, .int .i64 x] w fun e w' => Hid (∃ y', e = .returned (.tuple #[wV D' y', .int .i64 e0]) ∧ OwnI w' B y' L' ∧ Below w.heap.size w w')) := by
  have h8 := H.c8
  by_cases hx : 1 ≤ x ∧ x < 255
  · refine ⟨_, _, _, _, _, [], 0, H.mark (fun j => L.getD j 0) (fun j hj => by simp [hj]) x, fun w B g m vv y hW hBg => (wmark_ok w B g vv l h c t hW.wr hBg (by have := H.len; omega) h8.1 h8.2.1 h8.2.2.1 h8.2.2.2 x hx.1 hx.2).mono ?_, fun w B y hO hB => ?_⟩
    · intro e w' hp
      obtain ⟨v', rfl, b1, b2, b3⟩ := hp.out
      exact Lib.hid ⟨v', rfl, ⟨b1, b3 _ _ _ (by decide) (hW.var.ne hW.wr.1 (by decide)) hW.var, hW.own.keep fun g' cs hb => b3 _ _ _ (by decide) (hb.ne hW.wr.1 (by decide)) hb⟩, b2⟩
    · obtain ⟨A, cp, rfl, hc, hR⟩ := (hO.mono (Nat.zero_le _)).row (fun j => L.getD j 0) (fun j hj => by simp [hj])
      refine (refMark_ok D A L.length cp (fun j => L.getD j 0) (by have := H.few; omega) hc (fun j hj => bitsL_at H.bits j hj) (by have := H.sz; omega) x hx.1 (by omega) w hR).mono ?_
      rintro e w' ⟨rfl, hb⟩
      exact Lib.hid ⟨_, rfl, OwnI.nil _ _, hb⟩
  · refine ⟨l, h, c, t, D, L, 1, H.up, fun w B g m vv y hW _ => (wmark_arg w _ x (by omega) _ rfl).mono ?_, fun w B y hO hB => ?_⟩
    · rintro e w' ⟨rfl, rfl⟩
      exact Lib.hid ⟨vv, rfl, hW, Below.refl _ _⟩
    · obtain ⟨A, N, cp, rfl⟩ := hO.form2
      refine (refMark_arg D A N cp x (by omega) w).mono ?_
      rintro e w' ⟨rfl, hb⟩
      exact Lib.hid ⟨_, rfl, hO.bel hb, hb⟩
/-- Len, and all bytes by both. -/
theorem wend_both (l : List Int) (h c t : Int) (D : ByteArray) (L : List Int) (k : Nat) (hk : k ≤ 201) (H : InvW l h c t D L k) :
    ∃ (S T : ByteArray), D ++ T = S ∧ T.size ≤ 20000 ∧
      (∀ w B g m vv y, WB w B g m vv l h c t D y L → Calls Try.prog 12 #[.pointer (some ⟨g, 0, none⟩)] w fun e w' => e = .returned (.string S) ∧ Below w.heap.size w w') ∧
      (∀ w B y, OwnI w B y L → Calls Try.prog 16 #[y] w fun e w' => e = .returned (.string T) ∧ Below w.heap.size w w') := by
  have h8 := H.c8
  refine ⟨_, _, H.all (fun j => L.getD j 0) (fun j hj => by simp [hj]), ?_, fun w B g m vv y hW => bytes_walk w B g vv l h c t hW.wr (by have := H.len; omega) h8.1 h8.2.1 h8.2.2.1 h8.2.2.2, fun w B y hO => ?_⟩
  · have := stB_len L.length (fun j => L.getD j 0) ((L.length + 7) / 8)
    rw [bytesOf_size]
    have := H.few
    omega
  · obtain ⟨A, cp, rfl, hc, hR⟩ := (hO.mono (Nat.zero_le _)).row (fun j => L.getD j 0) (fun j hj => by simp [hj])
    exact refBytes_walk A L.length cp _ (by have := H.few; omega) hc w hR (fun j hj => bitsL_at H.bits j hj)
end Go.Proofs.Ytidockifeofgfaa

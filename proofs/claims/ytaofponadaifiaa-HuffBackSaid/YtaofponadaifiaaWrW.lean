/- What both writers' calls answer, together. No condition. -/
import Derived.Test.YtaofponadaifiaaStuf
import Derived.Test.YtaofponadaifiaaRfE
import Derived.Test.YtaofponadaifiaaBitW
namespace Go.Proofs.Ytaofponadaifiaa
open Go.RowKit
set_option linter.unusedSimpArgs false
set_option linter.unusedVariables false
/-- Both writers have the same, behind k calls. -/
structure InvW (l : List Int) (h c t : Int) (D : ByteArray) (L : List Int) (k : Nat) : Prop where
  old : ∃ l0, D = bytesOf l0 ∧ l = l0 ++ packL L
  held : h = valB (restL L)
  cnt : c = (restL L).length
  tot : t = L.length
  bits : bitL L
  few : L.length ≤ 16 * k
  len : l.length ≤ 8 * k
  sz : D.size ≤ 8 * k
theorem InvW.up {l : List Int} {h c t : Int} {D : ByteArray} {L : List Int} {k : Nat} (H : InvW l h c t D L k) : InvW l h c t D L (k + 1) := ⟨H.old, H.held, H.cnt, H.tot, H.bits, by have := H.few; omega, by have := H.len; omega, by have := H.sz; omega⟩
theorem InvW.c8 {l : List Int} {h c t : Int} {D : ByteArray} {L : List Int} {k : Nat} (H : InvW l h c t D L k) : 0 ≤ c ∧ c < 8 ∧ 0 ≤ h ∧ h < 2 ^ c.toNat := by
  have r := valB_range _ H.bits.rest
  have e := restL_len _ L (Nat.le_refl _)
  rw [H.cnt, H.held, Int.toNat_natCast]
  exact ⟨by omega, by omega, r.1, r.2⟩
theorem bitsN_bitL (n : Nat) (v : Int) : bitL (bitsN n v) := bitsN_bit n v
theorem bitsL_at {L : List Int} (h : bitL L) (j : Nat) (hj : j < L.length) : 0 ≤ L.getD j 0 ∧ L.getD j 0 ≤ 1 := by
  have e : L.getD j 0 = L[j] := by simp [hj]
  rw [e]
  exact h _ (List.getElem_mem hj)
/-- What the program's put leaves, and what the reference's. -/
theorem InvW.put {l : List Int} {h c t : Int} {D : ByteArray} {L : List Int} {k : Nat} (H : InvW l h c t D L k) (v : Int) (n : Nat) (hn : n ≤ 16) (v0 : 0 ≤ v) (v1 : v < 2 ^ n) :
    InvW (drn 3 l (h * 2 ^ n + v) (c + n)).1 (drn 3 l (h * 2 ^ n + v) (c + n)).2.1 (drn 3 l (h * 2 ^ n + v) (c + n)).2.2 (t + n) D (L ++ bitsN n v) (k + 1) := by
  obtain ⟨l0, hD, hl⟩ := H.old
  have hv : valB (restL L ++ bitsN n v) = h * 2 ^ n + v := by rw [valB_append, bitsN_len, bitsN_inj n v v0 v1, H.held]
  have hlen : ((restL L ++ bitsN n v).length : Int) = c + n := by rw [List.length_append, bitsN_len, H.cnt]; omega
  have hr := restL_len _ L (Nat.le_refl _)
  have hb : bitL (restL L ++ bitsN n v) := H.bits.rest.app (bitsN_bitL n v)
  have hlt : (restL L ++ bitsN n v).length < 8 * 3 + 8 := by rw [List.length_append, bitsN_len]; omega
  have hd := drn_pack 3 l _ hb hlt
  rw [hv, hlen] at hd
  rw [hd]
  obtain ⟨p1, p2⟩ := packL_append _ L (bitsN n v) (Nat.le_refl _)
  have hvr := valB_range _ hb
  rw [hv] at hvr
  have hcn : (c + (n : Int)).toNat = (restL L ++ bitsN n v).length := by omega
  have h8 := H.c8
  have h6 := (drn_ok 3 l (h * 2 ^ n + v) (c + n) (by omega) (by omega) hvr.1 (by rw [hcn]; exact hvr.2)).2.2.2.2.1
  rw [hd] at h6
  have h7 : (l ++ packL (restL L ++ bitsN n v)).length ≤ l.length + 2 * 3 := h6
  refine ⟨⟨l0, hD, ?_⟩, ?_, ?_, ?_, H.bits.app (bitsN_bitL n v), ?_, ?_, ?_⟩
  · show l ++ packL (restL L ++ bitsN n v) = l0 ++ packL (L ++ bitsN n v)
    rw [hl, p1, List.append_assoc]
  · show valB (restL (restL L ++ bitsN n v)) = _; rw [p2]
  · show ((restL (restL L ++ bitsN n v)).length : Int) = _; rw [p2]
  · rw [List.length_append, bitsN_len, H.tot]; omega
  · rw [List.length_append, bitsN_len]; have := H.few; omega
  · have := H.len
    show (l ++ packL (restL L ++ bitsN n v)).length ≤ _
    omega
  · have := H.sz; omega
/-- All bytes. -/
theorem InvW.all {l : List Int} {h c t : Int} {D : ByteArray} {L : List Int} {k : Nat} (H : InvW l h c t D L k) (f : Nat → Int) (hf : ∀ j (hj : j < L.length), f j = L[j]) :
    D ++ bytesOf (stB L.length f ((L.length + 7) / 8)) = bytesOf (lastL l h c) := by
  obtain ⟨l0, hD, hl⟩ := H.old
  have hr := restL_len _ L (Nat.le_refl _)
  rw [stB_pack _ L f hf rfl, H.held, H.cnt, last_tail _ _ (by omega), hl, hD, ← bytesOf_append, List.append_assoc]
theorem InvW.mark {l : List Int} {h c t : Int} {D : ByteArray} {L : List Int} {k : Nat} (H : InvW l h c t D L k) (f : Nat → Int) (hf : ∀ j (hj : j < L.length), f j = L[j]) (x : Int) :
    InvW (lastL l h c ++ [255, x]) 0 0 0 (D ++ bytesOf (stB L.length f ((L.length + 7) / 8)) ++ ⟨#[255]⟩ ++ bytesOf [x]) [] (k + 1) := by
  have e : D ++ bytesOf (stB L.length f ((L.length + 7) / 8)) ++ ⟨#[255]⟩ ++ bytesOf [x] = bytesOf (lastL l h c ++ [255, x]) := by
    rw [H.all f hf, ByteArray.append_assoc, bytesOf_append]
    rfl
  have hl := lastL_len l h c
  have := H.len
  refine ⟨⟨lastL l h c ++ [255, x], e, ?_⟩, ?_, ?_, ?_, ?_, ?_, ?_, ?_⟩
  · rw [packL_lt (by simp), List.append_nil]
  · rw [restL_lt (by simp)]; rfl
  · rw [restL_lt (by simp)]; rfl
  · rfl
  · intro b hb; cases hb
  · simp
  · simp; omega
  · rw [e, bytesOf_size]; simp; omega
end Go.Proofs.Ytaofponadaifiaa

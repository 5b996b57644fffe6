/- What both readers' calls answer, together. No condition. -/
import Derived.Test.YtaofponadaifiaaRfJ
import Derived.Test.YtaofponadaifiaaWriG
namespace Go.Proofs.Ytaofponadaifiaa
open Go.RowKit
set_option linter.unusedSimpArgs false
set_option linter.unusedVariables false
theorem rdL_rdB (s : ByteArray) (n : Nat) : ∀ (f : Nat) (H : List Int) (a : Nat), bitL H → rdL s n f (valB H) H.length a = (rdB s n f H a).map fun p => (valB p.1, p.1.length, p.2)
  | 0, H, a, _ => rfl
  | f + 1, H, a, hb => by
    rw [rdL, rdB]
    by_cases h : H.length < n
    · rw [if_pos h, if_pos h]
      by_cases h0 : (wholeV s a).2 = 0
      · rw [if_pos h0, if_pos h0]; rfl
      · rw [if_neg h0, if_neg h0]
        have hw := wholeV_range s a
        have e1 : valB (H ++ bitsN 8 (wholeV s a).1) = valB H * 256 + (wholeV s a).1 := by
          rw [valB_append, bitsN_len, bitsN_inj 8 _ hw.1 (by have e : (2 : Int) ^ 8 = 256 := by decide
                                                             omega)]
          rfl
        have e2 : (H ++ bitsN 8 (wholeV s a).1).length = H.length + 8 := by rw [List.length_append, bitsN_len]
        rw [← e1, ← e2]
        exact rdL_rdB s n f _ _ (hb.app (bitsN_bit 8 _))
    · rw [if_neg h, if_neg h]; rfl
theorem whole_at (s : ByteArray) (a : Nat) (h0 : (wholeV s a).2 ≠ 0) : a + (wholeV s a).2 ≤ s.size := by
  unfold wholeV at h0 ⊢
  split at h0 <;> rename_i h1
  · exact absurd rfl h0
  · rw [if_neg h1]
    split at h0 <;> rename_i h2
    · rw [if_pos h2]; show a + 1 ≤ _; omega
    · rw [if_neg h2]
      split at h0 <;> rename_i h3
      · rw [if_pos h3]; show a + 2 ≤ _; omega
      · exact absurd rfl h0
theorem rdB_ok (s : ByteArray) (n : Nat) : ∀ (f : Nat) (H : List Int) (a : Nat) (H' : List Int) (a' : Nat), bitL H → a ≤ s.size → n ≤ H.length + 8 * f → H.length < n + 8 → rdB s n f H a = some (H', a') →
    bitL H' ∧ a' ≤ s.size ∧ n ≤ H'.length ∧ H'.length < n + 8
  | 0, H, a, H', a', hb, ha, h1, h2, e => by
    rw [rdB] at e; injection e with e; injection e with e1 e2; subst e1 e2
    exact ⟨hb, ha, by omega, h2⟩
  | f + 1, H, a, H', a', hb, ha, h1, h2, e => by
    rw [rdB] at e
    by_cases h : H.length < n
    · rw [if_pos h] at e
      by_cases h0 : (wholeV s a).2 = 0
      · rw [if_pos h0] at e; cases e
      · rw [if_neg h0] at e
        exact rdB_ok s n f _ _ H' a' (hb.app (bitsN_bit 8 _)) (whole_at s a h0) (by rw [List.length_append, bitsN_len]; omega) (by rw [List.length_append, bitsN_len]; omega) e
    · rw [if_neg h] at e; injection e with e; injection e with e1 e2; subst e1 e2
      exact ⟨hb, ha, by omega, h2⟩
/-- Both readers in memory. -/
structure RB (w : World) (B g m : Nat) (s : ByteArray) (a : Nat) (H : List Int) (y : Value) : Prop where
  rd : RdV w g s a (valB H) H.length
  var : Blk w m 48 #[.string s, .int .i64 a, y]
  held : HeldV w y H
  hi : HiV B y
structure InvR (s : ByteArray) (a : Nat) (H : List Int) : Prop where
  bits : bitL H
  few : H.length < 8
  le : a ≤ s.size
theorem HeldV.only {w w' : World} {g B : Nat} {y : Value} {L : List Int} (h : HeldV w y L) (hi : HiV B y) (hg : g < B) (ho : Only g w w') : HeldV w' y L := by
  rcases h with h | ⟨g', off, c, h1, h2, h3⟩
  · exact Or.inl h
  · refine Or.inr ⟨g', off, c, h1, h2, fun j hj => ?_⟩
    have hge := hi _ _ _ _ h1
    obtain ⟨hl, hc⟩ := h3 j hj
    refine ⟨Nat.lt_of_lt_of_le hl ho.size, ?_⟩
    rw [← hc]
    have hblk := ho.block g' hl (fun e => by injection e with e; omega)
    simp [World.cell?, hblk]
theorem RB.bel {w w' : World} {B g m : Nat} {s : ByteArray} {a : Nat} {H : List Int} {y : Value} (h : RB w B g m s a H y) (hb : Below w.heap.size w w') : RB w' B g m s a H y := ⟨h.rd.bel hb, h.var.bel hb, h.held.bel hb, h.hi⟩
theorem RB.drewE {w wd : World} {B g m : Nat} {s : ByteArray} {a : Nat} {H : List Int} {y : Value} (h : RB w B g m s a H y) (hd : wd = w.drew) : RB wd B g m s a H y := hd ▸ ⟨h.rd.drew, h.var.drew, h.held, h.hi⟩
/-- Bits are not held in block T. -/
def NeV (T : Nat) (y : Value) (L : List Int) : Prop := L = [] ∨ ∀ g off n c, y = .slice (some ⟨g, off, none⟩) n c → g ≠ T
theorem HeldV.ne {w : World} {y : Value} {L : List Int} {T : Nat} (h : HeldV w y L) (hT : w.heap.size ≤ T) : NeV T y L := by
  rcases h with ⟨_, h⟩ | ⟨g, off, c, rfl, _, h3⟩
  · exact Or.inl h
  · cases L with
    | nil => exact Or.inl rfl
    | cons b L =>
      refine Or.inr fun g' off' n' c' e => ?_
      injection e with e; injection e with e; injection e with e
      subst e
      have := (h3 0 (by simp)).1
      omega
theorem HeldV.far {w w' : World} {y : Value} {L : List Int} {T : Nat} (h : HeldV w y L) (hn : NeV T y L) (hs : w'.heap.size = w.heap.size) (hf : ∀ g, g ≠ T → w'.heap[g]? = w.heap[g]?) : HeldV w' y L := by
  rcases h with h | ⟨g, off, c, h1, h2, h3⟩
  · exact Or.inl h
  · refine Or.inr ⟨g, off, c, h1, h2, fun j hj => ?_⟩
    rcases hn with hn | hn
    · subst hn; simp at hj
    · obtain ⟨hl, hc⟩ := h3 j hj
      refine ⟨by rw [hs]; exact hl, ?_⟩
      rw [← hc]
      have hblk := hf g (hn _ _ _ _ h1)
      simp [World.cell?, hblk]
/-- Bits by both. -/
theorem rbits_both (x : Int) (s : ByteArray) (a : Nat) (H : List Int) (hs : s.size ≤ 1000000) (I : InvR s a H) :
    ∃ (a' : Nat) (H' : List Int) (V e0 : Int), InvR s a' H' ∧
      (∀ w B g m y, RB w B g m s a H y → g < B → g ≠ m → Calls Try.prog 28 #[.pointer (some ⟨g, 0, none⟩), .int .i64 x] w fun e w' => e = .returned (.tuple #[.int .i64 V, .int .i64 e0]) ∧ RdV w' g s a' (valB H') H'.length ∧ Blk w' m 48 #[.string s, .int .i64 a, y] ∧ HeldV w' y H ∧ HiV B y ∧ Only g w w') ∧
      (∀ w B y, HeldV w y H → HiV B y → B ≤ w.heap.size → Calls Try.prog 19 #[rV s a y, .int .i64 x] w fun e w' => Hid (∃ y', e = .returned (.tuple #[.int .i64 V, rV s a' y', .int .i64 e0]) ∧ HeldV w' y' H' ∧ HiV B y' ∧ (∀ T, T < w.heap.size → NeV T y H → NeV T y' H') ∧ Below w.heap.size w w')) := by
  have frame : ∀ {w w' : World} {B g m : Nat} {y : Value}, RB w B g m s a H y → g < B → g ≠ m → Only g w w' → Blk w' m 48 #[.string s, .int .i64 a, y] ∧ HeldV w' y H ∧ HiV B y ∧ Only g w w' :=
    fun h hg hm ho => ⟨ho.blk h.var hm.symm, h.held.only h.hi hg ho, h.hi, ho⟩
  by_cases hx : x < 0 ∨ 16 < x
  · refine ⟨a, H, 0, 1, I, fun w B g m y h hg hm => (rbits_arg w _ x hx).mono ?_, fun w B y hy hi hB => (refBits_arg s a y H x hx w hy).mono ?_⟩
    · rintro e w' ⟨rfl, rfl⟩
      exact ⟨rfl, h.rd, frame h hg hm (Only.refl _ _)⟩
    · rintro e w' ⟨rfl, hb⟩
      exact Lib.hid ⟨y, rfl, hy.bel hb, hi, fun _ _ h => h, hb⟩
  · obtain ⟨n, rfl⟩ := Int.eq_ofNat_of_zero_le (show 0 ≤ x by omega)
    have r := valB_range H I.bits
    have e1 := rdL_rdB s n 3 H a I.bits
    have hw : ∀ w g, RdV w g s a (valB H) H.length → _ := fun w g h => rbits_walk w g s (valB H) H.length a n h hs (by have := I.le; omega) I.few (by omega) r.1 r.2
    cases hr : rdB s n 3 H a with
    | none =>
      rw [hr] at e1
      have e2 : bitsR s n (valB H) H.length a = (.tuple #[.int .i64 0, .int .i64 2], (a : Int), valB H, (H.length : Int)) := by unfold bitsR; rw [e1]; rfl
      refine ⟨a, H, 0, 2, I, fun w B g m y h hg hm => (hw w g h.rd).mono ?_, fun w B y hy hi hB => (refBits_ok s a y H n hs (by have := I.le; omega) (by omega) I.few I.bits w hy).mono ?_⟩
      · rintro e w' ⟨rfl, h2, h3⟩
        rw [e2] at h2 ⊢
        exact ⟨rfl, h2, frame h hg hm h3⟩
      · intro e w' hp
        have hp := hp.out
        rw [hr] at hp
        obtain ⟨rfl, hb⟩ := hp
        exact Lib.hid ⟨y, rfl, hy.bel hb, hi, fun _ _ h => h, hb⟩
    | some p =>
      obtain ⟨H', a'⟩ := p
      rw [hr] at e1
      obtain ⟨b1, b2, b3, b4⟩ := rdB_ok s n 3 H a H' a' I.bits I.le (by omega) (by have := I.few; omega) hr
      have hd : valB H' = valB (H'.take n) * 2 ^ (H'.length - n) + valB (H'.drop n) := by
        have e := valB_append (H'.take n) (H'.drop n)
        rw [List.take_append_drop, List.length_drop] at e
        exact e
      have rd := valB_range (H'.drop n) (b1.drop n)
      rw [List.length_drop] at rd
      have hp := two_pos (H'.length - n)
      have d1 : valB H' / 2 ^ (H'.length - n) = valB (H'.take n) := by
        rw [hd, Int.add_comm, Int.add_mul_ediv_right _ _ (by omega), Int.ediv_eq_zero_of_lt rd.1 rd.2]; omega
      have d2 : valB H' % 2 ^ (H'.length - n) = valB (H'.drop n) := by
        rw [hd, Int.add_comm, Int.add_mul_emod_self_right, Int.emod_eq_of_lt rd.1 rd.2]
      have e2 : bitsR s n (valB H) H.length a = (.tuple #[.int .i64 (valB (H'.take n)), .int .i64 0], (a' : Int), valB (H'.drop n), ((H'.drop n).length : Int)) := by
        unfold bitsR
        rw [e1]
        simp only [Option.map_some]
        rw [d1, d2, List.length_drop]
      refine ⟨a', H'.drop n, valB (H'.take n), 0, ⟨b1.drop n, by simp; omega, b2⟩, fun w B g m y h hg hm => (hw w g h.rd).mono ?_, fun w B y hy hi hB => (refBits_ok s a y H n hs (by have := I.le; omega) (by omega) I.few I.bits w hy).mono ?_⟩
      · rintro e w' ⟨rfl, h2, h3⟩
        rw [e2] at h2 ⊢
        exact ⟨rfl, h2, frame h hg hm h3⟩
      · intro e w' hp
        have hp := hp.out
        rw [hr] at hp
        obtain ⟨y', rfl, h1, h2, hb⟩ := hp
        exact Lib.hid ⟨y', rfl, h1, fun g off n c e => Nat.le_trans hB (h2 g off n c e), fun T hT _ => Or.inr fun g off n c e => by have := h2 g off n c e; omega, hb⟩
theorem markerV_le (s : ByteArray) (a : Nat) (ha : a ≤ s.size) : a + (markerV s a).2 ≤ s.size ∧ ((markerV s a).2 ≤ 1000001 ∨ 1000000 < s.size) ∧ 0 ≤ (markerV s a).1 ∧ (markerV s a).1 < 256 := by
  have h := ffE_le s s.size a
  unfold markerV
  split
  · simp; omega
  · rename_i hn
    have hl : ffE s s.size a < s.size := by
      rcases Nat.lt_or_ge (ffE s s.size a) s.size with h1 | h1
      · exact h1
      · exact absurd (Or.inr (Or.inl h1)) hn
    have hb := byteA_eq s _ hl
    have := (s[ffE s s.size a]'hl).toNat_lt
    show a + (ffE s s.size a + 1 - a) ≤ s.size ∧ _ ∧ 0 ≤ byteA s (ffE s s.size a) ∧ byteA s (ffE s s.size a) < 256
    refine ⟨by omega, by show ffE s s.size a + 1 - a ≤ 1000001 ∨ _; omega, by rw [hb]; omega, by rw [hb]; omega⟩
theorem one3 {s : ByteArray} {a : Int} {y : Value} (h : y.oneCell' = true) : (#[Value.string s, .int .i64 a, y] : Array Value).all (·.oneCell') = true := by
  rw [Array.all_eq_true_iff_forall_mem]
  intro x hx
  simp only [List.mem_toArray, List.mem_cons, List.not_mem_nil, or_false] at hx
  rcases hx with rfl | rfl | rfl
  · rfl
  · rfl
  · exact h
/-- Between the reference's answer and the comparison. -/
structure MID (w : World) (B g m : Nat) (s : ByteArray) (a a1 : Nat) (H1 : List Int) (y y1 : Value) : Prop where
  rd : RdV w g s a1 (valB H1) H1.length
  var : Blk w m 48 #[.string s, .int .i64 a, y]
  held : HeldV w y1 H1
  hi : HiV B y1
theorem MID.bel {w w' : World} {B g m : Nat} {s : ByteArray} {a a1 : Nat} {H1 : List Int} {y y1 : Value} (h : MID w B g m s a a1 H1 y y1) (hb : Below w.heap.size w w') : MID w' B g m s a a1 H1 y y1 := ⟨h.rd.bel hb, h.var.bel hb, h.held.bel hb, h.hi⟩
theorem MID.far {w w' : World} {B g m T : Nat} {s : ByteArray} {a a1 : Nat} {H1 : List Int} {y y1 : Value} (h : MID w B g m s a a1 H1 y y1) (hg : g ≠ T) (hm : m ≠ T) (hn : NeV T y1 H1) (hs : w'.heap.size = w.heap.size) (hf : ∀ g, g ≠ T → w'.heap[g]? = w.heap[g]?) : MID w' B g m s a a1 H1 y y1 :=
  ⟨(hf g hg).trans h.rd, (hf m hm).trans h.var, h.held.far hn hs hf, h.hi⟩
/-- Before it. -/
structure PRE (w : World) (B g m : Nat) (s : ByteArray) (a a1 : Nat) (H H1 : List Int) (y : Value) : Prop where
  rd : RdV w g s a1 (valB H1) H1.length
  var : Blk w m 48 #[.string s, .int .i64 a, y]
  held : HeldV w y H
  hi : HiV B y
theorem PRE.bel {w w' : World} {B g m : Nat} {s : ByteArray} {a a1 : Nat} {H H1 : List Int} {y : Value} (h : PRE w B g m s a a1 H H1 y) (hb : Below w.heap.size w w') : PRE w' B g m s a a1 H H1 y := ⟨h.rd.bel hb, h.var.bel hb, h.held.bel hb, h.hi⟩
theorem PRE.drewE {w wd : World} {B g m : Nat} {s : ByteArray} {a a1 : Nat} {H H1 : List Int} {y : Value} (h : PRE w B g m s a a1 H H1 y) (hd : wd = w.drew) : PRE wd B g m s a a1 H H1 y := hd ▸ ⟨h.rd.drew, h.var.drew, h.held, h.hi⟩
end Go.Proofs.Ytaofponadaifiaa

/- Plain: a file's pieces: where markers and data stand. No program in sight. -/
import Derived.Test.YthibnhgbgmpjoaaDoorHGF
import Derived.Test.YthibnhgbgmpjoaaDoorHRsA
namespace Go.Proofs.YthibnhgbgmpjoaaDoor
open Go.RowKit
set_option linter.unusedSimpArgs false
set_option linter.unusedVariables false
/-- From i on all are ff, up to k. -/
structure IsFF (s : ByteArray) (i k : Nat) : Prop where
  le : i ≤ k
  all : ∀ j, i ≤ j → j < k → bAt s j = 255
  no : bAt s k ≠ 255
theorem IsFF.uniq {s : ByteArray} {i k k' : Nat} (h : IsFF s i k) (h' : IsFF s i k') : k = k' := by
  rcases Nat.lt_trichotomy k k' with hlt | rfl | hlt
  · exact absurd (h'.all k h.le hlt) h.no
  · rfl
  · exact absurd (h.all k' h'.le hlt) h'.no
theorem bAt_out {s : ByteArray} {i : Nat} (h : s.size ≤ i) : bAt s i = -1 := by rw [bAt, dif_neg (by omega)]
theorem bAt_in {s : ByteArray} {i : Nat} (h : i < s.size) : bAt s i = (s[i].toNat : Int) := by rw [bAt, dif_pos h]
theorem bAt_lt {s : ByteArray} {i : Nat} (h : 0 ≤ bAt s i) : i < s.size := by
  rcases Nat.lt_or_ge i s.size with h1 | h1
  · exact h1
  · rw [bAt_out h1] at h; omega
def ffE (s : ByteArray) : Nat → Nat → Nat
  | 0, i => i
  | f + 1, i => if bAt s i = 255 then ffE s f (i + 1) else i
/-- Where the run of ffs at a place ends. -/
def ffEnd (s : ByteArray) (i : Nat) : Nat := ffE s (s.size - i) i
theorem ffE_is {s : ByteArray} : ∀ (f i : Nat), s.size - i ≤ f → IsFF s i (ffE s f i)
  | 0, i, h => ⟨Nat.le_refl _, fun j h1 h2 => by rw [ffE] at h2; omega, by rw [ffE, bAt_out (by omega)]; decide⟩
  | f + 1, i, h => by
    rw [ffE]
    by_cases hb : bAt s i = 255
    · rw [if_pos hb]
      have := ffE_is (s := s) f (i + 1) (by omega)
      refine ⟨by have := this.le; omega, fun j h1 h2 => ?_, this.no⟩
      by_cases e : j = i
      · rw [e]; exact hb
      · exact this.all j (by omega) h2
    · rw [if_neg hb]
      exact ⟨Nat.le_refl _, fun j h1 h2 => by omega, hb⟩
theorem ffEnd_is (s : ByteArray) (i : Nat) : IsFF s i (ffEnd s i) := ffE_is _ i (Nat.le_refl _)
theorem ffEnd_eq {s : ByteArray} {i k : Nat} (h : IsFF s i k) : ffEnd s i = k := (ffEnd_is s i).uniq h
theorem ffEnd_le {s : ByteArray} {i : Nat} (h : i ≤ s.size) : ffEnd s i ≤ s.size := by
  rcases Nat.lt_or_ge s.size (ffEnd s i) with h1 | h1
  · have := (ffEnd_is s i).all s.size h h1
    rw [bAt_out (Nat.le_refl _)] at this; omega
  · exact h1
/-- A byte that ends a scan's data, behind ffs. -/
def endB (c : Int) : Prop := c ≠ 0 ∧ (c < 208 ∨ 215 < c)
instance (c : Int) : Decidable (endB c) := by unfold endB; exact inferInstance
def dE (s : ByteArray) : Nat → Nat → Nat
  | 0, _ => s.size
  | f + 1, i => if s.size ≤ i then s.size else if bAt s i = 255 then (if s.size ≤ ffEnd s i then s.size else if endB (bAt s (ffEnd s i)) then i else dE s f (ffEnd s i + 1)) else dE s f (i + 1)
/-- Where the data of a scan ends that begins at a place. -/
def dEnd (s : ByteArray) (i : Nat) : Nat := dE s (s.size - i) i
theorem dE_fuel {s : ByteArray} : ∀ (f i : Nat), s.size - i ≤ f → dE s f i = dE s (s.size - i) i
  | 0, i, h => by rw [show s.size - i = 0 by omega]
  | f + 1, i, h => by
    by_cases hs : s.size ≤ i
    · rw [dE, if_pos hs, show s.size - i = 0 by omega, dE]
    · obtain ⟨g, hg⟩ : ∃ g, s.size - i = g + 1 := ⟨s.size - i - 1, by omega⟩
      rw [hg, dE, dE, if_neg hs, if_neg hs]
      have hle := (ffEnd_is s i).le
      have e1 : dE s f (ffEnd s i + 1) = dE s g (ffEnd s i + 1) := by rw [dE_fuel f _ (by omega), dE_fuel g _ (by omega)]
      have e2 : dE s f (i + 1) = dE s g (i + 1) := by rw [dE_fuel f _ (by omega), dE_fuel g _ (by omega)]
      rw [e1, e2]
termination_by f => f
theorem dEnd_eq (s : ByteArray) (i : Nat) : dEnd s i = if s.size ≤ i then s.size else if bAt s i = 255 then (if s.size ≤ ffEnd s i then s.size else if endB (bAt s (ffEnd s i)) then i else dEnd s (ffEnd s i + 1)) else dEnd s (i + 1) := by
  by_cases hs : s.size ≤ i
  · rw [if_pos hs, dEnd, show s.size - i = 0 by omega, dE]
  · obtain ⟨g, hg⟩ : ∃ g, s.size - i = g + 1 := ⟨s.size - i - 1, by omega⟩
    rw [if_neg hs, dEnd, hg, dE, if_neg hs]
    have hle := (ffEnd_is s i).le
    have e1 : dE s g (ffEnd s i + 1) = dEnd s (ffEnd s i + 1) := dE_fuel g _ (by omega)
    have e2 : dE s g (i + 1) = dEnd s (i + 1) := dE_fuel g _ (by omega)
    rw [e1, e2]
theorem dEnd_bd {s : ByteArray} : ∀ (n i : Nat), s.size - i ≤ n → i ≤ s.size → i ≤ dEnd s i ∧ dEnd s i ≤ s.size
  | 0, i, h, hi => by rw [dEnd_eq, if_pos (by omega)]; omega
  | n + 1, i, h, hi => by
    rw [dEnd_eq]
    by_cases hs : s.size ≤ i
    · rw [if_pos hs]; omega
    · rw [if_neg hs]
      by_cases hb : bAt s i = 255
      · rw [if_pos hb]
        have hle := (ffEnd_is s i).le
        by_cases hk : s.size ≤ ffEnd s i
        · rw [if_pos hk]; omega
        · rw [if_neg hk]
          by_cases he : endB (bAt s (ffEnd s i))
          · rw [if_pos he]; omega
          · rw [if_neg he]
            have := dEnd_bd (s := s) n (ffEnd s i + 1) (by omega) (by omega)
            omega
      · rw [if_neg hb]
        have := dEnd_bd (s := s) n (i + 1) (by omega) (by omega)
        omega
/-- A piece. -/
structure Pc where
  at_ : Nat
  x : Sg
  body : ByteArray
  data : ByteArray
/-- What stands at a place. -/
inductive Sp
  | bad (a : Nat) (e : Int)
  | fin
  | next (p : Pc) (a : Nat)
/-- A segment at b whose marker stands at a. -/
def segP (s : ByteArray) (c : Int) (a b : Nat) : Sp :=
  if s.size < b + 2 then .bad s.size 2
  else if pAt s b < 2 then .bad b 4
  else if s.size < b + (pAt s b).toNat then .bad s.size 2
  else if prE c (s.extract (b + 2) (b + (pAt s b).toNat)) ≠ 0 then .bad a (prE c (s.extract (b + 2) (b + (pAt s b).toNat)))
  else .next ⟨a, prG c (s.extract (b + 2) (b + (pAt s b).toNat)), s.extract (b + 2) (b + (pAt s b).toNat), if c = 218 then s.extract (b + (pAt s b).toNat) (dEnd s (b + (pAt s b).toNat)) else ⟨#[]⟩⟩ (if c = 218 then dEnd s (b + (pAt s b).toNat) else b + (pAt s b).toNat)
def stepP (s : ByteArray) (a : Nat) : Sp :=
  if s.size ≤ ffEnd s a then .bad s.size 2
  else if ffEnd s a = a ∨ bAt s (ffEnd s a) = 0 ∨ (208 ≤ bAt s (ffEnd s a) ∧ bAt s (ffEnd s a) ≤ 216) then .bad a 3
  else if bAt s (ffEnd s a) = 217 then (if ffEnd s a + 1 < s.size then .bad (ffEnd s a + 1) 4 else .fin)
  else segP s (bAt s (ffEnd s a)) a (ffEnd s a + 1)
theorem step_adv {s : ByteArray} {a a' : Nat} {p : Pc} (ha : a ≤ s.size) (h : stepP s a = .next p a') : a + 1 ≤ a' ∧ a' ≤ s.size := by
  unfold stepP at h
  have hle := (ffEnd_is s a).le
  split at h
  · cases h
  · split at h
    · cases h
    · split at h
      · split at h <;> cases h
      · unfold segP at h
        split at h
        · cases h
        · split at h
          · cases h
          · split at h
            · cases h
            · split at h
              · cases h
              · injection h with _ h
                have hb := dEnd_bd (s := s) _ (ffEnd s a + 1 + (pAt s (ffEnd s a + 1)).toNat) (Nat.le_refl _) (by omega)
                split at h <;> omega
/-- All pieces from a place on, behind those that have come; the place and the error. -/
def spL (s : ByteArray) : Nat → Nat → List Pc → List Pc × Nat × Int
  | 0, a, l => (l, a, 0)
  | f + 1, a, l => match stepP s a with
    | .bad b e => ([], b, e)
    | .fin => (l, 0, 0)
    | .next p a' => spL s f a' (l ++ [p])
/-- A file's pieces, the place and the error. -/
def spF (s : ByteArray) : List Pc × Nat × Int :=
  if 16777216 < s.size then ([], 0, 11) else if s.size < 2 ∨ bAt s 0 ≠ 255 ∨ bAt s 1 ≠ 216 then ([], 0, 3) else spL s (s.size + 1) 2 []
end Go.Proofs.YthibnhgbgmpjoaaDoor
namespace Go.Proofs.YthibnhgbgmpjoaaDoor
open Go.RowKit
set_option linter.unusedSimpArgs false
set_option linter.unusedVariables false
theorem bAt_list {s : ByteArray} {l : List UInt8} (hs : s.data.toList = l) (i : Nat) : bAt s i = match l[i]? with | some y => (y.toNat : Int) | none => -1 := by
  subst hs
  by_cases h : i < s.size
  · rw [bAt_in h, List.getElem?_eq_getElem (by rw [Array.length_toList]; exact h)]
    simp only [Array.getElem_toList]
    rfl
  · rw [bAt_out (by omega), List.getElem?_eq_none (by rw [Array.length_toList]; exact Nat.le_of_not_lt h)]
theorem size_list {s : ByteArray} {l : List UInt8} (hs : s.data.toList = l) : s.size = l.length := by subst hs; rw [Array.length_toList]; rfl
/-- A piece's bytes: its marker, its length, its body, its data. -/
def pcL (c : Int) (body data : ByteArray) : List UInt8 := [255, UInt8.ofNat c.toNat, UInt8.ofNat ((body.size + 2) / 256), UInt8.ofNat ((body.size + 2) % 256)] ++ body.data.toList ++ data.data.toList
theorem pcL_len (c : Int) (body data : ByteArray) : (pcL c body data).length = 4 + body.size + data.size := by
  simp only [pcL, List.length_append, Array.length_toList, List.length_cons, List.length_nil]; rfl
/-- Scanned data is whole: read to its end, wherever it stands, before a marker. -/
def Whole (d : ByteArray) : Prop := ∀ (s : ByteArray) (pre post : List UInt8) (c : UInt8), s.data.toList = pre ++ (d.data.toList ++ (255 :: c :: post)) → c ≠ 255 → endB (c.toNat : Int) → dEnd s pre.length = pre.length + d.size
/-- A segment that stands as it is written is read. -/
theorem seg_at {s : ByteArray} {pre post : List UInt8} {c : Int} {body data : ByteArray} (hP : prE c body = 0) (hs : s.data.toList = pre ++ (pcL c body data ++ post))
    (hd : c = 218 → dEnd s (pre.length + 4 + body.size) = pre.length + 4 + body.size + data.size) (hn : c ≠ 218 → data = ⟨#[]⟩) :
    stepP s pre.length = .next ⟨pre.length, prG c body, body, data⟩ (pre.length + (pcL c body data).length) := by
  have hm := prE_may hP
  have hz := mayC_zero hm.1
  have hb := hm.2
  have hsz : s.size = pre.length + (4 + body.size + data.size + post.length) := by rw [size_list hs, List.length_append, List.length_append, pcL_len]
  have g : ∀ k, k < 4 → bAt s (pre.length + k) = match ([255, UInt8.ofNat c.toNat, UInt8.ofNat ((body.size + 2) / 256), UInt8.ofNat ((body.size + 2) % 256)] : List UInt8)[k]? with | some y => (y.toNat : Int) | none => -1 := fun k hk => by
    rw [bAt_list hs, List.getElem?_append_right (by omega), Nat.add_sub_cancel_left, pcL, List.append_assoc, List.append_assoc, List.getElem?_append_left (by simpa using hk)]
  have c0 : ((UInt8.ofNat c.toNat).toNat : Int) = c := by
    have h : (UInt8.ofNat c.toNat).toNat = c.toNat := by simp; omega
    rw [h]; omega
  have b0 : bAt s pre.length = 255 := by have := g 0 (by decide); simpa using this
  have b1 : bAt s (pre.length + 1) = c := by have := g 1 (by decide); rw [this]; exact c0
  have hff : ffEnd s pre.length = pre.length + 1 := ffEnd_eq ⟨by omega, fun j h1 h2 => by rw [show j = pre.length by omega]; exact b0, by rw [b1]; omega⟩
  have hp : pAt s (pre.length + 1 + 1) = (body.size + 2 : Nat) := by
    have h2 := g 2 (by decide); have h3 := g 3 (by decide)
    rw [bAt_in (by omega)] at h2 h3
    rw [pAt, dif_pos (by omega)]
    have e2 : (s[pre.length + 1 + 1].toNat : Int) = ((body.size + 2) / 256 : Nat) := by
      have h : (s[pre.length + 2].toNat : Int) = ((UInt8.ofNat ((body.size + 2) / 256)).toNat : Int) := h2
      have h4 : (UInt8.ofNat ((body.size + 2) / 256)).toNat = (body.size + 2) / 256 := by simp; omega
      rw [h4] at h; exact h
    have e3 : (s[pre.length + 1 + 1 + 1].toNat : Int) = ((body.size + 2) % 256 : Nat) := by
      have h : (s[pre.length + 3].toNat : Int) = ((UInt8.ofNat ((body.size + 2) % 256)).toNat : Int) := h3
      have h4 : (UInt8.ofNat ((body.size + 2) % 256)).toNat = (body.size + 2) % 256 := by simp
      rw [h4] at h; exact h
    rw [e2, e3]; omega
  have hbody : s.extract (pre.length + 1 + 1 + 2) (pre.length + 1 + 1 + (body.size + 2)) = body := by
    apply ByteArray.ext
    apply Array.toList_inj.1
    rw [bs_ext]
    unfold bs
    rw [hs, pcL]
    have e : pre ++ ([255, UInt8.ofNat c.toNat, UInt8.ofNat ((body.size + 2) / 256), UInt8.ofNat ((body.size + 2) % 256)] ++ body.data.toList ++ data.data.toList ++ post) = (pre ++ [255, UInt8.ofNat c.toNat, UInt8.ofNat ((body.size + 2) / 256), UInt8.ofNat ((body.size + 2) % 256)] ++ body.data.toList) ++ (data.data.toList ++ post) := by simp only [List.append_assoc]
    have hl : (pre ++ [255, UInt8.ofNat c.toNat, UInt8.ofNat ((body.size + 2) / 256), UInt8.ofNat ((body.size + 2) % 256)]).length = pre.length + 1 + 1 + 2 := by simp
    have hbl : body.data.toList.length = body.size := by rw [Array.length_toList]; rfl
    rw [e, List.take_append_of_le_length (by rw [List.length_append, hl, hbl]; omega), List.take_of_length_le (by rw [List.length_append, hl, hbl]; omega), ← hl, List.drop_left]
  unfold stepP
  rw [hff, if_neg (by omega), b1, if_neg (by omega), if_neg (by omega)]
  unfold segP
  rw [if_neg (by omega), hp, if_neg (by omega), Int.toNat_natCast, if_neg (by omega), hbody, if_neg (by rw [hP]; decide)]
  have hl2 : pre.length + (pcL c body data).length = pre.length + 4 + body.size + data.size := by rw [pcL_len]; omega
  have ha : pre.length + 1 + 1 + (body.size + 2) = pre.length + 4 + body.size := by omega
  rw [hl2, ha]
  by_cases h218 : c = 218
  · rw [if_pos h218, if_pos h218, hd h218]
    have hdat : s.extract (pre.length + 4 + body.size) (pre.length + 4 + body.size + data.size) = data := by
      apply ByteArray.ext
      apply Array.toList_inj.1
      rw [bs_ext]
      unfold bs
      rw [hs, pcL]
      have e : pre ++ ([255, UInt8.ofNat c.toNat, UInt8.ofNat ((body.size + 2) / 256), UInt8.ofNat ((body.size + 2) % 256)] ++ body.data.toList ++ data.data.toList ++ post) = ((pre ++ [255, UInt8.ofNat c.toNat, UInt8.ofNat ((body.size + 2) / 256), UInt8.ofNat ((body.size + 2) % 256)] ++ body.data.toList) ++ data.data.toList) ++ post := by simp only [List.append_assoc]
      have hbl : body.data.toList.length = body.size := by rw [Array.length_toList]; rfl
      have hdl : data.data.toList.length = data.size := by rw [Array.length_toList]; rfl
      have hl : (pre ++ [255, UInt8.ofNat c.toNat, UInt8.ofNat ((body.size + 2) / 256), UInt8.ofNat ((body.size + 2) % 256)] ++ body.data.toList).length = pre.length + 4 + body.size := by rw [List.length_append, List.length_append, hbl]; simp
      rw [e, List.take_append_of_le_length (by rw [List.length_append, hl, hdl]; omega), List.take_of_length_le (by rw [List.length_append, hl, hdl]; omega), ← hl, List.drop_left]
    rw [hdat]
  · rw [if_neg h218, if_neg h218, hn h218]
    rfl
end Go.Proofs.YthibnhgbgmpjoaaDoor
namespace Go.Proofs.YthibnhgbgmpjoaaDoor
open Go.RowKit
set_option linter.unusedSimpArgs false
set_option linter.unusedVariables false
/-- Data that is scanned to its end. -/
inductive Cl : List UInt8 → Prop
  | nil : Cl []
  | one (b : UInt8) (l : List UInt8) (hb : b ≠ 255) (h : Cl l) : Cl (b :: l)
  | run (n : Nat) (b : UInt8) (l : List UInt8) (hb : b ≠ 255) (he : ¬ endB (b.toNat : Int)) (h : Cl l) : Cl (List.replicate (n + 1) 255 ++ b :: l)
theorem u8_ne {b : UInt8} (hb : b ≠ 255) : (b.toNat : Int) ≠ 255 := fun h => hb (by
  have : b.toNat = (255 : UInt8).toNat := by have h2 : b.toNat = 255 := by omega
                                             rw [h2]; rfl
  exact UInt8.toNat_inj.1 this)
theorem cl_dEnd {d : List UInt8} (h : Cl d) : ∀ {s : ByteArray} {pre post : List UInt8} {c : UInt8}, s.data.toList = pre ++ (d ++ (255 :: c :: post)) → c ≠ 255 → endB (c.toNat : Int) → dEnd s pre.length = pre.length + d.length := by
  induction h with
  | nil =>
    intro s pre post c hs hc he
    have hz : s.size = pre.length + (post.length + 2) := by rw [size_list hs]; simp
    have b0 : bAt s pre.length = 255 := by rw [bAt_list hs, List.getElem?_append_right (Nat.le_refl _)]; simp
    have b1 : bAt s (pre.length + 1) = c.toNat := by rw [bAt_list hs, List.getElem?_append_right (by omega)]; simp
    have hff : ffEnd s pre.length = pre.length + 1 := ffEnd_eq ⟨by omega, fun j h1 h2 => by rw [show j = pre.length by omega]; exact b0, by rw [b1]; exact u8_ne hc⟩
    rw [dEnd_eq, if_neg (by omega), if_pos b0, hff, if_neg (by omega), b1, if_pos he]
    rfl
  | one b l hb h ih =>
    intro s pre post c hs hc he
    have hz : s.size = pre.length + (l.length + 1 + (post.length + 2)) := by rw [size_list hs]; simp; omega
    have b0 : bAt s pre.length = b.toNat := by rw [bAt_list hs, List.getElem?_append_right (Nat.le_refl _)]; simp
    rw [dEnd_eq, if_neg (by omega), if_neg (by rw [b0]; exact u8_ne hb)]
    have := ih (s := s) (pre := pre ++ [b]) (post := post) (c := c) (by rw [hs]; simp) hc he
    rw [List.length_append] at this
    simp only [List.length_cons, List.length_nil] at this ⊢
    rw [this]; omega
  | run n b l hb he' h ih =>
    intro s pre post c hs hc he
    have hz : s.size = pre.length + (n + 1 + (l.length + 1) + (post.length + 2)) := by rw [size_list hs]; simp; omega
    have bk : ∀ k, k < n + 1 → bAt s (pre.length + k) = 255 := fun k hk => by
      rw [bAt_list hs, List.getElem?_append_right (by omega), Nat.add_sub_cancel_left, List.append_assoc, List.getElem?_append_left (by rw [List.length_replicate]; exact hk), List.getElem?_replicate, if_pos hk]
      rfl
    have bn : bAt s (pre.length + (n + 1)) = b.toNat := by
      rw [bAt_list hs, List.getElem?_append_right (by omega), Nat.add_sub_cancel_left, List.append_assoc, List.getElem?_append_right (by rw [List.length_replicate]; exact Nat.le_refl _), List.length_replicate]
      simp
    have hff : ffEnd s pre.length = pre.length + (n + 1) := ffEnd_eq ⟨by omega, fun j h1 h2 => by
      have := bk (j - pre.length) (by omega)
      rwa [show pre.length + (j - pre.length) = j by omega] at this, by rw [bn]; exact u8_ne hb⟩
    have b0 : bAt s pre.length = 255 := bk 0 (by omega)
    rw [dEnd_eq, if_neg (by omega), if_pos b0, hff, if_neg (by omega), bn, if_neg he']
    have := ih (s := s) (pre := pre ++ (List.replicate (n + 1) 255 ++ [b])) (post := post) (c := c) (by rw [hs]; simp) hc he
    have hl : (pre ++ (List.replicate (n + 1) 255 ++ [b])).length = pre.length + (n + 1) + 1 := by simp; omega
    rw [hl] at this
    rw [this]
    simp; omega
theorem bs_cons {s : ByteArray} {i j : Nat} (h : i < j) (hj : j ≤ s.size) : bs s i j = (s[i]'(by omega)) :: bs s (i + 1) j := by
  unfold bs
  have hl : i < (s.data.toList.take j).length := by rw [List.length_take, Array.length_toList]; show i < min j s.size; omega
  rw [List.drop_eq_getElem_cons hl]
  congr 1
  rw [List.getElem_take, Array.getElem_toList]
  rfl
theorem bs_run {s : ByteArray} : ∀ (n i : Nat) {j : Nat}, i + n ≤ j → j ≤ s.size → (∀ k, i ≤ k → k < i + n → bAt s k = 255) → bs s i j = List.replicate n 255 ++ bs s (i + n) j
  | 0, i, j, _, _, _ => by simp
  | n + 1, i, j, h, hj, hb => by
    rw [bs_cons (by omega) hj, bs_run n (i + 1) (by omega) hj (fun k h1 h2 => hb k (by omega) (by omega)), List.replicate_succ, List.cons_append]
    have h0 := hb i (by omega) (by omega)
    rw [bAt_in (by omega)] at h0
    have h1 : s[i]'(by omega) = 255 := UInt8.toNat_inj.1 (by
      have h2 : (s[i]'(by omega)).toNat = 255 := by omega
      rw [h2]; rfl)
    rw [h1, show i + 1 + n = i + (n + 1) by omega]
theorem dEnd_cl {s : ByteArray} : ∀ (n i : Nat), s.size - i ≤ n → i ≤ s.size → dEnd s i < s.size → Cl (bs s i (dEnd s i)) ∧ bAt s (dEnd s i) = 255 ∧ endB (bAt s (ffEnd s (dEnd s i)))
  | 0, i, h, hi, hj => by rw [dEnd_eq, if_pos (by omega)] at hj; omega
  | n + 1, i, h, hi, hj => by
    have hbd := dEnd_bd (s := s) _ i (Nat.le_refl _) hi
    by_cases hs : s.size ≤ i
    · rw [dEnd_eq, if_pos hs] at hj; omega
    · by_cases hb : bAt s i = 255
      · have hle := (ffEnd_is s i).le
        by_cases hk : s.size ≤ ffEnd s i
        · rw [dEnd_eq, if_neg hs, if_pos hb, if_pos hk] at hj; omega
        · by_cases he : endB (bAt s (ffEnd s i))
          · have e : dEnd s i = i := by rw [dEnd_eq, if_neg hs, if_pos hb, if_neg hk, if_pos he]
            rw [e, bs_nil]
            exact ⟨.nil, hb, he⟩
          · have e : dEnd s i = dEnd s (ffEnd s i + 1) := by rw [dEnd_eq s i, if_neg hs, if_pos hb, if_neg hk, if_neg he]
            rw [e] at hj ⊢
            obtain ⟨c1, c2, c3⟩ := dEnd_cl (s := s) n (ffEnd s i + 1) (by omega) (by omega) hj
            refine ⟨?_, c2, c3⟩
            have hb2 := dEnd_bd (s := s) _ (ffEnd s i + 1) (Nat.le_refl _) (by omega)
            have hne : ffEnd s i ≠ i := fun h0 => (ffEnd_is s i).no (by rw [h0]; exact hb)
            have hr := bs_run (s := s) (ffEnd s i - i) i (j := dEnd s (ffEnd s i + 1)) (by omega) (by omega) (fun k h1 h2 => (ffEnd_is s i).all k h1 (by omega))
            rw [show i + (ffEnd s i - i) = ffEnd s i by omega, bs_cons (show ffEnd s i < dEnd s (ffEnd s i + 1) by omega) (by omega)] at hr
            rw [hr, show ffEnd s i - i = (ffEnd s i - i - 1) + 1 by omega]
            have hx : bAt s (ffEnd s i) = ((s[ffEnd s i]'(by omega)).toNat : Int) := bAt_in (by omega)
            refine Cl.run _ _ _ (fun h0 => (ffEnd_is s i).no ?_) (by rw [← hx]; exact he) c1
            rw [hx, h0]; rfl
      · have e : dEnd s i = dEnd s (i + 1) := by rw [dEnd_eq s i, if_neg hs, if_neg hb]
        rw [e] at hj ⊢
        obtain ⟨c1, c2, c3⟩ := dEnd_cl (s := s) n (i + 1) (by omega) (by omega) hj
        refine ⟨?_, c2, c3⟩
        have hb2 := dEnd_bd (s := s) _ (i + 1) (Nat.le_refl _) (by omega)
        rw [bs_cons (show i < dEnd s (i + 1) by omega) (by omega)]
        have hx : bAt s i = ((s[i]'(by omega)).toNat : Int) := bAt_in (by omega)
        exact Cl.one _ _ (fun h0 => hb (by rw [hx, h0]; rfl)) c1
/-- A piece that may be. -/
structure Gd (p : Pc) : Prop where
  e : prE (sgC p.x) p.body = 0
  x : p.x = prG (sgC p.x) p.body
  d : sgC p.x = 218 → Cl p.data.data.toList
  n : sgC p.x ≠ 218 → p.data = ⟨#[]⟩
def pcW (p : Pc) : List UInt8 := pcL (sgC p.x) p.body p.data
theorem pcW_len (p : Pc) : (pcW p).length = 4 + p.body.size + p.data.size := pcL_len _ _ _
/-- What step says of a piece: all but that the data ends before a marker. -/
theorem step_gd {s : ByteArray} {a a' : Nat} {p : Pc} (ha : a ≤ s.size) (h : stepP s a = .next p a') (h2 : a' < s.size) : Gd p ∧ p.at_ = a ∧ a + (pcW p).length ≤ a' := by
  unfold stepP at h
  have hle := (ffEnd_is s a).le
  split at h
  · cases h
  · rename_i hsz
    split at h
    · cases h
    · rename_i hc0
      split at h
      · split at h <;> cases h
      · unfold segP at h
        split at h
        · cases h
        · split at h
          · cases h
          · split at h
            · cases h
            · split at h
              · cases h
              · rename_i q1 q2 q3 q4
                obtain ⟨b, hb⟩ : ∃ b, b = ffEnd s a + 1 := ⟨_, rfl⟩
                obtain ⟨m, hm⟩ : ∃ m, m = (pAt s b).toNat := ⟨_, rfl⟩
                obtain ⟨c, hc⟩ : ∃ c, c = bAt s (ffEnd s a) := ⟨_, rfl⟩
                rw [← hc, ← hb, ← hm] at h
                rw [← hb] at q2
                rw [← hb, ← hm] at q3
                rw [← hc, ← hb, ← hm] at q4
                have q4 : prE c (s.extract (b + 2) (b + m)) = 0 := Decidable.not_not.1 q4
                obtain ⟨p1, p2, p3, p4, p5⟩ := parse_back q4
                injection h with hp ha'
                subst hp
                have hbz : (s.extract (b + 2) (b + m)).size = m - 2 := by rw [ByteArray.size_extract]; omega
                have hm2 : 2 ≤ m := by omega
                refine ⟨⟨by rw [p1]; exact q4, by dsimp only; rw [p1], fun h218 => ?_, fun h218 => ?_⟩, rfl, ?_⟩
                · rw [p1] at h218
                  dsimp only
                  rw [if_pos h218] at ha' ⊢
                  subst ha'
                  rw [bs_ext]
                  exact (dEnd_cl (s := s) _ (b + m) (Nat.le_refl _) (by omega) h2).1
                · rw [p1] at h218
                  dsimp only
                  rw [if_neg h218]
                · rw [pcW_len]
                  dsimp only
                  rw [hbz]
                  by_cases h218 : c = 218
                  · rw [if_pos h218] at ha' ⊢
                    have hd := dEnd_bd (s := s) _ (b + m) (Nat.le_refl _) (by omega)
                    rw [ByteArray.size_extract]
                    have hne : ffEnd s a ≠ a := fun h0 => hc0 (.inl h0)
                    omega
                  · rw [if_neg h218] at ha' ⊢
                    have hne : ffEnd s a ≠ a := fun h0 => hc0 (.inl h0)
                    show a + (4 + (m - 2) + 0) ≤ a'
                    omega
theorem step_lt {s : ByteArray} {a : Nat} (ha : a ≤ s.size) (h : stepP s a = .fin ∨ ∃ p a', stepP s a = .next p a') : a + 2 ≤ s.size := by
  unfold stepP at h
  have hle := (ffEnd_is s a).le
  by_cases h1 : s.size ≤ ffEnd s a
  · rw [if_pos h1] at h; rcases h with h | ⟨_, _, h⟩ <;> cases h
  · rw [if_neg h1] at h
    by_cases h2 : ffEnd s a = a ∨ bAt s (ffEnd s a) = 0 ∨ (208 ≤ bAt s (ffEnd s a) ∧ bAt s (ffEnd s a) ≤ 216)
    · rw [if_pos h2] at h; rcases h with h | ⟨_, _, h⟩ <;> cases h
    · have : ffEnd s a ≠ a := fun h0 => h2 (.inl h0)
      omega
theorem step_bad {s : ByteArray} {a b : Nat} {e : Int} (h : stepP s a = .bad b e) : e ≠ 0 := by
  unfold stepP at h
  split at h
  · cases h; decide
  · split at h
    · cases h; decide
    · split at h
      · split at h
        · cases h; decide
        · cases h
      · unfold segP at h
        split at h
        · cases h; decide
        · split at h
          · cases h; decide
          · split at h
            · cases h; decide
            · split at h
              · rename_i hq; cases h; exact hq
              · cases h
def lenP (l : List Pc) : Nat := (l.map fun p => (pcW p).length).sum
theorem spL_good {s : ByteArray} : ∀ (f a : Nat) (l : List Pc) {m : List Pc} {b : Nat}, a ≤ s.size → s.size + 1 - a ≤ f → spL s f a l = (m, b, 0) → b = 0 ∧ ∃ m', m = l ++ m' ∧ (∀ p ∈ m', Gd p) ∧ a + lenP m' + 2 ≤ s.size
  | 0, a, l, m, b, ha, hf, h => by omega
  | f + 1, a, l, m, b, ha, hf, h => by
    rw [spL] at h
    cases hst : stepP s a with
    | bad c e => rw [hst] at h; injection h with _ h; injection h with _ h; exact absurd h (step_bad hst)
    | fin =>
      rw [hst] at h
      injection h with h1 h2; injection h2 with h2 _
      have := step_lt ha (.inl hst)
      exact ⟨h2.symm, [], by rw [← h1]; simp, by simp, by simp [lenP]; omega⟩
    | next p a' =>
      rw [hst] at h
      have h : spL s f a' (l ++ [p]) = (m, b, 0) := h
      obtain ⟨h1, h2⟩ := step_adv ha hst
      obtain ⟨hb, m', hm, hg, hlen⟩ := spL_good f a' (l ++ [p]) h2 (by omega) h
      obtain ⟨g1, g2, g3⟩ := step_gd ha hst (by omega)
      refine ⟨hb, p :: m', by rw [hm]; simp, fun q hq => ?_, ?_⟩
      · rcases List.mem_cons.1 hq with rfl | hq
        · exact g1
        · exact hg q hq
      · simp only [lenP, List.map_cons, List.sum_cons] at hlen ⊢
        omega
/-- The same pieces, places aside. -/
def Same (l m : List Pc) : Prop := l.map (fun p => (p.x, p.body, p.data)) = m.map (fun p => (p.x, p.body, p.data))
def joinL (m : List Pc) : List UInt8 := [255, 216] ++ catW pcW m ++ [255, 217]
theorem gd_code {p : Pc} (h : Gd p) : 192 ≤ sgC p.x ∧ sgC p.x ≤ 254 ∧ ¬ (208 ≤ sgC p.x ∧ sgC p.x ≤ 217) := by
  have := mayC_zero (prE_may h.e).1
  omega
theorem spL_join {s : ByteArray} : ∀ (m : List Pc) (pre : List UInt8) (f : Nat) (l : List Pc), (∀ p ∈ m, Gd p) → s.data.toList = pre ++ (catW pcW m ++ [255, 217]) → m.length + 1 ≤ f → ∃ m', spL s f pre.length l = (l ++ m', 0, 0) ∧ Same m' m
  | [], pre, f, l, _, hs, hf => by
    obtain ⟨g, rfl⟩ : ∃ g, f = g + 1 := ⟨f - 1, by simp at hf; omega⟩
    have hs : s.data.toList = pre ++ [255, 217] := by simpa [catW] using hs
    have hz : s.size = pre.length + 2 := by rw [size_list hs]; simp
    have b0 : bAt s pre.length = 255 := by rw [bAt_list hs, List.getElem?_append_right (Nat.le_refl _)]; simp
    have b1 : bAt s (pre.length + 1) = 217 := by rw [bAt_list hs, List.getElem?_append_right (by omega)]; simp
    have hff : ffEnd s pre.length = pre.length + 1 := ffEnd_eq ⟨by omega, fun j h1 h2 => by rw [show j = pre.length by omega]; exact b0, by rw [b1]; decide⟩
    have hst : stepP s pre.length = .fin := by
      unfold stepP
      rw [hff, if_neg (by omega), b1, if_neg (by omega), if_pos rfl, if_neg (by omega)]
    refine ⟨[], ?_, rfl⟩
    rw [spL, hst]; simp
  | p :: m, pre, f, l, hg, hs, hf => by
    obtain ⟨g, rfl⟩ : ∃ g, f = g + 1 := ⟨f - 1, by simp at hf; omega⟩
    have hp := hg p (by simp)
    have hcode := gd_code hp
    have e : catW pcW (p :: m) = pcW p ++ catW pcW m := by simp [catW]
    rw [e] at hs
    obtain ⟨post, c2, hpost, hc2, he2⟩ : ∃ (post : List UInt8) (c2 : UInt8), catW pcW m ++ [255, 217] = 255 :: c2 :: post ∧ c2 ≠ 255 ∧ endB (c2.toNat : Int) := by
      cases m with
      | nil => exact ⟨[], 217, by simp [catW], by decide, by decide⟩
      | cons q m =>
        have hq := gd_code (hg q (by simp))
        have e2 : catW pcW (q :: m) = pcW q ++ catW pcW m := by simp [catW]
        have hn : (UInt8.ofNat (sgC q.x).toNat).toNat = (sgC q.x).toNat := by simp; omega
        refine ⟨_, UInt8.ofNat (sgC q.x).toNat, by rw [e2, pcW, pcL]; rfl, fun h => ?_, ?_⟩
        · have := congrArg UInt8.toNat h
          rw [hn] at this
          have h3 : (255 : UInt8).toNat = 255 := rfl
          omega
        · rw [hn]; unfold endB; omega
    have hst := seg_at (s := s) (pre := pre) (post := catW pcW m ++ [255, 217]) (c := sgC p.x) (body := p.body) (data := p.data) hp.e (by rw [hs, pcW]; simp only [List.append_assoc]) (fun h218 => by
      have hl : (pre ++ ([255, UInt8.ofNat (sgC p.x).toNat, UInt8.ofNat ((p.body.size + 2) / 256), UInt8.ofNat ((p.body.size + 2) % 256)] ++ p.body.data.toList)).length = pre.length + 4 + p.body.size := by
        have hbl : p.body.data.toList.length = p.body.size := by rw [Array.length_toList]; rfl
        rw [List.length_append, List.length_append, hbl]; simp; omega
      have := cl_dEnd (hp.d h218) (s := s) (pre := pre ++ ([255, UInt8.ofNat (sgC p.x).toNat, UInt8.ofNat ((p.body.size + 2) / 256), UInt8.ofNat ((p.body.size + 2) % 256)] ++ p.body.data.toList)) (post := post) (c := c2) (by rw [hs, pcW, pcL, ← hpost]; simp only [List.append_assoc]) hc2 he2
      rw [hl] at this
      rw [this, Array.length_toList]; rfl) hp.n
    rw [← hp.x] at hst
    have hl2 : pre.length + (pcL (sgC p.x) p.body p.data).length = (pre ++ pcW p).length := by rw [List.length_append]; rfl
    rw [hl2] at hst
    obtain ⟨m', h1, h2⟩ := spL_join m (pre ++ pcW p) g (l ++ [⟨pre.length, p.x, p.body, p.data⟩]) (fun q hq => hg q (by simp [hq])) (by rw [hs]; simp only [List.append_assoc]) (by simp at hf ⊢; omega)
    refine ⟨⟨pre.length, p.x, p.body, p.data⟩ :: m', ?_, ?_⟩
    · rw [spL, hst]
      show spL s g (pre ++ pcW p).length _ = _
      rw [h1]; simp
    · show _ :: _ = _ :: _
      rw [show List.map (fun p => (p.x, p.body, p.data)) m' = List.map (fun p => (p.x, p.body, p.data)) m from h2]
theorem catW_sum (m : List Pc) : (catW pcW m).length = lenP m := by
  induction m with
  | nil => rfl
  | cons p m ih =>
    have e : catW pcW (p :: m) = pcW p ++ catW pcW m := by simp [catW]
    rw [e, List.length_append, ih]
    simp [lenP]
theorem lenP_ge (m : List Pc) : 4 * m.length ≤ lenP m := by
  induction m with
  | nil => simp [lenP]
  | cons p m ih =>
    have := pcW_len p
    simp only [lenP, List.map_cons, List.sum_cons, List.length_cons] at ih ⊢
    omega
/-- A file of good pieces is split into them. -/
theorem spF_join {s : ByteArray} {m : List Pc} (hg : ∀ p ∈ m, Gd p) (hs : s.data.toList = joinL m) (hz : s.size ≤ 16777216) : ∃ m', spF s = (m', 0, 0) ∧ Same m' m := by
  have hlen : s.size = 4 + lenP m := by rw [size_list hs, joinL, List.length_append, List.length_append, catW_sum]; simp; omega
  have b0 : bAt s 0 = 255 := by rw [bAt_list hs, joinL]; simp
  have b1 : bAt s 1 = 216 := by rw [bAt_list hs, joinL]; simp
  have := lenP_ge m
  obtain ⟨m', h1, h2⟩ := spL_join (s := s) m [255, 216] (s.size + 1) [] hg (by rw [hs, joinL]; simp only [List.append_assoc]) (by omega)
  refine ⟨m', ?_, h2⟩
  unfold spF
  rw [if_neg (by omega), if_neg (by rw [b0, b1]; omega)]
  simpa using h1
/-- What is split is good. -/
theorem spF_good {s : ByteArray} {m : List Pc} {b : Nat} (h : spF s = (m, b, 0)) : b = 0 ∧ (∀ p ∈ m, Gd p) ∧ 4 + lenP m ≤ s.size ∧ s.size ≤ 16777216 := by
  unfold spF at h
  split at h
  · injection h with _ h; injection h with _ h; cases h
  · split at h
    · injection h with _ h; injection h with _ h; cases h
    · obtain ⟨h1, m', h2, h3, h4⟩ := spL_good _ 2 [] (by omega) (by omega) h
      simp only [List.nil_append] at h2
      subst h2
      exact ⟨h1, h3, by omega, by omega⟩
theorem spL_le {s : ByteArray} : ∀ (f a : Nat) (l : List Pc), a ≤ s.size → (spL s f a l).2.1 ≤ s.size
  | 0, a, l, ha => ha
  | f + 1, a, l, ha => by
    rw [spL]
    cases hst : stepP s a with
    | bad b e =>
      show b ≤ s.size
      unfold stepP at hst
      have hl := ffEnd_le ha
      split at hst
      · cases hst; omega
      · split at hst
        · cases hst; omega
        · split at hst
          · split at hst
            · cases hst; omega
            · cases hst
          · unfold segP at hst
            split at hst
            · cases hst; omega
            · split at hst
              · cases hst; omega
              · split at hst
                · cases hst; omega
                · split at hst
                  · cases hst; omega
                  · cases hst
    | fin => exact Nat.zero_le _
    | next p a' => exact spL_le f a' _ (step_adv ha hst).2
theorem spL_no {s : ByteArray} : ∀ (f a : Nat) (l : List Pc), a ≤ s.size → s.size + 1 - a ≤ f → (spL s f a l).2.2 ≠ 0 → (spL s f a l).1 = []
  | 0, a, l, ha, hf, h => by omega
  | f + 1, a, l, ha, hf, h => by
    rw [spL] at h ⊢
    cases hst : stepP s a with
    | bad b e => rfl
    | fin => rw [hst] at h; exact absurd rfl h
    | next p a' => rw [hst] at h; exact spL_no f a' _ (step_adv ha hst).2 (by have := (step_adv ha hst).1; omega) h
theorem spF_le (s : ByteArray) : (spF s).2.1 ≤ s.size := by
  unfold spF
  split
  · exact Nat.zero_le _
  · split
    · exact Nat.zero_le _
    · exact spL_le _ _ _ (by omega)
theorem spF_no {s : ByteArray} (h : (spF s).2.2 ≠ 0) : (spF s).1 = [] := by
  unfold spF at h ⊢
  split
  · rfl
  · rename_i h1
    rw [if_neg h1] at h
    split
    · rfl
    · rename_i h2
      rw [if_neg h2] at h
      exact spL_no _ _ _ (by omega) (by omega) h
end Go.Proofs.YthibnhgbgmpjoaaDoor

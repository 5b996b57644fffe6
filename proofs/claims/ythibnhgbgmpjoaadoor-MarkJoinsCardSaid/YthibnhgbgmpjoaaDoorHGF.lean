/- Plain laws on numbers' bytes, for CursorBack. -/
import Derived.Test.YthibnhgbgmpjoaaDoorHGA
import Derived.Test.YthibnhgbgmpjoaaDoorHSegS
namespace Go.Proofs.YthibnhgbgmpjoaaDoor
open Go.RowKit
def okP (m : Nat) (x : Int) : Bool := decide (0 ≤ x ∧ x < 256 ^ m)
def fl (m : Nat) (f : Nat → Int) (k : Nat) : List Int := ((List.range k).map f).filter (okP m)
def bysL (m : Nat) (l : List Int) : List UInt8 := (l.map fun x => byL x m).flatten
theorem fl_yes (m : Nat) (f : Nat → Int) (k : Nat) (h : okP m (f k) = true) : fl m f (k + 1) = fl m f k ++ [f k] := by simp [fl, List.range_succ, h]
theorem fl_no (m : Nat) (f : Nat → Int) (k : Nat) (h : okP m (f k) = false) : fl m f (k + 1) = fl m f k := by simp [fl, List.range_succ, h]
theorem fl_le (m : Nat) (f : Nat → Int) (k : Nat) : (fl m f k).length ≤ k := by have := List.length_filter_le (okP m) ((List.range k).map f); simpa [fl] using this
theorem fl_ok (m : Nat) (f : Nat → Int) (k j : Nat) (h : j < (fl m f k).length) : 0 ≤ (fl m f k)[j] ∧ (fl m f k)[j] < 256 ^ m := by
  have h1 := List.getElem_mem h
  have h2 := (List.mem_filter.1 h1).2
  simpa [okP] using h2
theorem bysL_cons (m : Nat) (x : Int) (l : List Int) : bysL m (x :: l) = byL x m ++ bysL m l := by simp [bysL]
theorem bysL_len (m : Nat) (l : List Int) : (bysL m l).length = m * l.length := by
  induction l with
  | nil => simp [bysL]
  | cons x l ih => rw [bysL_cons, List.length_append, byL_length, ih, List.length_cons, Nat.mul_succ, Nat.add_comm]
theorem bysL_snoc (m : Nat) (l : List Int) (x : Int) : bysL m (l ++ [x]) = bysL m l ++ byL x m := by simp [bysL]
theorem bysL_cut (m : Nat) (l : List Int) (j : Nat) (h : j < l.length) : ((bysL m l).drop (m * j)).take m = byL l[j] m := by
  induction l generalizing j with
  | nil => simp at h
  | cons x l ih =>
    rw [bysL_cons]
    cases j with
    | zero =>
      rw [Nat.mul_zero, List.drop_zero, List.take_append_of_le_length (by rw [byL_length]; exact Nat.le_refl _), List.take_of_length_le (by rw [byL_length]; exact Nat.le_refl _)]
      rfl
    | succ j =>
      have e : m * (j + 1) = (byL x m).length + m * j := by rw [byL_length, Nat.mul_succ, Nat.add_comm]
      rw [e, List.drop_length_add_append]
      simpa using ih j (by simpa using h)
theorem numL_byL (n : Int) (m : Nat) (h0 : 0 ≤ n) (h : n < 256 ^ m) : numL (byL n m) = n := by
  induction m generalizing n with
  | zero => simp at h; have : n = 0 := by omega
            subst this; rfl
  | succ m ih =>
    have h1 : n / 256 < 256 ^ m := by
      rw [Int.pow_succ] at h
      exact Int.ediv_lt_of_lt_mul (by omega) h
    rw [byL, numL_snoc, ih (n / 256) (by omega) h1]
    have h2 : ((UInt8.ofNat (n % 256).toNat).toNat : Int) = n % 256 := by
      rw [UInt8.toNat_ofNat']
      omega
    rw [h2]
    omega
theorem cut_bytes (m : Nat) (l : List Int) (j : Nat) (h : j < l.length) : (⟨(bysL m l).toArray⟩ : ByteArray).extract (m * j) (m * j + m) = ⟨(byL l[j] m).toArray⟩ := by
  apply ByteArray.ext
  rw [ByteArray.data_extract]
  apply Array.ext'
  rw [Array.toList_extract]
  show List.take (m * j + m - m * j) (List.drop (m * j) (bysL m l)) = byL l[j] m
  rw [Nat.add_sub_cancel_left]
  exact bysL_cut m l j h
end Go.Proofs.YthibnhgbgmpjoaaDoor
namespace Go.Proofs.YthibnhgbgmpjoaaDoor
open Go.RowKit
set_option linter.unusedSimpArgs false
set_option linter.unusedVariables false
/-- The bytes from i to j. -/
def bs (s : ByteArray) (i j : Nat) : List UInt8 := (s.data.toList.take j).drop i
theorem bs_app (s : ByteArray) {i j k : Nat} (h1 : i ≤ j) (h2 : j ≤ k) : bs s i j ++ bs s j k = bs s i k := by
  unfold bs
  have e : s.data.toList.take j = (s.data.toList.take k).take j := by rw [List.take_take, Nat.min_eq_left h2]
  rw [e, List.drop_take]
  have e2 : (s.data.toList.take k).drop j = ((s.data.toList.take k).drop i).drop (j - i) := by rw [List.drop_drop]; congr 1; omega
  rw [e2, List.take_append_drop]
theorem bs_nil (s : ByteArray) (i : Nat) : bs s i i = [] := by unfold bs; rw [List.drop_eq_nil_iff, List.length_take]; omega
theorem bs_all (s : ByteArray) : bs s 0 s.size = s.data.toList := by unfold bs; rw [List.drop_zero, List.take_of_length_le (by rw [Array.length_toList]; exact Nat.le_refl _)]
theorem bs_ext (s : ByteArray) (i j : Nat) : (s.extract i j).data.toList = bs s i j := by
  unfold bs
  rw [ByteArray.data_extract, Array.toList_extract]
  simp [List.extract_eq_take_drop, List.drop_take]
theorem byL_numL (l : List UInt8) : byL (numL l) l.length = l := by
  have H : ∀ m (l : List UInt8), l.length = m → byL (numL l) m = l := by
    intro m
    induction m with
    | zero => intro l h; rw [List.length_eq_zero_iff.1 h]; rfl
    | succ m ih =>
      intro l h
      have hne : l ≠ [] := by intro e; rw [e] at h; simp at h
      obtain ⟨k, c, rfl⟩ : ∃ k c, l = k ++ [c] := ⟨l.dropLast, l.getLast hne, (List.dropLast_concat_getLast hne).symm⟩
      rw [numL_snoc, byL]
      have hc : c.toNat < 256 := c.toNat_lt
      have e1 : (numL k * 256 + (c.toNat : Int)) / 256 = numL k := by omega
      have e2 : ((numL k * 256 + (c.toNat : Int)) % 256).toNat = c.toNat := by omega
      rw [e1, e2, ih k (by simpa using h)]
      simp
  exact H _ l rfl
/-- A number that was read is written back. -/
theorem num_back {s : ByteArray} {n : Nat} {t : St} (h : (nS s n t).e = 0) : putL (nV s n t) n = bs s t.a (nS s n t).a ∧ putB (nV s n t) n = false ∧ t.e = 0 ∧ t.a ≤ (nS s n t).a ∧ (nS s n t).a ≤ s.size := by
  obtain ⟨h0, h1, h2⟩ := nS_ok h
  have hV : nV s n t = numL (bs s t.a (t.a + n)) := by
    have h' : nxE s n t.a t.e = 0 := h
    unfold nV nxV
    rw [if_pos h', bs_ext]
  have hl : (bs s t.a (t.a + n)).length = n := by unfold bs; rw [List.length_drop, List.length_take, Array.length_toList]; show min (t.a + n) s.size - t.a = n; omega
  have hb := nV_bd2 s n t
  refine ⟨?_, ?_, h0, by omega, by omega⟩
  · unfold putL
    rw [if_pos hb, hV, h2]
    have := byL_numL (bs s t.a (t.a + n))
    rwa [hl] at this
  · unfold putB
    exact decide_eq_false (fun hc => hc hb)
theorem hv_back (v : Int) (h0 : 0 ≤ v) (h1 : v < 256) : hvL (v / 16) (v % 16) = putL v 1 ∧ hvB (v / 16) (v % 16) = false := by
  unfold hvL hvB
  refine ⟨by congr 1; omega, by simp; omega⟩
theorem idT_ok {x id : Int} {l : List Int} {t : St} (h : (idT x id l t).e = 0) (hx : x ≠ 0) : t.e = 0 ∧ (idT x id l t).a = t.a ∧ ∀ y ∈ l, y ≠ id := by
  induction l generalizing t with
  | nil => exact ⟨h, rfl, by simp⟩
  | cons y l ih =>
    have e : idT x id (y :: l) t = idT x id l (tS t (y != id) x) := rfl
    rw [e] at h ⊢
    obtain ⟨h1, h2, h3⟩ := ih h
    obtain ⟨h4, h5⟩ := tS_ok h1 hx
    refine ⟨h4, h2, fun z hz => ?_⟩
    rcases List.mem_cons.1 hz with rfl | hz
    · simpa using h5
    · exact h3 z hz
theorem pk1_back {s : ByteArray} {t : St} {l : List Pk} (h : (pk1 s (t, l)).1.e = 0) :
    t.e = 0 ∧ ∃ p, (pk1 s (t, l)).2 = l ++ [p] ∧ pkW p = bs s t.a (pk1 s (t, l)).1.a ∧ pkB p = false ∧ t.a ≤ (pk1 s (t, l)).1.a ∧ (pk1 s (t, l)).1.a ≤ s.size := by
  have h1 := (tS_ok h (by decide)).1
  obtain ⟨e1, e2, e3, e4, e5⟩ := num_back h1
  obtain ⟨f1, f2, f3⟩ := idT_ok e3 (by decide)
  obtain ⟨g1, g2, g3, g4, g5⟩ := num_back f1
  refine ⟨g3, _, rfl, ?_, ?_, ?_, ?_⟩
  · unfold pkW
    have hb := nV_bd s (idT 8 (nV s 1 t) (l.map Pk.id) (nS s 1 t))
    have h2 := (hv_back _ hb.1 hb.2).1
    show putL (nV s 1 t) 1 ++ hvL _ _ = bs s t.a (nS s 1 (idT 8 (nV s 1 t) (l.map Pk.id) (nS s 1 t))).a
    rw [h2, g1, e1, f2, bs_app s g4 (by rw [← f2]; exact e4)]
  · have hb := nV_bd s (idT 8 (nV s 1 t) (l.map Pk.id) (nS s 1 t))
    have h2 := (hv_back _ hb.1 hb.2).2
    unfold pkB
    show (putB (nV s 1 t) 1 || hvB _ _) = false
    rw [h2, g2]; rfl
  · show t.a ≤ (nS s 1 (idT 8 (nV s 1 t) (l.map Pk.id) (nS s 1 t))).a
    exact Nat.le_trans g4 (f2 ▸ e4)
  · exact e5
theorem pkL_back {s : ByteArray} : ∀ (k : Nat) {t : St} {l : List Pk}, (pkL s k (t, l)).1.e = 0 →
    t.e = 0 ∧ ∃ m, (pkL s k (t, l)).2 = l ++ m ∧ m.length = k ∧ catW pkW m = bs s t.a (pkL s k (t, l)).1.a ∧ m.any pkB = false ∧ t.a ≤ (pkL s k (t, l)).1.a ∧ (t.a ≤ s.size → (pkL s k (t, l)).1.a ≤ s.size)
  | 0, t, l, h => ⟨h, [], by simp [pkL], rfl, by simp [catW, pkL, bs_nil], rfl, Nat.le_refl _, fun h => h⟩
  | k + 1, t, l, h => by
    by_cases he : t.e = 0
    · have e : pkL s (k + 1) (t, l) = pkL s k (pk1 s (t, l)) := by rw [pkL, if_pos he]
      rw [e] at h ⊢
      obtain ⟨h1, m, h2, h3, h4, h5, h6, h7⟩ := pkL_back k (t := (pk1 s (t, l)).1) (l := (pk1 s (t, l)).2) h
      obtain ⟨_, p, g1, g2, g3, g4, g5⟩ := pk1_back h1
      have hee : pkL s k (pk1 s (t, l)) = pkL s k ((pk1 s (t, l)).1, (pk1 s (t, l)).2) := rfl
      rw [hee]
      refine ⟨he, p :: m, ?_, by simp [h3], ?_, ?_, by omega, fun _ => h7 g5⟩
      · rw [h2, g1]; simp
      · have : catW pkW (p :: m) = pkW p ++ catW pkW m := by simp [catW]
        rw [this, g2, h4, bs_app s g4 h6]
      · simp [g3, h5]
    · rw [pkL_bad _ _ _ he] at h
      exact absurd h he
theorem nS_st0 (s : ByteArray) : st0.a = 0 := rfl
theorem scan_back {s : ByteArray} (h : (scR s st0).t.e = 0) :
    scW (scR s st0).l (scR s st0).a (scR s st0).b (scR s st0).hi (scR s st0).lo = bs s 0 (scR s st0).t.a ∧ scB (scR s st0).l (scR s st0).a (scR s st0).b (scR s st0).hi (scR s st0).lo = false ∧ (scR s st0).l.length ≤ 4 ∧ (scR s st0).t.a ≤ s.size := by
  obtain ⟨n, hn⟩ : ∃ n, n = nV s 1 st0 := ⟨_, rfl⟩
  obtain ⟨t1, ht1⟩ : ∃ t, t = nS s 1 st0 := ⟨_, rfl⟩
  obtain ⟨t2, ht2⟩ : ∃ t, t = tS t1 (decide (1 ≤ n ∧ n ≤ 4)) 8 := ⟨_, rfl⟩
  obtain ⟨t3, l3, hp⟩ : ∃ t l, (t, l) = pkL s n.toNat (t2, []) := ⟨_, _, rfl⟩
  obtain ⟨a, ha⟩ : ∃ n, n = nV s 1 t3 := ⟨_, rfl⟩
  obtain ⟨t4, ht4⟩ : ∃ t, t = nS s 1 t3 := ⟨_, rfl⟩
  obtain ⟨b, hb⟩ : ∃ n, n = nV s 1 t4 := ⟨_, rfl⟩
  obtain ⟨t5, ht5⟩ : ∃ t, t = nS s 1 t4 := ⟨_, rfl⟩
  obtain ⟨v, hv⟩ : ∃ n, n = nV s 1 t5 := ⟨_, rfl⟩
  obtain ⟨t6, ht6⟩ : ∃ t, t = nS s 1 t5 := ⟨_, rfl⟩
  have hR : scR s st0 = ⟨tS t6 (decide (a ≤ b ∧ b ≤ 63 ∧ v / 16 ≤ 13 ∧ v % 16 ≤ 13)) 8, l3, a, b, v / 16, v % 16⟩ := by
    rw [scR]
    simp only [← hn, ← ht1, ← ht2, ← hp, ← ha, ← ht4, ← hb, ← ht5, ← hv, ← ht6]
  rw [hR] at h ⊢
  dsimp only at h ⊢
  have ea : (tS t6 (decide (a ≤ b ∧ b ≤ 63 ∧ v / 16 ≤ 13 ∧ v % 16 ≤ 13)) 8).a = t6.a := rfl
  rw [ea]
  have h1 := (tS_ok h (by decide)).1
  have k1 := num_back (s := s) (n := 1) (t := t5) (ht6 ▸ h1)
  rw [← ht6, ← hv] at k1
  obtain ⟨a1, a2, a3, a4, a5⟩ := k1
  have hvb := nV_bd s t5
  rw [← hv] at hvb
  have k2 := num_back (s := s) (n := 1) (t := t4) (ht5 ▸ a3)
  rw [← ht5, ← hb] at k2
  obtain ⟨b1, b2, b3, b4, b5⟩ := k2
  have k3 := num_back (s := s) (n := 1) (t := t3) (ht4 ▸ b3)
  rw [← ht4, ← ha] at k3
  obtain ⟨c1, c2, c3, c4, c5⟩ := k3
  have hp1 : (pkL s n.toNat (t2, [])).1 = t3 := by rw [← hp]
  have hp2 : (pkL s n.toNat (t2, [])).2 = l3 := by rw [← hp]
  obtain ⟨d0, m, d1, d2, d3, d4, d5, d6⟩ := pkL_back n.toNat (s := s) (t := t2) (l := []) (by rw [hp1]; exact c3)
  rw [hp1] at d3 d5 d6
  rw [hp2, List.nil_append] at d1
  subst d1
  rw [ht2] at d0
  obtain ⟨e0, e0b⟩ := tS_ok d0 (by decide)
  have hnb : 1 ≤ n ∧ n ≤ 4 := of_decide_eq_true e0b
  have k4 := num_back (s := s) (n := 1) (t := st0) (ht1 ▸ e0)
  rw [← hn, ← ht1] at k4
  obtain ⟨f1, f2, f3, f4, f5⟩ := k4
  have t2a : t2.a = t1.a := by rw [ht2]; rfl
  rw [t2a] at d3 d5
  have hml : (l3.length : Int) = n := by rw [d2]; omega
  have hvv := hv_back v hvb.1 hvb.2
  refine ⟨?_, ?_, by omega, a5⟩
  · unfold scW
    have f4' : 0 ≤ t1.a := Nat.zero_le _
    rw [hml, hvv.1, f1, d3, c1, b1, a1, show st0.a = 0 from rfl, bs_app s f4' d5, bs_app s (Nat.zero_le _) c4, bs_app s (Nat.zero_le _) b4, bs_app s (Nat.zero_le _) a4]
  · unfold scB
    rw [hml, hvv.2, f2, d4, c2, b2]
    rfl
end Go.Proofs.YthibnhgbgmpjoaaDoor
namespace Go.Proofs.YthibnhgbgmpjoaaDoor
open Go.RowKit
set_option linter.unusedSimpArgs false
set_option linter.unusedVariables false
theorem pt1_back {s : ByteArray} {t : St} {l : List Pt} (h : (pt1 s (t, l)).1.e = 0) :
    t.e = 0 ∧ ∃ p, (pt1 s (t, l)).2 = l ++ [p] ∧ ptW p = bs s t.a (pt1 s (t, l)).1.a ∧ ptB p = false ∧ t.a ≤ (pt1 s (t, l)).1.a ∧ (pt1 s (t, l)).1.a ≤ s.size ∧ (0 ≤ p.id ∧ p.id ≤ 255 ∧ 1 ≤ p.h ∧ p.h ≤ 4 ∧ 1 ≤ p.v ∧ p.v ≤ 4 ∧ 0 ≤ p.q ∧ p.q ≤ 3) ∧ ∀ x ∈ l, x.id ≠ p.id := by
  obtain ⟨id, hid⟩ : ∃ n, n = nV s 1 t := ⟨_, rfl⟩
  obtain ⟨t2, ht2⟩ : ∃ x, x = nS s 1 t := ⟨_, rfl⟩
  obtain ⟨v, hv⟩ : ∃ n, n = nV s 1 t2 := ⟨_, rfl⟩
  obtain ⟨t3, ht3⟩ : ∃ x, x = nS s 1 t2 := ⟨_, rfl⟩
  obtain ⟨t4, ht4⟩ : ∃ x, x = tS t3 (decide (1 ≤ v / 16 ∧ v / 16 ≤ 4 ∧ 1 ≤ v % 16 ∧ v % 16 ≤ 4)) 7 := ⟨_, rfl⟩
  obtain ⟨q, hq⟩ : ∃ n, n = nV s 1 t4 := ⟨_, rfl⟩
  obtain ⟨t5, ht5⟩ : ∃ x, x = nS s 1 t4 := ⟨_, rfl⟩
  have hR : pt1 s (t, l) = (idT 7 id (l.map Pt.id) (tS t5 (decide (q ≤ 3)) 7), l ++ [⟨id, v / 16, v % 16, q⟩]) := by
    rw [pt1]; simp only [← hid, ← ht2, ← hv, ← ht3, ← ht4, ← hq, ← ht5]
  rw [hR] at h ⊢
  dsimp only at h ⊢
  obtain ⟨g1, g2, g3⟩ := idT_ok h (by decide)
  obtain ⟨g4, g5⟩ := tS_ok g1 (by decide)
  have k1 := num_back (s := s) (n := 1) (t := t4) (ht5 ▸ g4)
  have kb1 := nV_bd s t4
  rw [← ht5, ← hq] at k1
  rw [← hq] at kb1
  obtain ⟨a1, a2, a3, a4, a5⟩ := k1
  rw [ht4] at a3
  obtain ⟨g6, g7⟩ := tS_ok a3 (by decide)
  have k2 := num_back (s := s) (n := 1) (t := t2) (ht3 ▸ g6)
  have kb2 := nV_bd s t2
  rw [← ht3, ← hv] at k2
  rw [← hv] at kb2
  obtain ⟨b1, b2, b3, b4, b5⟩ := k2
  have k3 := num_back (s := s) (n := 1) (t := t) (ht2 ▸ b3)
  have kb3 := nV_bd s t
  rw [← ht2, ← hid] at k3
  rw [← hid] at kb3
  obtain ⟨c1, c2, c3, c4, c5⟩ := k3
  have hvv := hv_back v kb2.1 kb2.2
  have t4a : t4.a = t3.a := by rw [ht4]; rfl
  have ea : (tS t5 (decide (q ≤ 3)) 7).a = t5.a := rfl
  have hq3 : q ≤ 3 := of_decide_eq_true g5
  have hhv : 1 ≤ v / 16 ∧ v / 16 ≤ 4 ∧ 1 ≤ v % 16 ∧ v % 16 ≤ 4 := of_decide_eq_true g7
  rw [g2, ea]
  rw [t4a] at a1 a4
  refine ⟨c3, _, rfl, ?_, ?_, by omega, a5, ⟨kb3.1, by dsimp only; omega, hhv.1, hhv.2.1, hhv.2.2.1, hhv.2.2.2, kb1.1, hq3⟩, fun x hx => g3 _ (List.mem_map.2 ⟨x, hx, rfl⟩)⟩
  · show putL id 1 ++ hvL (v / 16) (v % 16) ++ putL q 1 = _
    rw [hvv.1, c1, b1, a1, bs_app s c4 b4, bs_app s (Nat.le_trans c4 b4) a4]
  · show (putB id 1 || hvB (v / 16) (v % 16) || putB q 1) = false
    rw [hvv.2, c2, a2]; rfl
/-- A frame's component that may be. -/
def Pt.rng (p : Pt) : Prop := 0 ≤ p.id ∧ p.id ≤ 255 ∧ 1 ≤ p.h ∧ p.h ≤ 4 ∧ 1 ≤ p.v ∧ p.v ≤ 4 ∧ 0 ≤ p.q ∧ p.q ≤ 3
/-- All are right, and no two have one number. -/
def ptsOk (l : List Pt) : Prop := (∀ p ∈ l, p.rng) ∧ l.Pairwise (fun a b => a.id ≠ b.id)
theorem ptsOk_snoc {l : List Pt} {p : Pt} (h : ptsOk l) (hp : p.rng) (hn : ∀ x ∈ l, x.id ≠ p.id) : ptsOk (l ++ [p]) := by
  refine ⟨fun x hx => ?_, ?_⟩
  · rcases List.mem_append.1 hx with hx | hx
    · exact h.1 x hx
    · rw [List.mem_singleton] at hx; subst hx; exact hp
  · rw [List.pairwise_append]
    exact ⟨h.2, by simp, fun a ha b hb => by rw [List.mem_singleton] at hb; subst hb; exact hn a ha⟩
theorem ptL_back {s : ByteArray} : ∀ (k : Nat) {t : St} {l : List Pt}, (ptL s k (t, l)).1.e = 0 → ptsOk l →
    t.e = 0 ∧ ∃ m, (ptL s k (t, l)).2 = l ++ m ∧ m.length = k ∧ catW ptW m = bs s t.a (ptL s k (t, l)).1.a ∧ m.any ptB = false ∧ t.a ≤ (ptL s k (t, l)).1.a ∧ (t.a ≤ s.size → (ptL s k (t, l)).1.a ≤ s.size) ∧ ptsOk (l ++ m)
  | 0, t, l, h, hl => ⟨h, [], by simp [ptL], rfl, by simp [catW, ptL, bs_nil], rfl, Nat.le_refl _, fun h => h, by simpa using hl⟩
  | k + 1, t, l, h, hl => by
    by_cases he : t.e = 0
    · have e : ptL s (k + 1) (t, l) = ptL s k (pt1 s (t, l)) := by rw [ptL, if_pos he]
      rw [e] at h ⊢
      have hee : ptL s k (pt1 s (t, l)) = ptL s k ((pt1 s (t, l)).1, (pt1 s (t, l)).2) := rfl
      have h0 : (pt1 s (t, l)).1.e = 0 := by
        by_cases hz : (pt1 s (t, l)).1.e = 0
        · exact hz
        · rw [hee, ptL_bad _ _ _ hz] at h; exact h
      obtain ⟨_, p, g1, g2, g3, g4, g5, g6, g7⟩ := pt1_back h0
      obtain ⟨h1, m, h2, h3, h4, h5, h6, h7, h8⟩ := ptL_back k (t := (pt1 s (t, l)).1) (l := (pt1 s (t, l)).2) h (by rw [g1]; exact ptsOk_snoc hl g6 g7)
      rw [hee]
      refine ⟨he, p :: m, ?_, by simp [h3], ?_, ?_, by omega, fun _ => h7 g5, ?_⟩
      · rw [h2, g1]; simp
      · have : catW ptW (p :: m) = ptW p ++ catW ptW m := by simp [catW]
        rw [this, g2, h4, bs_app s g4 h6]
      · simp [g3, h5]
      · rw [g1] at h8; simpa using h8
    · rw [ptL_bad _ _ _ he] at h
      exact absurd h he
theorem frame_back {s : ByteArray} (h : (frR s st0).t.e = 0) :
    frW (frR s st0).h (frR s st0).w (frR s st0).l = bs s 0 (frR s st0).t.a ∧ frB (frR s st0).h (frR s st0).w (frR s st0).l = false ∧ (frR s st0).t.a ≤ s.size ∧
    1 ≤ (frR s st0).l.length ∧ (frR s st0).l.length ≤ 4 ∧ 1 ≤ (frR s st0).h ∧ (frR s st0).h ≤ 16384 ∧ 1 ≤ (frR s st0).w ∧ (frR s st0).w ≤ 16384 ∧ ptsOk (frR s st0).l := by
  obtain ⟨x, hx⟩ : ∃ n, n = nV s 1 st0 := ⟨_, rfl⟩
  obtain ⟨t0, ht0⟩ : ∃ t, t = nS s 1 st0 := ⟨_, rfl⟩
  obtain ⟨t1, ht1⟩ : ∃ t, t = tS t0 (x == 8) 6 := ⟨_, rfl⟩
  obtain ⟨hh, hhh⟩ : ∃ n, n = nV s 2 t1 := ⟨_, rfl⟩
  obtain ⟨t2, ht2⟩ : ∃ t, t = nS s 2 t1 := ⟨_, rfl⟩
  obtain ⟨ww, hww⟩ : ∃ n, n = nV s 2 t2 := ⟨_, rfl⟩
  obtain ⟨t3, ht3⟩ : ∃ t, t = nS s 2 t2 := ⟨_, rfl⟩
  obtain ⟨t4, ht4⟩ : ∃ t, t = tS t3 (decide (0 < hh ∧ 0 < ww)) 7 := ⟨_, rfl⟩
  obtain ⟨t5, ht5⟩ : ∃ t, t = tS t4 (decide (hh ≤ 16384 ∧ ww ≤ 16384)) 11 := ⟨_, rfl⟩
  obtain ⟨n, hn⟩ : ∃ n, n = nV s 1 t5 := ⟨_, rfl⟩
  obtain ⟨t6, ht6⟩ : ∃ t, t = nS s 1 t5 := ⟨_, rfl⟩
  obtain ⟨t7, ht7⟩ : ∃ t, t = tS t6 (decide (0 < n)) 7 := ⟨_, rfl⟩
  obtain ⟨t8, ht8⟩ : ∃ t, t = tS t7 (decide (n ≤ 4)) 12 := ⟨_, rfl⟩
  obtain ⟨t9, l9, hp⟩ : ∃ t l, (t, l) = ptL s n.toNat (t8, []) := ⟨_, _, rfl⟩
  have hR : frR s st0 = ⟨t9, hh, ww, l9⟩ := by
    rw [frR]
    simp only [← hx, ← ht0, ← ht1, ← hhh, ← ht2, ← hww, ← ht3, ← ht4, ← ht5, ← hn, ← ht6, ← ht7, ← ht8, ← hp]
  rw [hR] at h ⊢
  dsimp only at h ⊢
  have hp1 : (ptL s n.toNat (t8, [])).1 = t9 := by rw [← hp]
  have hp2 : (ptL s n.toNat (t8, [])).2 = l9 := by rw [← hp]
  obtain ⟨d0, m, d1, d2, d3, d4, d5, d6, d7⟩ := ptL_back n.toNat (s := s) (t := t8) (l := []) (by rw [hp1]; exact h) ⟨by simp, by simp⟩
  rw [hp1] at d3 d5 d6
  rw [hp2, List.nil_append] at d1
  subst d1
  rw [List.nil_append] at d7
  rw [ht8] at d0
  obtain ⟨e0, e0b⟩ := tS_ok d0 (by decide)
  rw [ht7] at e0
  obtain ⟨e1, e1b⟩ := tS_ok e0 (by decide)
  have hn4 : n ≤ 4 := of_decide_eq_true e0b
  have hn0 : 0 < n := of_decide_eq_true e1b
  have k1 := num_back (s := s) (n := 1) (t := t5) (ht6 ▸ e1)
  rw [← ht6, ← hn] at k1
  obtain ⟨a1, a2, a3, a4, a5⟩ := k1
  rw [ht5] at a3
  obtain ⟨g1, g1b⟩ := tS_ok a3 (by decide)
  rw [ht4] at g1
  obtain ⟨g2, g2b⟩ := tS_ok g1 (by decide)
  have hb1 : hh ≤ 16384 ∧ ww ≤ 16384 := of_decide_eq_true g1b
  have hb2 : 0 < hh ∧ 0 < ww := of_decide_eq_true g2b
  have k2 := num_back (s := s) (n := 2) (t := t2) (ht3 ▸ g2)
  rw [← ht3, ← hww] at k2
  obtain ⟨b1, b2, b3, b4, b5⟩ := k2
  have k3 := num_back (s := s) (n := 2) (t := t1) (ht2 ▸ b3)
  rw [← ht2, ← hhh] at k3
  obtain ⟨c1, c2, c3, c4, c5⟩ := k3
  rw [ht1] at c3
  obtain ⟨f1, f1b⟩ := tS_ok c3 (by decide)
  have hx8 : x = 8 := by simpa using f1b
  have k4 := num_back (s := s) (n := 1) (t := st0) (ht0 ▸ f1)
  rw [← ht0, ← hx, hx8] at k4
  obtain ⟨i1, i2, i3, i4, i5⟩ := k4
  have e1a : t1.a = t0.a := by rw [ht1]; rfl
  have e5a : t5.a = t3.a := by rw [ht5, ht4]; rfl
  have e8a : t8.a = t6.a := by rw [ht8, ht7]; rfl
  rw [e1a] at c1 c4
  rw [e5a] at a1 a4
  rw [e8a] at d3 d5 d6
  have hml : (l9.length : Int) = n := by rw [d2]; omega
  refine ⟨?_, ?_, d6 a5, by omega, by omega, by omega, by omega, by omega, by omega, d7⟩
  · unfold frW
    rw [hml, i1, c1, b1, a1, d3, show st0.a = 0 from rfl, bs_app s (Nat.zero_le _) c4, bs_app s (Nat.zero_le _) b4, bs_app s (Nat.zero_le _) a4, bs_app s (Nat.zero_le _) d5]
  · unfold frB
    rw [hml, c2, b2, a2, d4]; rfl
/-! Tables. -/
theorem zT_back {s : ByteArray} {n : Nat} {u : St} : ∀ (k : Nat), (zT s n u k).e = 0 → u.e = 0 ∧ zW (zV s n u) n k = bs s u.a (zT s n u k).a ∧ zB (zV s n u) n k = false ∧ u.a ≤ (zT s n u k).a ∧ (u.a ≤ s.size → (zT s n u k).a ≤ s.size) ∧ ∀ j, j < k → 0 < zV s n u j
  | 0, h => ⟨h, by simp [zW, zT, bs_nil], rfl, Nat.le_refl _, fun h => h, fun j hj => by omega⟩
  | k + 1, h => by
    obtain ⟨h1, h1b⟩ := tS_ok h (by decide)
    obtain ⟨a1, a2, a3, a4, a5⟩ := num_back h1
    obtain ⟨b0, b1, b2, b3, b4, b5⟩ := zT_back k a3
    have ea : (zT s n u (k + 1)).a = (nS s n (zT s n u k)).a := rfl
    refine ⟨b0, ?_, ?_, by rw [ea]; omega, fun _ => by rw [ea]; exact a5, fun j hj => ?_⟩
    · rw [zW, b1, ea]
      show _ ++ putL (nV s n (zT s n u k)) n = _
      rw [a1, bs_app s b3 a4]
    · rw [zB, b2]
      show (false || putB (nV s n (zT s n u k)) n) = false
      rw [a2]; rfl
    · by_cases hjk : j < k
      · exact b5 j hjk
      · obtain rfl : j = k := by omega
        exact of_decide_eq_true h1b
theorem zW_congr {f g : Nat → Int} {m : Nat} : ∀ (k : Nat), (∀ j, j < k → f j = g j) → zW f m k = zW g m k
  | 0, _ => rfl
  | k + 1, h => by rw [zW, zW, zW_congr k (fun j hj => h j (by omega)), h k (by omega)]
theorem zB_congr {f g : Nat → Int} {m : Nat} : ∀ (k : Nat), (∀ j, j < k → f j = g j) → zB f m k = zB g m k
  | 0, _ => rfl
  | k + 1, h => by rw [zB, zB, zB_congr k (fun j hj => h j (by omega)), h k (by omega)]
theorem qu1_back {s : ByteArray} {t : St} {l : List Qt} (h : (qu1 s (t, l)).1.e = 0) :
    t.e = 0 ∧ ∃ p, (qu1 s (t, l)).2 = l ++ [p] ∧ qtW p = bs s t.a (qu1 s (t, l)).1.a ∧ qtB p = false ∧ t.a + 1 ≤ (qu1 s (t, l)).1.a ∧ (qu1 s (t, l)).1.a ≤ s.size ∧ p.ok := by
  have hadv := qu1_adv h
  obtain ⟨v, hv⟩ : ∃ n, n = nV s 1 t := ⟨_, rfl⟩
  obtain ⟨t1, ht1⟩ : ∃ x, x = nS s 1 t := ⟨_, rfl⟩
  obtain ⟨u, hu⟩ : ∃ x, x = tS t1 (decide (v / 16 ≤ 1 ∧ v % 16 ≤ 3)) 5 := ⟨_, rfl⟩
  obtain ⟨n, hn⟩ : ∃ n, n = (1 + v / 16 % 2).toNat := ⟨_, rfl⟩
  have hR : qu1 s (t, l) = (zT s n u 64, l ++ [⟨v % 16, v / 16 == 1, fun j => zV s n u (inv j)⟩]) := by
    rw [qu1]; simp only [← hv, ← ht1, ← hu, ← hn]
  rw [hR] at h hadv ⊢
  dsimp only at h hadv ⊢
  obtain ⟨a0, a1, a2, a3, a4, a5⟩ := zT_back 64 h
  rw [hu] at a0
  obtain ⟨b0, b1⟩ := tS_ok a0 (by decide)
  have hvr : v / 16 ≤ 1 ∧ v % 16 ≤ 3 := of_decide_eq_true b1
  have k1 := num_back (s := s) (n := 1) (t := t) (ht1 ▸ b0)
  have kb := nV_bd s t
  rw [← ht1, ← hv] at k1
  rw [← hv] at kb
  obtain ⟨c1, c2, c3, c4, c5⟩ := k1
  have hvv := hv_back v kb.1 kb.2
  have ua : u.a = t1.a := by rw [hu]; rfl
  rw [ua] at a1 a3 a4
  have hsz : (szW ⟨v % 16, v / 16 == 1, fun j => zV s n u (inv j)⟩ : Nat) = n ∧ ((n : Int) - 1 = v / 16) := by
    unfold szW
    by_cases hw : v / 16 = 1
    · simp [hw]; omega
    · have h0 : v / 16 = 0 := by omega
      simp [h0]; omega
  refine ⟨c3, _, rfl, ?_, ?_, hadv, a4 c5, ?_⟩
  · unfold qtW
    rw [hsz.1, hsz.2]
    show hvL (v / 16) (v % 16) ++ zW (fun k => zV s n u (inv (ord k))) n 64 = _
    rw [zW_congr 64 (fun j hj => by rw [inv_ord j hj]), hvv.1, c1, a1, bs_app s c4 a3]
  · unfold qtB
    rw [hsz.1, hsz.2]
    show (hvB (v / 16) (v % 16) || zB (fun k => zV s n u (inv (ord k))) n 64) = false
    rw [zB_congr 64 (fun j hj => by rw [inv_ord j hj]), hvv.2, a2]; rfl
  · intro j hj
    have hb := nV_bd2 s n (zT s n u (inv j))
    have h2 : (256 : Int) ^ n ≤ 65536 := by
      have : n = 1 ∨ n = 2 := by omega
      rcases this with rfl | rfl <;> decide
    exact ⟨hb.1, Int.lt_of_lt_of_le hb.2 h2⟩
theorem quL_back {s : ByteArray} : ∀ (f : Nat) {t : St} {l : List Qt}, (quL s f (t, l)).1.e = 0 → (∀ p ∈ l, p.ok) →
    t.e = 0 ∧ ∃ m, (quL s f (t, l)).2 = l ++ m ∧ catW qtW m = bs s t.a (quL s f (t, l)).1.a ∧ m.any qtB = false ∧ t.a + m.length ≤ (quL s f (t, l)).1.a ∧ (t.a ≤ s.size → (quL s f (t, l)).1.a ≤ s.size) ∧ ∀ p ∈ l ++ m, p.ok
  | 0, t, l, h, hl => ⟨h, [], by simp [quL], by simp [catW, quL, bs_nil], rfl, Nat.le_refl _, fun h => h, by simpa using hl⟩
  | f + 1, t, l, h, hl => by
    by_cases hc : t.e = 0 ∧ (l = [] ∨ t.a < s.size)
    · have e : quL s (f + 1) (t, l) = quL s f (qu1 s (t, l)) := by rw [quL, if_pos hc]
      rw [e] at h ⊢
      have hee : quL s f (qu1 s (t, l)) = quL s f ((qu1 s (t, l)).1, (qu1 s (t, l)).2) := rfl
      have h0 : (qu1 s (t, l)).1.e = 0 := by
        by_cases hz : (qu1 s (t, l)).1.e = 0
        · exact hz
        · rw [hee, quL_no _ _ _ (fun hc => hz hc.1)] at h; exact h
      obtain ⟨_, p, g1, g2, g3, g4, g5, g6⟩ := qu1_back h0
      obtain ⟨h1, m, h2, h4, h5, h6, h7, h8⟩ := quL_back f (t := (qu1 s (t, l)).1) (l := (qu1 s (t, l)).2) h (by rw [g1]; intro x hx; rcases List.mem_append.1 hx with hx | hx; exact hl x hx; rw [List.mem_singleton] at hx; subst hx; exact g6)
      rw [hee]
      refine ⟨hc.1, p :: m, ?_, ?_, ?_, by simp; omega, fun _ => h7 g5, ?_⟩
      · rw [h2, g1]; simp
      · have : catW qtW (p :: m) = qtW p ++ catW qtW m := by simp [catW]
        rw [this, g2, h4, bs_app s (by omega) (by omega)]
      · simp [g3, h5]
      · rw [g1] at h8; simpa using h8
    · rw [quL_no _ _ _ hc] at h ⊢
      exact ⟨h, [], by simp, by simp [catW, bs_nil], rfl, by simp, fun h => h, by simpa using hl⟩
theorem cT_back {s : ByteArray} {u : St} : ∀ (k : Nat), (cT s u k).e = 0 → u.e = 0 ∧ zW (cV s u) 1 k = bs s u.a (cT s u k).a ∧ zB (cV s u) 1 k = false ∧ u.a ≤ (cT s u k).a ∧ (u.a ≤ s.size → (cT s u k).a ≤ s.size)
  | 0, h => ⟨h, by simp [zW, cT, bs_nil], rfl, Nat.le_refl _, fun h => h⟩
  | k + 1, h => by
    obtain ⟨a1, a2, a3, a4, a5⟩ := num_back (s := s) (n := 1) (t := cT s u k) h
    obtain ⟨b0, b1, b2, b3, b4⟩ := cT_back k a3
    have ea : (cT s u (k + 1)).a = (nS s 1 (cT s u k)).a := rfl
    refine ⟨b0, ?_, ?_, by rw [ea]; omega, fun _ => by rw [ea]; exact a5⟩
    · rw [zW, b1, ea]
      show _ ++ putL (nV s 1 (cT s u k)) 1 = _
      rw [a1, bs_app s b3 a4]
    · rw [zB, b2]
      show (false || putB (nV s 1 (cT s u k)) 1) = false
      rw [a2]; rfl
theorem cS_cSum (s : ByteArray) (u : St) (k : Nat) : cS (cV s u) k = cSum s u k := by
  induction k with
  | zero => rfl
  | succ k ih => rw [cS, cSum, ih]
theorem hu1_back {s : ByteArray} {t : St} {l : List Hf} (h : (hu1 s (t, l)).1.e = 0) :
    t.e = 0 ∧ ∃ p, (hu1 s (t, l)).2 = l ++ [p] ∧ hfW p = bs s t.a (hu1 s (t, l)).1.a ∧ hfB p = false ∧ t.a + 1 ≤ (hu1 s (t, l)).1.a ∧ (hu1 s (t, l)).1.a ≤ s.size ∧ (p.ok ∧ p.sym.size ≤ s.size) := by
  have hadv := hu1_adv h
  obtain ⟨v, hv⟩ : ∃ n, n = nV s 1 t := ⟨_, rfl⟩
  obtain ⟨t1, ht1⟩ : ∃ x, x = nS s 1 t := ⟨_, rfl⟩
  obtain ⟨u, hu⟩ : ∃ x, x = tS t1 (decide (v / 16 ≤ 1 ∧ v % 16 ≤ 3)) 5 := ⟨_, rfl⟩
  obtain ⟨n, hn⟩ : ∃ n, n = cSum s u 16 := ⟨_, rfl⟩
  obtain ⟨c, hc⟩ : ∃ x, x = cT s u 16 := ⟨_, rfl⟩
  obtain ⟨y, hy⟩ : ∃ x, x = xV s n c := ⟨_, rfl⟩
  have hR : hu1 s (t, l) = (tS (xS s n c) (hufNew (cV s u) y).isSome 5, l ++ [⟨v / 16, v % 16, cV s u, y⟩]) := by
    rw [hu1]; simp only [← hv, ← ht1, ← hu, ← hn, ← hc, ← hy]
  rw [hR] at h hadv ⊢
  dsimp only at h hadv ⊢
  have h1 := (tS_ok h (by decide)).1
  obtain ⟨d0, d1⟩ := xS_ok h1
  rw [hc] at d0
  obtain ⟨a0, a1, a2, a3, a4⟩ := cT_back 16 d0
  rw [← hc] at a1 a3 a4
  rw [hu] at a0
  obtain ⟨b0, b1⟩ := tS_ok a0 (by decide)
  have k1 := num_back (s := s) (n := 1) (t := t) (ht1 ▸ b0)
  have kb := nV_bd s t
  rw [← ht1, ← hv] at k1
  rw [← hv] at kb
  obtain ⟨c1, c2, c3, c4, c5⟩ := k1
  have hvv := hv_back v kb.1 kb.2
  have ua : u.a = t1.a := by rw [hu]; rfl
  rw [ua] at a1 a3 a4
  have hya : (xS s n c).a = c.a + n.toNat := by show txA s n c.a = _; rw [txA, if_pos d1]
  have hyv : y = s.extract c.a (c.a + n.toNat) := by rw [hy]; unfold xV txV; rw [if_pos d1]
  have hca := a4 c5
  have hys : (y.size : Int) = n := by rw [hyv, ByteArray.size_extract]; omega
  have ea : (tS (xS s n c) (hufNew (cV s u) y).isSome 5).a = c.a + n.toNat := hya
  rw [ea]
  refine ⟨c3, _, rfl, ?_, ?_, by omega, by omega, fun j hj => ?_, by show y.size ≤ s.size; omega⟩
  · show hvL (v / 16) (v % 16) ++ zW (cV s u) 1 16 ++ y.data.toList = _
    rw [hvv.1, c1, a1, hyv, bs_ext, bs_app s c4 a3, bs_app s (Nat.le_trans c4 a3) (by omega)]
  · show (hvB (v / 16) (v % 16) || zB (cV s u) 1 16 || (cS (cV s u) 16 != y.size)) = false
    rw [hvv.2, a2, cS_cSum, ← hn, hys]; simp
  · exact nV_bd s (cT s u j)
theorem huL_back {s : ByteArray} : ∀ (f : Nat) {t : St} {l : List Hf}, (huL s f (t, l)).1.e = 0 → (∀ p ∈ l, p.ok ∧ p.sym.size ≤ s.size) →
    t.e = 0 ∧ ∃ m, (huL s f (t, l)).2 = l ++ m ∧ catW hfW m = bs s t.a (huL s f (t, l)).1.a ∧ m.any hfB = false ∧ t.a + m.length ≤ (huL s f (t, l)).1.a ∧ (t.a ≤ s.size → (huL s f (t, l)).1.a ≤ s.size) ∧ ∀ p ∈ l ++ m, p.ok ∧ p.sym.size ≤ s.size
  | 0, t, l, h, hl => ⟨h, [], by simp [huL], by simp [catW, huL, bs_nil], rfl, Nat.le_refl _, fun h => h, by simpa using hl⟩
  | f + 1, t, l, h, hl => by
    by_cases hc : t.e = 0 ∧ (l = [] ∨ t.a < s.size)
    · have e : huL s (f + 1) (t, l) = huL s f (hu1 s (t, l)) := by rw [huL, if_pos hc]
      rw [e] at h ⊢
      have hee : huL s f (hu1 s (t, l)) = huL s f ((hu1 s (t, l)).1, (hu1 s (t, l)).2) := rfl
      have h0 : (hu1 s (t, l)).1.e = 0 := by
        by_cases hz : (hu1 s (t, l)).1.e = 0
        · exact hz
        · rw [hee, huL_no _ _ _ (fun hc => hz hc.1)] at h; exact h
      obtain ⟨_, p, g1, g2, g3, g4, g5, g6⟩ := hu1_back h0
      obtain ⟨h1, m, h2, h4, h5, h6, h7, h8⟩ := huL_back f (t := (hu1 s (t, l)).1) (l := (hu1 s (t, l)).2) h (by rw [g1]; intro x hx; rcases List.mem_append.1 hx with hx | hx; exact hl x hx; rw [List.mem_singleton] at hx; subst hx; exact g6)
      rw [hee]
      refine ⟨hc.1, p :: m, ?_, ?_, ?_, by simp; omega, fun _ => h7 g5, ?_⟩
      · rw [h2, g1]; simp
      · have : catW hfW (p :: m) = hfW p ++ catW hfW m := by simp [catW]
        rw [this, g2, h4, bs_app s (by omega) (by omega)]
      · simp [g3, h5]
      · rw [g1] at h8; simpa using h8
    · rw [huL_no _ _ _ hc] at h ⊢
      exact ⟨h, [], by simp, by simp [catW, bs_nil], rfl, by simp, fun h => h, by simpa using hl⟩
/-- What is read is written back, byte for byte. -/
theorem parse_back {c : Int} {s : ByteArray} (h : prE c s = 0) : sgC (prG c s) = c ∧ sgW (prG c s) = s.data.toList ∧ sgB (prG c s) = false ∧ (prG c s).ok ∧ byE (prG c s) = 0 := by
  obtain ⟨hm, hsz⟩ := prE_may h
  have hz := mayC_zero hm
  have he : (tS (prS c s).1 (decide ((prS c s).1.a = s.size)) 4).e = 0 := by
    unfold prE at h
    rwa [if_neg (by simpa using hm), if_neg (by omega)] at h
  obtain ⟨h0, h1⟩ := tS_ok he (by decide)
  have h1 : (prS c s).1.a = s.size := of_decide_eq_true h1
  have H : sgC (prG c s) = c ∧ sgW (prG c s) = s.data.toList ∧ sgB (prG c s) = false ∧ (prG c s).ok := by
    unfold prG
    rw [← bs_all, ← h1]
    rcases hz with hz | rfl | rfl | rfl | rfl | hz | rfl
    · have e : prS c s = ((frR s st0).t, .frame c (frR s st0).h (frR s st0).w (frR s st0).l) := by unfold prS; rw [if_neg (by omega), if_neg (by omega), if_neg (by omega), if_neg (by omega), if_pos (by omega)]
      rw [e] at h0 h1 ⊢
      obtain ⟨a1, a2, a3, a4, a5, _⟩ := frame_back h0
      refine ⟨rfl, a1, ?_, ?_⟩
      · show (decide (194 < c) || frB _ _ _) = false
        rw [a2]; simp; omega
      · show List.length _ ≤ 1000000
        omega
    · have e : prS 196 s = ((huR s st0).1, .huffs (huR s st0).2) := rfl
      rw [e] at h0 h1 ⊢
      obtain ⟨_, m, a1, a2, a3, a4, a5, a6⟩ := huL_back (s.size + 1) (s := s) (t := st0) (l := []) h0 (by simp)
      rw [List.nil_append] at a1
      have a1' : (huR s st0).2 = m := a1
      refine ⟨rfl, ?_, ?_, ?_, ?_⟩
      · show catW hfW (huR s st0).2 = _
        rw [a1']; exact a2
      · show List.any (huR s st0).2 hfB = false
        rw [a1']; exact a3
      · show ∀ p ∈ (huR s st0).2, _
        rw [a1']; intro p hp; have := a6 p (by simpa using hp); exact ⟨this.1, by omega⟩
      · show List.length (huR s st0).2 ≤ _
        rw [a1']
        have h5 := a5 (Nat.zero_le _)
        have e0 : st0.a = 0 := rfl
        omega
    · have e : prS 218 s = ((scR s st0).t, .scan (scR s st0).l (scR s st0).a (scR s st0).b (scR s st0).hi (scR s st0).lo) := rfl
      rw [e] at h0 h1 ⊢
      obtain ⟨a1, a2, a3, a4⟩ := scan_back h0
      exact ⟨rfl, a1, a2, by show List.length _ ≤ 1000000; omega⟩
    · have e : prS 219 s = ((quR s st0).1, .quants (quR s st0).2) := rfl
      rw [e] at h0 h1 ⊢
      obtain ⟨_, m, a1, a2, a3, a4, a5, a6⟩ := quL_back (s.size + 1) (s := s) (t := st0) (l := []) h0 (by simp)
      rw [List.nil_append] at a1
      have a1' : (quR s st0).2 = m := a1
      refine ⟨rfl, ?_, ?_, ?_, ?_⟩
      · show catW qtW (quR s st0).2 = _
        rw [a1']; exact a2
      · show List.any (quR s st0).2 qtB = false
        rw [a1']; exact a3
      · show ∀ p ∈ (quR s st0).2, _
        rw [a1']; intro p hp; exact a6 p (by simpa using hp)
      · show List.length (quR s st0).2 ≤ _
        rw [a1']
        have h5 := a5 (Nat.zero_le _)
        have e0 : st0.a = 0 := rfl
        omega
    · have e : prS 221 s = (nS s 2 st0, .rst (nV s 2 st0)) := rfl
      rw [e] at h0 h1 ⊢
      obtain ⟨a1, a2, _⟩ := num_back h0
      exact ⟨rfl, a1, a2, trivial⟩
    · have e : prS c s = (⟨s.size, 0⟩, .plain c s) := by unfold prS; rw [if_neg (by omega), if_neg (by omega), if_neg (by omega), if_neg (by omega), if_neg (by omega)]
      rw [e]
      exact ⟨rfl, (bs_all s).symm, by show decide (c < 224) = false; simp; omega, by show s.size ≤ 1000000000000; omega⟩
    · exact ⟨rfl, (bs_all s).symm, rfl, by show s.size ≤ 1000000000000; omega⟩
  refine ⟨H.1, H.2.1, H.2.2.1, H.2.2.2, ?_⟩
  rw [byE, H.2.2.1, H.2.1, H.1, if_neg (by simp), if_pos (by simpa using h)]
end Go.Proofs.YthibnhgbgmpjoaaDoor
namespace Go.Proofs.YthibnhgbgmpjoaaDoor
open Go.RowKit
set_option linter.unusedSimpArgs false
set_option linter.unusedVariables false
theorem numL_byZ (m : Nat) : ∀ n : Int, 0 ≤ n → n < 256 ^ m → numL (byL n m) = n := by
  induction m with
  | zero => intro n h0 h1; simp at h1; have : n = 0 := by omega
            subst this; rfl
  | succ m ih =>
    intro n h0 h1
    rw [byL, numL_snoc, ih (n / 256) (by omega) (by rw [Int.pow_succ] at h1; omega)]
    have : ((UInt8.ofNat (n % 256).toNat).toNat : Int) = n % 256 := by
      have h2 : (UInt8.ofNat (n % 256).toNat).toNat = (n % 256).toNat := by simp; omega
      rw [h2]; omega
    rw [this]; omega
theorem putB_no {n : Int} {m : Nat} (h : putB n m = false) : 0 ≤ n ∧ n < 256 ^ m := by
  have := of_decide_eq_false h
  exact Decidable.not_not.1 this
theorem putL_ok {n : Int} {m : Nat} (h : putB n m = false) : putL n m = byL n m := if_pos (putB_no h)
theorem putL_app {n n' : Int} {m : Nat} {r r' : List UInt8} (h1 : putB n m = false) (h2 : putB n' m = false) (h : putL n m ++ r = putL n' m ++ r') : n = n' ∧ r = r' := by
  rw [putL_ok h1, putL_ok h2] at h
  obtain ⟨h3, h4⟩ := List.append_inj h (by rw [byL_length, byL_length])
  refine ⟨?_, h4⟩
  rw [← numL_byZ m n (putB_no h1).1 (putB_no h1).2, ← numL_byZ m n' (putB_no h2).1 (putB_no h2).2, h3]
theorem hvB_no {a b : Int} (h : hvB a b = false) : 0 ≤ a ∧ a ≤ 15 ∧ 0 ≤ b ∧ b ≤ 15 := by
  have := of_decide_eq_false h
  omega
theorem hvL_app {a b a' b' : Int} {r r' : List UInt8} (h1 : hvB a b = false) (h2 : hvB a' b' = false) (h : hvL a b ++ r = hvL a' b' ++ r') : a = a' ∧ b = b' ∧ r = r' := by
  obtain ⟨h3, h4⟩ := putL_app (hv_putB a b) (hv_putB a' b') h
  have := hvB_no h1; have := hvB_no h2
  exact ⟨by omega, by omega, h4⟩
theorem zW_app {f g : Nat → Int} {m : Nat} : ∀ (k : Nat) {r r' : List UInt8}, zB f m k = false → zB g m k = false → zW f m k ++ r = zW g m k ++ r' → (∀ j, j < k → f j = g j) ∧ r = r'
  | 0, r, r', _, _, h => ⟨fun j hj => by omega, by simpa [zW] using h⟩
  | k + 1, r, r', h1, h2, h => by
    simp only [zB, Bool.or_eq_false_iff] at h1 h2
    simp only [zW, List.append_assoc] at h
    obtain ⟨h3, h4⟩ := zW_app k h1.1 h2.1 h
    obtain ⟨h5, h6⟩ := putL_app h1.2 h2.2 h4
    exact ⟨fun j hj => by rcases Nat.lt_or_ge j k with hj | hj; exact h3 j hj; rw [show j = k by omega]; exact h5, h6⟩
/-- What is written of one tells it, whatever stands behind. -/
structure Uniq {α : Type} (f : α → List UInt8) (b : α → Bool) (c : α → List Value) : Prop where
  ne : ∀ p, b p = false → f p ≠ []
  app : ∀ p p' r r', b p = false → b p' = false → f p ++ r = f p' ++ r' → c p = c p' ∧ r = r'
theorem catW_uniq {α : Type} {f : α → List UInt8} {b : α → Bool} {c : α → List Value} (h : Uniq f b c) : ∀ (l l' : List α), l.any b = false → l'.any b = false → catW f l = catW f l' → l.map c = l'.map c
  | [], [], _, _, _ => rfl
  | [], x :: l', _, h2, h3 => by
    simp only [List.any_cons, Bool.or_eq_false_iff] at h2
    have : f x ++ catW f l' = [] := by simpa [catW] using h3.symm
    exact absurd (List.append_eq_nil_iff.1 this).1 (h.ne x h2.1)
  | x :: l, [], h1, _, h3 => by
    simp only [List.any_cons, Bool.or_eq_false_iff] at h1
    have : f x ++ catW f l = [] := by simpa [catW] using h3
    exact absurd (List.append_eq_nil_iff.1 this).1 (h.ne x h1.1)
  | x :: l, y :: l', h1, h2, h3 => by
    simp only [List.any_cons, Bool.or_eq_false_iff] at h1 h2
    have e : f x ++ catW f l = f y ++ catW f l' := by simpa [catW] using h3
    obtain ⟨h4, h5⟩ := h.app x y _ _ h1.1 h2.1 e
    rw [List.map_cons, List.map_cons, h4, catW_uniq h l l' h1.2 h2.2 h5]
theorem hvL_ne (a b : Int) : hvL a b ≠ [] := by
  intro h
  have h2 : hvL a b = byL (a % 16 * 16 + b % 16) 1 := putL_ok (hv_putB a b)
  rw [h2] at h
  have := congrArg List.length h
  rw [byL_length] at this
  cases this
theorem arrN_congr' (K : IntKind) {n : Nat} {u v : Nat → Int} (h : ∀ j, j < n → u j = v j) : (arrN K n u).toList = (arrN K n v).toList := by rw [arrN_congr K h]
theorem qt_uniq : Uniq qtW qtB Qt.cells where
  ne := fun p _ h => by rw [qtW] at h; exact hvL_ne _ _ (List.append_eq_nil_iff.1 h).1
  app := fun p p' r r' h1 h2 h => by
    simp only [qtB, Bool.or_eq_false_iff] at h1 h2
    rw [qtW, qtW, List.append_assoc, List.append_assoc] at h
    obtain ⟨e1, e2, e3⟩ := hvL_app h1.1 h2.1 h
    have hw : p.wide = p'.wide := by
      unfold szW at e1
      cases hp : p.wide <;> cases hp' : p'.wide <;> simp [hp, hp'] at e1 ⊢
    have hs : szW p = szW p' := by unfold szW; rw [hw]
    rw [hs] at e3 h1
    obtain ⟨e4, e5⟩ := zW_app 64 h1.2 h2.2 e3
    refine ⟨?_, e5⟩
    have e6 : ∀ j, j < 64 → p.q j = p'.q j := fun j hj => by
      have hi : inv j < 64 := (by decide +kernel : ∀ k < 64, inv k < 64) j hj
      have := e4 (inv j) hi
      rwa [ord_inv j hj] at this
    rw [Qt.cells, Qt.cells, e2, hw, arrN_congr' .u16 e6]
theorem cS_congr {f g : Nat → Int} : ∀ (k : Nat), (∀ j, j < k → f j = g j) → cS f k = cS g k
  | 0, _ => rfl
  | k + 1, h => by rw [cS, cS, cS_congr k (fun j hj => h j (by omega)), h k (by omega)]
theorem hf_uniq : Uniq hfW hfB Hf.cells where
  ne := fun p _ h => by rw [hfW, List.append_assoc] at h; exact hvL_ne _ _ (List.append_eq_nil_iff.1 h).1
  app := fun p p' r r' h1 h2 h => by
    simp only [hfB, Bool.or_eq_false_iff, bne_eq_false_iff_eq] at h1 h2
    rw [hfW, hfW, List.append_assoc, List.append_assoc, List.append_assoc, List.append_assoc] at h
    obtain ⟨e1, e2, e3⟩ := hvL_app h1.1.1 h2.1.1 h
    obtain ⟨e4, e5⟩ := zW_app 16 h1.1.2 h2.1.2 e3
    have hs : p.sym.size = p'.sym.size := by have a := h1.2; have b := h2.2; rw [cS_congr 16 e4] at a; omega
    obtain ⟨e6, e7⟩ := List.append_inj e5 (by rw [Array.length_toList, Array.length_toList]; exact hs)
    have e8 : p.sym = p'.sym := ByteArray.ext (Array.toList_inj.1 e6)
    exact ⟨by rw [Hf.cells, Hf.cells, e1, e2, e8, arrN_congr' .u8 e4], e7⟩
theorem pt_uniq : Uniq ptW ptB Pt.cells where
  ne := fun p _ h => by rw [ptW, List.append_assoc] at h; exact hvL_ne _ _ (List.append_eq_nil_iff.1 (List.append_eq_nil_iff.1 h).2).1
  app := fun p p' r r' h1 h2 h => by
    simp only [ptB, Bool.or_eq_false_iff] at h1 h2
    rw [ptW, ptW, List.append_assoc, List.append_assoc, List.append_assoc, List.append_assoc] at h
    obtain ⟨e1, e2⟩ := putL_app h1.1.1 h2.1.1 h
    obtain ⟨e3, e4, e5⟩ := hvL_app h1.1.2 h2.1.2 e2
    obtain ⟨e6, e7⟩ := putL_app h1.2 h2.2 e5
    exact ⟨by rw [Pt.cells, Pt.cells, e1, e3, e4, e6], e7⟩
theorem pt_inj {l l' : List Pt} (h : l.map Pt.cells = l'.map Pt.cells) : l = l' := by
  have hi : ∀ p q : Pt, p.cells = q.cells → p = q := fun p q e => by
    cases p; cases q
    simp only [Pt.cells, List.cons.injEq, Value.int.injEq, true_and, and_true] at e
    obtain ⟨e1, e2, e3, e4⟩ := e
    subst e1 e2 e3 e4
    rfl
  induction l generalizing l' with
  | nil => cases l' with
    | nil => rfl
    | cons _ _ => simp at h
  | cons x l ih => cases l' with
    | nil => simp at h
    | cons y l' =>
      simp only [List.map_cons, List.cons.injEq] at h
      rw [hi x y h.1, ih h.2]
theorem frame_uniq {h w h' w' : Int} {l l' : List Pt} (h1 : frB h w l = false) (h2 : frB h' w' l' = false) (he : frW h w l = frW h' w' l') : h = h' ∧ w = w' ∧ l = l' := by
  simp only [frB, Bool.or_eq_false_iff] at h1 h2
  simp only [frW, List.append_assoc] at he
  obtain ⟨_, e2⟩ := putL_app (by decide) (by decide) he
  obtain ⟨e3, e4⟩ := putL_app h1.1.1.1 h2.1.1.1 e2
  obtain ⟨e5, e6⟩ := putL_app h1.1.1.2 h2.1.1.2 e4
  obtain ⟨_, e8⟩ := putL_app h1.1.2 h2.1.2 e6
  exact ⟨e3, e5, pt_inj (catW_uniq pt_uniq l l' h1.2 h2.2 e8)⟩
/-! ### A frame that may be is read -/
theorem tS_tt (t : St) (x : Int) : tS t true x = t := by cases t; simp [tS, stp]
theorem nS_at {s : ByteArray} {pre post : List UInt8} {n : Int} {m a : Nat} (hs : s.data.toList = pre ++ (putL n m ++ post)) (ha : a = pre.length) (hb : putB n m = false) : nS s m ⟨a, 0⟩ = ⟨a + m, 0⟩ ∧ nV s m ⟨a, 0⟩ = n := by
  subst ha
  rw [putL_ok hb] at hs
  have hz : s.size = pre.length + (m + post.length) := by
    have := congrArg List.length hs
    rw [List.length_append, List.length_append, byL_length, Array.length_toList] at this
    exact this
  have hle : pre.length + m ≤ s.size := by omega
  have hE : nxE s m pre.length 0 = 0 := if_pos hle
  refine ⟨?_, ?_⟩
  · show St.mk (nxA s m pre.length) (nxE s m pre.length 0) = _
    rw [hE]; unfold nxA; rw [if_pos hle]
  · show nxV s m pre.length 0 = n
    unfold nxV
    rw [if_pos hE, bs_ext]
    have : bs s pre.length (pre.length + m) = byL n m := by
      unfold bs
      rw [hs, List.take_append, List.take_of_length_le (by omega), List.drop_left, Nat.add_sub_cancel_left, List.take_append, byL_length, Nat.sub_self, List.take_zero, List.append_nil, List.take_of_length_le (by rw [byL_length]; exact Nat.le_refl _)]
    rw [this, numL_byZ m n (putB_no hb).1 (putB_no hb).2]
theorem idT_all {x id : Int} {l : List Int} (t : St) (h : ∀ y ∈ l, y ≠ id) : idT x id l t = t := by
  induction l generalizing t with
  | nil => rfl
  | cons y l ih =>
    have e : idT x id (y :: l) t = idT x id l (tS t (y != id) x) := rfl
    rw [e, show (y != id) = true by simpa using h y (by simp), tS_tt]
    exact ih t (fun z hz => h z (by simp [hz]))
theorem pt1_fwd {s : ByteArray} {pre post : List UInt8} {a : Nat} {p : Pt} {l : List Pt} (hs : s.data.toList = pre ++ (ptW p ++ post)) (ha : a = pre.length) (hp : p.rng) (hn : ∀ x ∈ l, x.id ≠ p.id) : pt1 s (⟨a, 0⟩, l) = (⟨a + 3, 0⟩, l ++ [p]) := by
  obtain ⟨i0, i1, a0, a1, b0, b1, q0, q1⟩ := hp
  have B1 : putB p.id 1 = false := decide_eq_false (by simp; omega)
  have B2 : putB (p.h * 16 + p.v) 1 = false := decide_eq_false (by simp; omega)
  have B3 : putB p.q 1 = false := decide_eq_false (by simp; omega)
  have eh : hvL p.h p.v = putL (p.h * 16 + p.v) 1 := by unfold hvL; congr 1; omega
  rw [ptW, eh] at hs
  have l1 : (putL p.id 1).length = 1 := by rw [putL_ok B1, byL_length]
  have l2 : (putL (p.h * 16 + p.v) 1).length = 1 := by rw [putL_ok B2, byL_length]
  obtain ⟨g1, g2⟩ := nS_at (s := s) (pre := pre) (post := putL (p.h * 16 + p.v) 1 ++ (putL p.q 1 ++ post)) (n := p.id) (m := 1) (by rw [hs]; simp only [List.append_assoc]) ha B1
  obtain ⟨g3, g4⟩ := nS_at (s := s) (pre := pre ++ putL p.id 1) (post := putL p.q 1 ++ post) (n := p.h * 16 + p.v) (m := 1) (a := a + 1) (by rw [hs]; simp only [List.append_assoc]) (by rw [List.length_append, l1, ha]) B2
  obtain ⟨g5, g6⟩ := nS_at (s := s) (pre := pre ++ putL p.id 1 ++ putL (p.h * 16 + p.v) 1) (post := post) (n := p.q) (m := 1) (a := a + 1 + 1) (by rw [hs]; simp only [List.append_assoc]) (by rw [List.length_append, List.length_append, l1, l2, ha]) B3
  have d1 : (p.h * 16 + p.v) / 16 = p.h := by omega
  have d2 : (p.h * 16 + p.v) % 16 = p.v := by omega
  have c1 : decide (1 ≤ p.h ∧ p.h ≤ 4 ∧ 1 ≤ p.v ∧ p.v ≤ 4) = true := decide_eq_true (by omega)
  have c2 : decide (p.q ≤ 3) = true := decide_eq_true q1
  rw [pt1]
  simp only [g1, g2, g3, g4, d1, d2, c1, tS_tt, g5, g6, c2]
  rw [idT_all _ (fun y hy => by obtain ⟨x, hx, rfl⟩ := List.mem_map.1 hy; exact hn x hx)]
theorem ptL_fwd {s : ByteArray} : ∀ (l2 l1 : List Pt) {pre post : List UInt8} {a : Nat}, s.data.toList = pre ++ (catW ptW l2 ++ post) → a = pre.length → ptsOk (l1 ++ l2) → ptL s l2.length (⟨a, 0⟩, l1) = (⟨a + 3 * l2.length, 0⟩, l1 ++ l2)
  | [], l1, pre, post, a, _, _, _ => by simp [ptL]
  | p :: l2, l1, pre, post, a, hs, ha, hok => by
    have hp : p.rng := hok.1 p (by simp)
    have hn : ∀ x ∈ l1, x.id ≠ p.id := fun x hx => (List.pairwise_append.1 hok.2).2.2 x hx p (by simp)
    have e : catW ptW (p :: l2) = ptW p ++ catW ptW l2 := by simp [catW]
    rw [e, List.append_assoc] at hs
    have h1 := pt1_fwd (l := l1) hs ha hp hn
    have hl : (ptW p).length = 3 := by
      obtain ⟨i0, i1, a0, a1, b0, b1, q0, q1⟩ := hp
      have B1 : putB p.id 1 = false := decide_eq_false (by simp; omega)
      have B3 : putB p.q 1 = false := decide_eq_false (by simp; omega)
      rw [ptW, List.length_append, List.length_append, putL_ok B1, putL_ok B3, hvL, putL_ok (hv_putB p.h p.v), byL_length, byL_length, byL_length]
    have h2 := ptL_fwd (s := s) l2 (l1 ++ [p]) (pre := pre ++ ptW p) (post := post) (a := a + 3) (by rw [hs]; simp only [List.append_assoc]) (by rw [List.length_append, hl, ha]) (by simpa using hok)
    rw [List.length_cons, ptL, if_pos rfl, h1, h2]
    simp only [List.append_assoc, List.singleton_append, Prod.mk.injEq, St.mk.injEq, and_true]
    omega
def frOk (c h w : Int) (l : List Pt) : Prop := 192 ≤ c ∧ c ≤ 194 ∧ 1 ≤ h ∧ h ≤ 16384 ∧ 1 ≤ w ∧ w ≤ 16384 ∧ 1 ≤ l.length ∧ l.length ≤ 4 ∧ ptsOk l
theorem frOk_B {c h w : Int} {l : List Pt} (hok : frOk c h w l) : frB h w l = false := by
  obtain ⟨c0, c1, h0, h1, w0, w1, l0, l1, hp⟩ := hok
  simp only [frB, Bool.or_eq_false_iff]
  refine ⟨⟨⟨decide_eq_false (by simp; omega), decide_eq_false (by simp; omega)⟩, decide_eq_false (by simp; omega)⟩, ?_⟩
  rw [List.any_eq_false]
  intro p hpm
  obtain ⟨i0, i1, a0, a1, b0, b1, q0, q1⟩ := hp.1 p hpm
  simp only [ptB, Bool.or_eq_true, not_or, Bool.not_eq_true]
  exact ⟨⟨decide_eq_false (by simp; omega), decide_eq_false (by omega)⟩, decide_eq_false (by simp; omega)⟩
theorem frame_fwd {c h w : Int} {l : List Pt} (hok : frOk c h w l) : frR ⟨(frW h w l).toArray⟩ st0 = ⟨⟨(frW h w l).length, 0⟩, h, w, l⟩ := by
  have hB := frOk_B hok
  obtain ⟨c0, c1, h0, h1, w0, w1, l0, l1, hp⟩ := hok
  simp only [frB, Bool.or_eq_false_iff] at hB
  obtain ⟨⟨⟨B1, B2⟩, B3⟩, B4⟩ := hB
  obtain ⟨s, hs0⟩ : ∃ s : ByteArray, s = ⟨(frW h w l).toArray⟩ := ⟨_, rfl⟩
  rw [← hs0]
  have hs : s.data.toList = putL 8 1 ++ (putL h 2 ++ (putL w 2 ++ (putL (l.length : Int) 1 ++ (catW ptW l ++ [])))) := by rw [hs0, frW]; simp only [List.append_assoc, List.append_nil]
  have l8 : (putL 8 1).length = 1 := by rw [putL_ok (by decide), byL_length]
  have lh : (putL h 2).length = 2 := by rw [putL_ok B1, byL_length]
  have lw : (putL w 2).length = 2 := by rw [putL_ok B2, byL_length]
  have ll : (putL (l.length : Int) 1).length = 1 := by rw [putL_ok B3, byL_length]
  obtain ⟨a1, a2⟩ := nS_at (s := s) (pre := []) (n := 8) (m := 1) (a := 0) (by rw [List.nil_append]; exact hs) rfl (by decide)
  obtain ⟨a3, a4⟩ := nS_at (s := s) (pre := putL 8 1) (n := h) (m := 2) (a := 1) hs (by rw [l8]) B1
  obtain ⟨a5, a6⟩ := nS_at (s := s) (pre := putL 8 1 ++ putL h 2) (n := w) (m := 2) (a := 1 + 2) (by rw [hs, List.append_assoc]) (by rw [List.length_append, l8, lh]) B2
  obtain ⟨a7, a8⟩ := nS_at (s := s) (pre := putL 8 1 ++ putL h 2 ++ putL w 2) (post := catW ptW l ++ []) (n := l.length) (m := 1) (a := 1 + 2 + 2) (by rw [hs]; simp only [List.append_assoc]) (by rw [List.length_append, List.length_append, l8, lh, lw]) B3
  have a9 := ptL_fwd (s := s) l [] (pre := putL 8 1 ++ putL h 2 ++ putL w 2 ++ putL (l.length : Int) 1) (post := []) (a := 1 + 2 + 2 + 1) (by rw [hs]; simp only [List.append_assoc]) (by rw [List.length_append, List.length_append, List.length_append, l8, lh, lw, ll]) (by simpa using hp)
  have hlen : (frW h w l).length = 1 + 2 + 2 + 1 + 3 * l.length := by
    rw [frW, List.length_append, List.length_append, List.length_append, List.length_append, l8, lh, lw, ll]
    have : ∀ l : List Pt, (∀ p ∈ l, p.rng) → (catW ptW l).length = 3 * l.length := by
      intro l hl
      induction l with
      | nil => rfl
      | cons p l ih =>
        have e : catW ptW (p :: l) = ptW p ++ catW ptW l := by simp [catW]
        obtain ⟨i0, i1, _, _, _, _, q0, q1⟩ := hl p (by simp)
        have C1 : putB p.id 1 = false := decide_eq_false (by simp; omega)
        have C3 : putB p.q 1 = false := decide_eq_false (by simp; omega)
        rw [e, List.length_append, ih (fun q hq => hl q (by simp [hq])), ptW, List.length_append, List.length_append, putL_ok C1, putL_ok C3, hvL, putL_ok (hv_putB p.h p.v), byL_length, byL_length, byL_length, List.length_cons]
        omega
    rw [this l hp.1]
  have d1 : decide (0 < h ∧ 0 < w) = true := decide_eq_true (by omega)
  have d2 : decide (h ≤ 16384 ∧ w ≤ 16384) = true := decide_eq_true (by omega)
  have d3 : decide (0 < (l.length : Int)) = true := decide_eq_true (by omega)
  have d4 : decide ((l.length : Int) ≤ 4) = true := decide_eq_true (by omega)
  have e0 : st0 = ⟨0, 0⟩ := rfl
  rw [frR, e0]
  simp only [a1, a2, Nat.zero_add, show ((8 : Int) == 8) = true from rfl, tS_tt, a3, a4, a5, a6, d1, d2, a7, a8, d3, d4, Int.toNat_natCast, a9, hlen, List.nil_append]
theorem frame_prS {c : Int} (s : ByteArray) (h0 : 192 ≤ c) (h1 : c ≤ 194) : prS c s = ((frR s st0).t, .frame c (frR s st0).h (frR s st0).w (frR s st0).l) := by
  unfold prS; rw [if_neg (by omega), if_neg (by omega), if_neg (by omega), if_neg (by omega), if_pos h1]
theorem byE_zero {x : Sg} (h : byE x = 0) : sgB x = false ∧ prE (sgC x) ⟨(sgW x).toArray⟩ = 0 := by
  unfold byE at h
  split at h
  · cases h
  · rename_i hB
    split at h
    · rename_i hP; exact ⟨by simpa using hB, hP⟩
    · cases h
theorem byE_mk {x : Sg} (h1 : sgB x = false) (h2 : prE (sgC x) ⟨(sgW x).toArray⟩ = 0) : byE x = 0 := by
  unfold byE; rw [if_neg (by rw [h1]; decide), if_pos h2]
theorem frame_of {c h w : Int} {l : List Pt} (s : ByteArray) (hs : s.data.toList = frW h w l) (hB : frB h w l = false) (hc : c ≤ 194) (hP : prE c s = 0) : frOk c h w l := by
  have hm := mayC_zero (prE_may hP).1
  have hc : 192 ≤ c ∧ c ≤ 194 := by omega
  obtain ⟨b1, b2, b3, b4, b5⟩ := parse_back hP
  have hS := frame_prS s hc.1 hc.2
  have hP2 := hP
  unfold prE at hP2
  rw [if_neg (by simpa using (prE_may hP).1), if_neg (by have := (prE_may hP).2; omega), hS] at hP2
  have h0 := (tS_ok hP2 (by decide)).1
  obtain ⟨f1, f2, f3, f4, f5, f6, f7, f8, f9, f10⟩ := frame_back h0
  have hG : prG c s = .frame c (frR s st0).h (frR s st0).w (frR s st0).l := by unfold prG; rw [hS]
  rw [hG, hs] at b2
  obtain ⟨u1, u2, u3⟩ := frame_uniq f2 hB b2
  rw [← u1, ← u2, ← u3]
  exact ⟨hc.1, hc.2, f6, f7, f8, f9, f4, f5, f10⟩
theorem frame_to {c h w : Int} {l : List Pt} (s : ByteArray) (hs : s = ⟨(frW h w l).toArray⟩) (hok : frOk c h w l) : prE c s = 0 ∧ prG c s = .frame c h w l := by
  have hf := frame_fwd hok
  rw [← hs] at hf
  have hz : s.size = (frW h w l).length := by rw [hs]; rfl
  obtain ⟨c0, c1, h0, h1, w0, w1, l0, l1, hp⟩ := hok
  have hS := frame_prS s c0 c1
  have hlen : (frW h w l).length ≤ 1000 := by
    have := catW_len ptW 3 ptW_len l
    have a1 := putL_len 8 1; have a2 := putL_len h 2; have a3 := putL_len w 2; have a4 := putL_len (l.length : Int) 1
    simp only [frW, List.length_append]
    omega
  have hm : mayC c = 0 := by unfold mayC; (repeat' split) <;> omega
  refine ⟨?_, by unfold prG; rw [hS, hf]⟩
  unfold prE
  rw [if_neg (by simpa using hm), if_neg (by omega), hS, hf]
  show (tS ⟨(frW h w l).length, 0⟩ (decide ((frW h w l).length = s.size)) 4).e = 0
  rw [hz, decide_eq_true rfl, tS_tt]
theorem frame_right {c h w : Int} {l : List Pt} : byE (.frame c h w l) = 0 ↔ frOk c h w l := by
  constructor
  · intro hE
    obtain ⟨hB, hP⟩ := byE_zero hE
    have hB : (decide (194 < c) || frB h w l) = false := hB
    simp only [Bool.or_eq_false_iff, decide_eq_false_iff_not] at hB
    exact frame_of _ rfl hB.2 (by omega) hP
  · intro hok
    refine byE_mk ?_ (frame_to _ rfl hok).1
    show (decide (194 < c) || frB h w l) = false
    rw [frOk_B hok, decide_eq_false (by have := hok.2.1; omega)]; rfl
/-- What is written and may be is read as it was: of tables and restarts. -/
theorem quants_read {l : List Qt} (h : byE (.quants l) = 0) : ∃ l', prG 219 ⟨(catW qtW l).toArray⟩ = .quants l' ∧ l'.map Qt.cells = l.map Qt.cells := by
  obtain ⟨h1, h2⟩ := byE_zero h
  have h2 : prE 219 ⟨(catW qtW l).toArray⟩ = 0 := h2
  obtain ⟨b1, b2, b3, b4, b5⟩ := parse_back h2
  refine ⟨(quR ⟨(catW qtW l).toArray⟩ st0).2, rfl, ?_⟩
  have hG : prG 219 ⟨(catW qtW l).toArray⟩ = .quants (quR ⟨(catW qtW l).toArray⟩ st0).2 := rfl
  rw [hG] at b2 b3
  exact catW_uniq qt_uniq _ l b3 h1 b2
theorem huffs_read {l : List Hf} (h : byE (.huffs l) = 0) : ∃ l', prG 196 ⟨(catW hfW l).toArray⟩ = .huffs l' ∧ l'.map Hf.cells = l.map Hf.cells := by
  obtain ⟨h1, h2⟩ := byE_zero h
  have h2 : prE 196 ⟨(catW hfW l).toArray⟩ = 0 := h2
  obtain ⟨b1, b2, b3, b4, b5⟩ := parse_back h2
  refine ⟨(huR ⟨(catW hfW l).toArray⟩ st0).2, rfl, ?_⟩
  have hG : prG 196 ⟨(catW hfW l).toArray⟩ = .huffs (huR ⟨(catW hfW l).toArray⟩ st0).2 := rfl
  rw [hG] at b2 b3
  exact catW_uniq hf_uniq _ l b3 h1 b2
theorem rst_read {n : Int} (h : byE (.rst n) = 0) : prG 221 ⟨(putL n 2).toArray⟩ = .rst n := by
  obtain ⟨h1, h2⟩ := byE_zero h
  have h2 : prE 221 ⟨(putL n 2).toArray⟩ = 0 := h2
  obtain ⟨b1, b2, b3, b4, b5⟩ := parse_back h2
  have hG : prG 221 ⟨(putL n 2).toArray⟩ = .rst (nV ⟨(putL n 2).toArray⟩ 2 st0) := rfl
  rw [hG] at b2 b3 ⊢
  have h3 : putL (nV ⟨(putL n 2).toArray⟩ 2 st0) 2 ++ [] = putL n 2 ++ [] := by simpa [sgW] using b2
  rw [(putL_app b3 h1 h3).1]
theorem RdC_congr {α : Type} {c : α → List Value} {q : Nat} {w : World} {A : Option Addr} {l l' : List α} (h : RdC c q w A l) (he : l.map c = l'.map c) : RdC c q w A l' := fun i hi => by
  have hlen : l.length = l'.length := by have := congrArg List.length he; simpa using this
  obtain ⟨g, off, h1, h2, h3⟩ := h i (by omega)
  have e : c l[i] = c l'[i] := by
    have := congrArg (fun z => z[i]?) he
    simp only [List.getElem?_map] at this
    rw [List.getElem?_eq_getElem (by omega), List.getElem?_eq_getElem hi] at this
    simpa using this
  exact ⟨g, off, h1, h2, fun j hj => by rw [h3 j hj, e]⟩
end Go.Proofs.YthibnhgbgmpjoaaDoor

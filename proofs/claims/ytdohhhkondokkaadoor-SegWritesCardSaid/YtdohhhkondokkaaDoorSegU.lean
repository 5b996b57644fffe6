/- Plain law: what is read is written back. No program in sight. -/
import Derived.Test.YtdohhhkondokkaaDoorSegS
import Derived.Test.YtdohhhkondokkaaDoorCurE
namespace Go.Proofs.YtdohhhkondokkaaDoor
open Go.RowKit
set_option linter.unusedSimpArgs false
set_option linter.unusedVariables false
/-- The bytes from i to j. -/
def bs (s : ByteArray) (i j : Nat) : List UInt8 := (s.data.toList.take j).drop i
theorem bs_app (s : ByteArray) {i j k : Nat} (h1 : i ≤ j) (h2 : j ≤ k) : bs s i j ++ bs s j k = bs s i k := by
  unfold bs
  have e : s.data.toList.take j = (s.data.toList.take k).take j := by rw [List.take_take, Nat.min_eq_left h2]
  rw [e, List.drop_take]
  have e2 : (s.data.toList.take k).drop j = ((s.data.toList.take k).drop i).drop (j - i) := by rw [List.drop_drop]; congr 1; omega
  rw [e2, List.take_append_drop]
theorem bs_nil (s : ByteArray) (i : Nat) : bs s i i = [] := by unfold bs; rw [List.drop_eq_nil_iff, List.length_take]; omega
theorem bs_all (s : ByteArray) : bs s 0 s.size = s.data.toList := by unfold bs; rw [List.drop_zero, List.take_of_length_le (by rw [Array.length_toList]; exact Nat.le_refl _)]
theorem bs_ext (s : ByteArray) (i j : Nat) : (s.extract i j).data.toList = bs s i j := by
  unfold bs
  rw [ByteArray.data_extract, Array.toList_extract]
  simp [List.extract_eq_take_drop, List.drop_take]
theorem byL_numL (l : List UInt8) : byL (numL l) l.length = l := by
  have H : ∀ m (l : List UInt8), l.length = m → byL (numL l) m = l := by
    intro m
    induction m with
    | zero => intro l h; rw [List.length_eq_zero_iff.1 h]; rfl
    | succ m ih =>
      intro l h
      have hne : l ≠ [] := by intro e; rw [e] at h; simp at h
      obtain ⟨k, c, rfl⟩ : ∃ k c, l = k ++ [c] := ⟨l.dropLast, l.getLast hne, (List.dropLast_concat_getLast hne).symm⟩
      rw [numL_snoc, byL]
      have hc : c.toNat < 256 := c.toNat_lt
      have e1 : (numL k * 256 + (c.toNat : Int)) / 256 = numL k := by omega
      have e2 : ((numL k * 256 + (c.toNat : Int)) % 256).toNat = c.toNat := by omega
      rw [e1, e2, ih k (by simpa using h)]
      simp
  exact H _ l rfl
/-- A number that was read is written back. -/
theorem num_back {s : ByteArray} {n : Nat} {t : St} (h : (nS s n t).e = 0) : putL (nV s n t) n = bs s t.a (nS s n t).a ∧ putB (nV s n t) n = false ∧ t.e = 0 ∧ t.a ≤ (nS s n t).a ∧ (nS s n t).a ≤ s.size := by
  obtain ⟨h0, h1, h2⟩ := nS_ok h
  have hV : nV s n t = numL (bs s t.a (t.a + n)) := by
    have h' : nxE s n t.a t.e = 0 := h
    unfold nV nxV
    rw [if_pos h', bs_ext]
  have hl : (bs s t.a (t.a + n)).length = n := by unfold bs; rw [List.length_drop, List.length_take, Array.length_toList]; show min (t.a + n) s.size - t.a = n; omega
  have hb := nV_bd2 s n t
  refine ⟨?_, ?_, h0, by omega, by omega⟩
  · unfold putL
    rw [if_pos hb, hV, h2]
    have := byL_numL (bs s t.a (t.a + n))
    rwa [hl] at this
  · unfold putB
    exact decide_eq_false (fun hc => hc hb)
theorem hv_back (v : Int) (h0 : 0 ≤ v) (h1 : v < 256) : hvL (v / 16) (v % 16) = putL v 1 ∧ hvB (v / 16) (v % 16) = false := by
  unfold hvL hvB
  refine ⟨by congr 1; omega, by simp; omega⟩
theorem idT_ok {x id : Int} {l : List Int} {t : St} (h : (idT x id l t).e = 0) (hx : x ≠ 0) : t.e = 0 ∧ (idT x id l t).a = t.a ∧ ∀ y ∈ l, y ≠ id := by
  induction l generalizing t with
  | nil => exact ⟨h, rfl, by simp⟩
  | cons y l ih =>
    have e : idT x id (y :: l) t = idT x id l (tS t (y != id) x) := rfl
    rw [e] at h ⊢
    obtain ⟨h1, h2, h3⟩ := ih h
    obtain ⟨h4, h5⟩ := tS_ok h1 hx
    refine ⟨h4, h2, fun z hz => ?_⟩
    rcases List.mem_cons.1 hz with rfl | hz
    · simpa using h5
    · exact h3 z hz
theorem pk1_back {s : ByteArray} {t : St} {l : List Pk} (h : (pk1 s (t, l)).1.e = 0) :
    t.e = 0 ∧ ∃ p, (pk1 s (t, l)).2 = l ++ [p] ∧ pkW p = bs s t.a (pk1 s (t, l)).1.a ∧ pkB p = false ∧ t.a ≤ (pk1 s (t, l)).1.a ∧ (pk1 s (t, l)).1.a ≤ s.size := by
  have h1 := (tS_ok h (by decide)).1
  obtain ⟨e1, e2, e3, e4, e5⟩ := num_back h1
  obtain ⟨f1, f2, f3⟩ := idT_ok e3 (by decide)
  obtain ⟨g1, g2, g3, g4, g5⟩ := num_back f1
  refine ⟨g3, _, rfl, ?_, ?_, ?_, ?_⟩
  · unfold pkW
    have hb := nV_bd s (idT 8 (nV s 1 t) (l.map Pk.id) (nS s 1 t))
    have h2 := (hv_back _ hb.1 hb.2).1
    show putL (nV s 1 t) 1 ++ hvL _ _ = bs s t.a (nS s 1 (idT 8 (nV s 1 t) (l.map Pk.id) (nS s 1 t))).a
    rw [h2, g1, e1, f2, bs_app s g4 (by rw [← f2]; exact e4)]
  · have hb := nV_bd s (idT 8 (nV s 1 t) (l.map Pk.id) (nS s 1 t))
    have h2 := (hv_back _ hb.1 hb.2).2
    unfold pkB
    show (putB (nV s 1 t) 1 || hvB _ _) = false
    rw [h2, g2]; rfl
  · show t.a ≤ (nS s 1 (idT 8 (nV s 1 t) (l.map Pk.id) (nS s 1 t))).a
    exact Nat.le_trans g4 (f2 ▸ e4)
  · exact e5
theorem pkL_back {s : ByteArray} : ∀ (k : Nat) {t : St} {l : List Pk}, (pkL s k (t, l)).1.e = 0 →
    t.e = 0 ∧ ∃ m, (pkL s k (t, l)).2 = l ++ m ∧ m.length = k ∧ catW pkW m = bs s t.a (pkL s k (t, l)).1.a ∧ m.any pkB = false ∧ t.a ≤ (pkL s k (t, l)).1.a ∧ (t.a ≤ s.size → (pkL s k (t, l)).1.a ≤ s.size)
  | 0, t, l, h => ⟨h, [], by simp [pkL], rfl, by simp [catW, pkL, bs_nil], rfl, Nat.le_refl _, fun h => h⟩
  | k + 1, t, l, h => by
    by_cases he : t.e = 0
    · have e : pkL s (k + 1) (t, l) = pkL s k (pk1 s (t, l)) := by rw [pkL, if_pos he]
      rw [e] at h ⊢
      obtain ⟨h1, m, h2, h3, h4, h5, h6, h7⟩ := pkL_back k (t := (pk1 s (t, l)).1) (l := (pk1 s (t, l)).2) h
      obtain ⟨_, p, g1, g2, g3, g4, g5⟩ := pk1_back h1
      have hee : pkL s k (pk1 s (t, l)) = pkL s k ((pk1 s (t, l)).1, (pk1 s (t, l)).2) := rfl
      rw [hee]
      refine ⟨he, p :: m, ?_, by simp [h3], ?_, ?_, by omega, fun _ => h7 g5⟩
      · rw [h2, g1]; simp
      · have : catW pkW (p :: m) = pkW p ++ catW pkW m := by simp [catW]
        rw [this, g2, h4, bs_app s g4 h6]
      · simp [g3, h5]
    · rw [pkL_bad _ _ _ he] at h
      exact absurd h he
theorem nS_st0 (s : ByteArray) : st0.a = 0 := rfl
theorem scan_back {s : ByteArray} (h : (scR s st0).t.e = 0) :
    scW (scR s st0).l (scR s st0).a (scR s st0).b (scR s st0).hi (scR s st0).lo = bs s 0 (scR s st0).t.a ∧ scB (scR s st0).l (scR s st0).a (scR s st0).b (scR s st0).hi (scR s st0).lo = false ∧ (scR s st0).l.length ≤ 4 ∧ (scR s st0).t.a ≤ s.size := by
  obtain ⟨n, hn⟩ : ∃ n, n = nV s 1 st0 := ⟨_, rfl⟩
  obtain ⟨t1, ht1⟩ : ∃ t, t = nS s 1 st0 := ⟨_, rfl⟩
  obtain ⟨t2, ht2⟩ : ∃ t, t = tS t1 (decide (1 ≤ n ∧ n ≤ 4)) 8 := ⟨_, rfl⟩
  obtain ⟨t3, l3, hp⟩ : ∃ t l, (t, l) = pkL s n.toNat (t2, []) := ⟨_, _, rfl⟩
  obtain ⟨a, ha⟩ : ∃ n, n = nV s 1 t3 := ⟨_, rfl⟩
  obtain ⟨t4, ht4⟩ : ∃ t, t = nS s 1 t3 := ⟨_, rfl⟩
  obtain ⟨b, hb⟩ : ∃ n, n = nV s 1 t4 := ⟨_, rfl⟩
  obtain ⟨t5, ht5⟩ : ∃ t, t = nS s 1 t4 := ⟨_, rfl⟩
  obtain ⟨v, hv⟩ : ∃ n, n = nV s 1 t5 := ⟨_, rfl⟩
  obtain ⟨t6, ht6⟩ : ∃ t, t = nS s 1 t5 := ⟨_, rfl⟩
  have hR : scR s st0 = ⟨tS t6 (decide (a ≤ b ∧ b ≤ 63 ∧ v / 16 ≤ 13 ∧ v % 16 ≤ 13)) 8, l3, a, b, v / 16, v % 16⟩ := by
    rw [scR]
    simp only [← hn, ← ht1, ← ht2, ← hp, ← ha, ← ht4, ← hb, ← ht5, ← hv, ← ht6]
  rw [hR] at h ⊢
  dsimp only at h ⊢
  have ea : (tS t6 (decide (a ≤ b ∧ b ≤ 63 ∧ v / 16 ≤ 13 ∧ v % 16 ≤ 13)) 8).a = t6.a := rfl
  rw [ea]
  have h1 := (tS_ok h (by decide)).1
  have k1 := num_back (s := s) (n := 1) (t := t5) (ht6 ▸ h1)
  rw [← ht6, ← hv] at k1
  obtain ⟨a1, a2, a3, a4, a5⟩ := k1
  have hvb := nV_bd s t5
  rw [← hv] at hvb
  have k2 := num_back (s := s) (n := 1) (t := t4) (ht5 ▸ a3)
  rw [← ht5, ← hb] at k2
  obtain ⟨b1, b2, b3, b4, b5⟩ := k2
  have k3 := num_back (s := s) (n := 1) (t := t3) (ht4 ▸ b3)
  rw [← ht4, ← ha] at k3
  obtain ⟨c1, c2, c3, c4, c5⟩ := k3
  have hp1 : (pkL s n.toNat (t2, [])).1 = t3 := by rw [← hp]
  have hp2 : (pkL s n.toNat (t2, [])).2 = l3 := by rw [← hp]
  obtain ⟨d0, m, d1, d2, d3, d4, d5, d6⟩ := pkL_back n.toNat (s := s) (t := t2) (l := []) (by rw [hp1]; exact c3)
  rw [hp1] at d3 d5 d6
  rw [hp2, List.nil_append] at d1
  subst d1
  rw [ht2] at d0
  obtain ⟨e0, e0b⟩ := tS_ok d0 (by decide)
  have hnb : 1 ≤ n ∧ n ≤ 4 := of_decide_eq_true e0b
  have k4 := num_back (s := s) (n := 1) (t := st0) (ht1 ▸ e0)
  rw [← hn, ← ht1] at k4
  obtain ⟨f1, f2, f3, f4, f5⟩ := k4
  have t2a : t2.a = t1.a := by rw [ht2]; rfl
  rw [t2a] at d3 d5
  have hml : (l3.length : Int) = n := by rw [d2]; omega
  have hvv := hv_back v hvb.1 hvb.2
  refine ⟨?_, ?_, by omega, a5⟩
  · unfold scW
    have f4' : 0 ≤ t1.a := Nat.zero_le _
    rw [hml, hvv.1, f1, d3, c1, b1, a1, show st0.a = 0 from rfl, bs_app s f4' d5, bs_app s (Nat.zero_le _) c4, bs_app s (Nat.zero_le _) b4, bs_app s (Nat.zero_le _) a4]
  · unfold scB
    rw [hml, hvv.2, f2, d4, c2, b2]
    rfl
end Go.Proofs.YtdohhhkondokkaaDoor

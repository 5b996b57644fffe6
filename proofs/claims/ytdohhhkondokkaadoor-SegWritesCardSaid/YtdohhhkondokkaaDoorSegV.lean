/- Plain law: what is read is written back: frames, tables; the whole. No program in sight. -/
import Derived.Test.YtdohhhkondokkaaDoorSegU
namespace Go.Proofs.YtdohhhkondokkaaDoor
open Go.RowKit
set_option linter.unusedSimpArgs false
set_option linter.unusedVariables false
theorem pt1_back {s : ByteArray} {t : St} {l : List Pt} (h : (pt1 s (t, l)).1.e = 0) :
    t.e = 0 ∧ ∃ p, (pt1 s (t, l)).2 = l ++ [p] ∧ ptW p = bs s t.a (pt1 s (t, l)).1.a ∧ ptB p = false ∧ t.a ≤ (pt1 s (t, l)).1.a ∧ (pt1 s (t, l)).1.a ≤ s.size ∧ (0 ≤ p.id ∧ p.id ≤ 255 ∧ 1 ≤ p.h ∧ p.h ≤ 4 ∧ 1 ≤ p.v ∧ p.v ≤ 4 ∧ 0 ≤ p.q ∧ p.q ≤ 3) ∧ ∀ x ∈ l, x.id ≠ p.id := by
  obtain ⟨id, hid⟩ : ∃ n, n = nV s 1 t := ⟨_, rfl⟩
  obtain ⟨t2, ht2⟩ : ∃ x, x = nS s 1 t := ⟨_, rfl⟩
  obtain ⟨v, hv⟩ : ∃ n, n = nV s 1 t2 := ⟨_, rfl⟩
  obtain ⟨t3, ht3⟩ : ∃ x, x = nS s 1 t2 := ⟨_, rfl⟩
  obtain ⟨t4, ht4⟩ : ∃ x, x = tS t3 (decide (1 ≤ v / 16 ∧ v / 16 ≤ 4 ∧ 1 ≤ v % 16 ∧ v % 16 ≤ 4)) 7 := ⟨_, rfl⟩
  obtain ⟨q, hq⟩ : ∃ n, n = nV s 1 t4 := ⟨_, rfl⟩
  obtain ⟨t5, ht5⟩ : ∃ x, x = nS s 1 t4 := ⟨_, rfl⟩
  have hR : pt1 s (t, l) = (idT 7 id (l.map Pt.id) (tS t5 (decide (q ≤ 3)) 7), l ++ [⟨id, v / 16, v % 16, q⟩]) := by
    rw [pt1]; simp only [← hid, ← ht2, ← hv, ← ht3, ← ht4, ← hq, ← ht5]
  rw [hR] at h ⊢
  dsimp only at h ⊢
  obtain ⟨g1, g2, g3⟩ := idT_ok h (by decide)
  obtain ⟨g4, g5⟩ := tS_ok g1 (by decide)
  have k1 := num_back (s := s) (n := 1) (t := t4) (ht5 ▸ g4)
  have kb1 := nV_bd s t4
  rw [← ht5, ← hq] at k1
  rw [← hq] at kb1
  obtain ⟨a1, a2, a3, a4, a5⟩ := k1
  rw [ht4] at a3
  obtain ⟨g6, g7⟩ := tS_ok a3 (by decide)
  have k2 := num_back (s := s) (n := 1) (t := t2) (ht3 ▸ g6)
  have kb2 := nV_bd s t2
  rw [← ht3, ← hv] at k2
  rw [← hv] at kb2
  obtain ⟨b1, b2, b3, b4, b5⟩ := k2
  have k3 := num_back (s := s) (n := 1) (t := t) (ht2 ▸ b3)
  have kb3 := nV_bd s t
  rw [← ht2, ← hid] at k3
  rw [← hid] at kb3
  obtain ⟨c1, c2, c3, c4, c5⟩ := k3
  have hvv := hv_back v kb2.1 kb2.2
  have t4a : t4.a = t3.a := by rw [ht4]; rfl
  have ea : (tS t5 (decide (q ≤ 3)) 7).a = t5.a := rfl
  have hq3 : q ≤ 3 := of_decide_eq_true g5
  have hhv : 1 ≤ v / 16 ∧ v / 16 ≤ 4 ∧ 1 ≤ v % 16 ∧ v % 16 ≤ 4 := of_decide_eq_true g7
  rw [g2, ea]
  rw [t4a] at a1 a4
  refine ⟨c3, _, rfl, ?_, ?_, by omega, a5, ⟨kb3.1, by dsimp only; omega, hhv.1, hhv.2.1, hhv.2.2.1, hhv.2.2.2, kb1.1, hq3⟩, fun x hx => g3 _ (List.mem_map.2 ⟨x, hx, rfl⟩)⟩
  · show putL id 1 ++ hvL (v / 16) (v % 16) ++ putL q 1 = _
    rw [hvv.1, c1, b1, a1, bs_app s c4 b4, bs_app s (Nat.le_trans c4 b4) a4]
  · show (putB id 1 || hvB (v / 16) (v % 16) || putB q 1) = false
    rw [hvv.2, c2, a2]; rfl
/-- A frame's component that may be. -/
def Pt.rng (p : Pt) : Prop := 0 ≤ p.id ∧ p.id ≤ 255 ∧ 1 ≤ p.h ∧ p.h ≤ 4 ∧ 1 ≤ p.v ∧ p.v ≤ 4 ∧ 0 ≤ p.q ∧ p.q ≤ 3
/-- All are right, and no two have one number. -/
def ptsOk (l : List Pt) : Prop := (∀ p ∈ l, p.rng) ∧ l.Pairwise (fun a b => a.id ≠ b.id)
theorem ptsOk_snoc {l : List Pt} {p : Pt} (h : ptsOk l) (hp : p.rng) (hn : ∀ x ∈ l, x.id ≠ p.id) : ptsOk (l ++ [p]) := by
  refine ⟨fun x hx => ?_, ?_⟩
  · rcases List.mem_append.1 hx with hx | hx
    · exact h.1 x hx
    · rw [List.mem_singleton] at hx; subst hx; exact hp
  · rw [List.pairwise_append]
    exact ⟨h.2, by simp, fun a ha b hb => by rw [List.mem_singleton] at hb; subst hb; exact hn a ha⟩
theorem ptL_back {s : ByteArray} : ∀ (k : Nat) {t : St} {l : List Pt}, (ptL s k (t, l)).1.e = 0 → ptsOk l →
    t.e = 0 ∧ ∃ m, (ptL s k (t, l)).2 = l ++ m ∧ m.length = k ∧ catW ptW m = bs s t.a (ptL s k (t, l)).1.a ∧ m.any ptB = false ∧ t.a ≤ (ptL s k (t, l)).1.a ∧ (t.a ≤ s.size → (ptL s k (t, l)).1.a ≤ s.size) ∧ ptsOk (l ++ m)
  | 0, t, l, h, hl => ⟨h, [], by simp [ptL], rfl, by simp [catW, ptL, bs_nil], rfl, Nat.le_refl _, fun h => h, by simpa using hl⟩
  | k + 1, t, l, h, hl => by
    by_cases he : t.e = 0
    · have e : ptL s (k + 1) (t, l) = ptL s k (pt1 s (t, l)) := by rw [ptL, if_pos he]
      rw [e] at h ⊢
      have hee : ptL s k (pt1 s (t, l)) = ptL s k ((pt1 s (t, l)).1, (pt1 s (t, l)).2) := rfl
      have h0 : (pt1 s (t, l)).1.e = 0 := by
        by_cases hz : (pt1 s (t, l)).1.e = 0
        · exact hz
        · rw [hee, ptL_bad _ _ _ hz] at h; exact h
      obtain ⟨_, p, g1, g2, g3, g4, g5, g6, g7⟩ := pt1_back h0
      obtain ⟨h1, m, h2, h3, h4, h5, h6, h7, h8⟩ := ptL_back k (t := (pt1 s (t, l)).1) (l := (pt1 s (t, l)).2) h (by rw [g1]; exact ptsOk_snoc hl g6 g7)
      rw [hee]
      refine ⟨he, p :: m, ?_, by simp [h3], ?_, ?_, by omega, fun _ => h7 g5, ?_⟩
      · rw [h2, g1]; simp
      · have : catW ptW (p :: m) = ptW p ++ catW ptW m := by simp [catW]
        rw [this, g2, h4, bs_app s g4 h6]
      · simp [g3, h5]
      · rw [g1] at h8; simpa using h8
    · rw [ptL_bad _ _ _ he] at h
      exact absurd h he
theorem frame_back {s : ByteArray} (h : (frR s st0).t.e = 0) :
    frW (frR s st0).h (frR s st0).w (frR s st0).l = bs s 0 (frR s st0).t.a ∧ frB (frR s st0).h (frR s st0).w (frR s st0).l = false ∧ (frR s st0).t.a ≤ s.size ∧
    1 ≤ (frR s st0).l.length ∧ (frR s st0).l.length ≤ 4 ∧ 1 ≤ (frR s st0).h ∧ (frR s st0).h ≤ 16384 ∧ 1 ≤ (frR s st0).w ∧ (frR s st0).w ≤ 16384 ∧ ptsOk (frR s st0).l := by
  obtain ⟨x, hx⟩ : ∃ n, n = nV s 1 st0 := ⟨_, rfl⟩
  obtain ⟨t0, ht0⟩ : ∃ t, t = nS s 1 st0 := ⟨_, rfl⟩
  obtain ⟨t1, ht1⟩ : ∃ t, t = tS t0 (x == 8) 6 := ⟨_, rfl⟩
  obtain ⟨hh, hhh⟩ : ∃ n, n = nV s 2 t1 := ⟨_, rfl⟩
  obtain ⟨t2, ht2⟩ : ∃ t, t = nS s 2 t1 := ⟨_, rfl⟩
  obtain ⟨ww, hww⟩ : ∃ n, n = nV s 2 t2 := ⟨_, rfl⟩
  obtain ⟨t3, ht3⟩ : ∃ t, t = nS s 2 t2 := ⟨_, rfl⟩
  obtain ⟨t4, ht4⟩ : ∃ t, t = tS t3 (decide (0 < hh ∧ 0 < ww)) 7 := ⟨_, rfl⟩
  obtain ⟨t5, ht5⟩ : ∃ t, t = tS t4 (decide (hh ≤ 16384 ∧ ww ≤ 16384)) 11 := ⟨_, rfl⟩
  obtain ⟨n, hn⟩ : ∃ n, n = nV s 1 t5 := ⟨_, rfl⟩
  obtain ⟨t6, ht6⟩ : ∃ t, t = nS s 1 t5 := ⟨_, rfl⟩
  obtain ⟨t7, ht7⟩ : ∃ t, t = tS t6 (decide (0 < n)) 7 := ⟨_, rfl⟩
  obtain ⟨t8, ht8⟩ : ∃ t, t = tS t7 (decide (n ≤ 4)) 12 := ⟨_, rfl⟩
  obtain ⟨t9, l9, hp⟩ : ∃ t l, (t, l) = ptL s n.toNat (t8, []) := ⟨_, _, rfl⟩
  have hR : frR s st0 = ⟨t9, hh, ww, l9⟩ := by
    rw [frR]
    simp only [← hx, ← ht0, ← ht1, ← hhh, ← ht2, ← hww, ← ht3, ← ht4, ← ht5, ← hn, ← ht6, ← ht7, ← ht8, ← hp]
  rw [hR] at h ⊢
  dsimp only at h ⊢
  have hp1 : (ptL s n.toNat (t8, [])).1 = t9 := by rw [← hp]
  have hp2 : (ptL s n.toNat (t8, [])).2 = l9 := by rw [← hp]
  obtain ⟨d0, m, d1, d2, d3, d4, d5, d6, d7⟩ := ptL_back n.toNat (s := s) (t := t8) (l := []) (by rw [hp1]; exact h) ⟨by simp, by simp⟩
  rw [hp1] at d3 d5 d6
  rw [hp2, List.nil_append] at d1
  subst d1
  rw [List.nil_append] at d7
  rw [ht8] at d0
  obtain ⟨e0, e0b⟩ := tS_ok d0 (by decide)
  rw [ht7] at e0
  obtain ⟨e1, e1b⟩ := tS_ok e0 (by decide)
  have hn4 : n ≤ 4 := of_decide_eq_true e0b
  have hn0 : 0 < n := of_decide_eq_true e1b
  have k1 := num_back (s := s) (n := 1) (t := t5) (ht6 ▸ e1)
  rw [← ht6, ← hn] at k1
  obtain ⟨a1, a2, a3, a4, a5⟩ := k1
  rw [ht5] at a3
  obtain ⟨g1, g1b⟩ := tS_ok a3 (by decide)
  rw [ht4] at g1
  obtain ⟨g2, g2b⟩ := tS_ok g1 (by decide)
  have hb1 : hh ≤ 16384 ∧ ww ≤ 16384 := of_decide_eq_true g1b
  have hb2 : 0 < hh ∧ 0 < ww := of_decide_eq_true g2b
  have k2 := num_back (s := s) (n := 2) (t := t2) (ht3 ▸ g2)
  rw [← ht3, ← hww] at k2
  obtain ⟨b1, b2, b3, b4, b5⟩ := k2
  have k3 := num_back (s := s) (n := 2) (t := t1) (ht2 ▸ b3)
  rw [← ht2, ← hhh] at k3
  obtain ⟨c1, c2, c3, c4, c5⟩ := k3
  rw [ht1] at c3
  obtain ⟨f1, f1b⟩ := tS_ok c3 (by decide)
  have hx8 : x = 8 := by simpa using f1b
  have k4 := num_back (s := s) (n := 1) (t := st0) (ht0 ▸ f1)
  rw [← ht0, ← hx, hx8] at k4
  obtain ⟨i1, i2, i3, i4, i5⟩ := k4
  have e1a : t1.a = t0.a := by rw [ht1]; rfl
  have e5a : t5.a = t3.a := by rw [ht5, ht4]; rfl
  have e8a : t8.a = t6.a := by rw [ht8, ht7]; rfl
  rw [e1a] at c1 c4
  rw [e5a] at a1 a4
  rw [e8a] at d3 d5 d6
  have hml : (l9.length : Int) = n := by rw [d2]; omega
  refine ⟨?_, ?_, d6 a5, by omega, by omega, by omega, by omega, by omega, by omega, d7⟩
  · unfold frW
    rw [hml, i1, c1, b1, a1, d3, show st0.a = 0 from rfl, bs_app s (Nat.zero_le _) c4, bs_app s (Nat.zero_le _) b4, bs_app s (Nat.zero_le _) a4, bs_app s (Nat.zero_le _) d5]
  · unfold frB
    rw [hml, c2, b2, a2, d4]; rfl
/-! Tables. -/
theorem zT_back {s : ByteArray} {n : Nat} {u : St} : ∀ (k : Nat), (zT s n u k).e = 0 → u.e = 0 ∧ zW (zV s n u) n k = bs s u.a (zT s n u k).a ∧ zB (zV s n u) n k = false ∧ u.a ≤ (zT s n u k).a ∧ (u.a ≤ s.size → (zT s n u k).a ≤ s.size) ∧ ∀ j, j < k → 0 < zV s n u j
  | 0, h => ⟨h, by simp [zW, zT, bs_nil], rfl, Nat.le_refl _, fun h => h, fun j hj => by omega⟩
  | k + 1, h => by
    obtain ⟨h1, h1b⟩ := tS_ok h (by decide)
    obtain ⟨a1, a2, a3, a4, a5⟩ := num_back h1
    obtain ⟨b0, b1, b2, b3, b4, b5⟩ := zT_back k a3
    have ea : (zT s n u (k + 1)).a = (nS s n (zT s n u k)).a := rfl
    refine ⟨b0, ?_, ?_, by rw [ea]; omega, fun _ => by rw [ea]; exact a5, fun j hj => ?_⟩
    · rw [zW, b1, ea]
      show _ ++ putL (nV s n (zT s n u k)) n = _
      rw [a1, bs_app s b3 a4]
    · rw [zB, b2]
      show (false || putB (nV s n (zT s n u k)) n) = false
      rw [a2]; rfl
    · by_cases hjk : j < k
      · exact b5 j hjk
      · obtain rfl : j = k := by omega
        exact of_decide_eq_true h1b
theorem zW_congr {f g : Nat → Int} {m : Nat} : ∀ (k : Nat), (∀ j, j < k → f j = g j) → zW f m k = zW g m k
  | 0, _ => rfl
  | k + 1, h => by rw [zW, zW, zW_congr k (fun j hj => h j (by omega)), h k (by omega)]
theorem zB_congr {f g : Nat → Int} {m : Nat} : ∀ (k : Nat), (∀ j, j < k → f j = g j) → zB f m k = zB g m k
  | 0, _ => rfl
  | k + 1, h => by rw [zB, zB, zB_congr k (fun j hj => h j (by omega)), h k (by omega)]
theorem qu1_back {s : ByteArray} {t : St} {l : List Qt} (h : (qu1 s (t, l)).1.e = 0) :
    t.e = 0 ∧ ∃ p, (qu1 s (t, l)).2 = l ++ [p] ∧ qtW p = bs s t.a (qu1 s (t, l)).1.a ∧ qtB p = false ∧ t.a + 1 ≤ (qu1 s (t, l)).1.a ∧ (qu1 s (t, l)).1.a ≤ s.size ∧ p.ok := by
  have hadv := qu1_adv h
  obtain ⟨v, hv⟩ : ∃ n, n = nV s 1 t := ⟨_, rfl⟩
  obtain ⟨t1, ht1⟩ : ∃ x, x = nS s 1 t := ⟨_, rfl⟩
  obtain ⟨u, hu⟩ : ∃ x, x = tS t1 (decide (v / 16 ≤ 1 ∧ v % 16 ≤ 3)) 5 := ⟨_, rfl⟩
  obtain ⟨n, hn⟩ : ∃ n, n = (1 + v / 16 % 2).toNat := ⟨_, rfl⟩
  have hR : qu1 s (t, l) = (zT s n u 64, l ++ [⟨v % 16, v / 16 == 1, fun j => zV s n u (inv j)⟩]) := by
    rw [qu1]; simp only [← hv, ← ht1, ← hu, ← hn]
  rw [hR] at h hadv ⊢
  dsimp only at h hadv ⊢
  obtain ⟨a0, a1, a2, a3, a4, a5⟩ := zT_back 64 h
  rw [hu] at a0
  obtain ⟨b0, b1⟩ := tS_ok a0 (by decide)
  have hvr : v / 16 ≤ 1 ∧ v % 16 ≤ 3 := of_decide_eq_true b1
  have k1 := num_back (s := s) (n := 1) (t := t) (ht1 ▸ b0)
  have kb := nV_bd s t
  rw [← ht1, ← hv] at k1
  rw [← hv] at kb
  obtain ⟨c1, c2, c3, c4, c5⟩ := k1
  have hvv := hv_back v kb.1 kb.2
  have ua : u.a = t1.a := by rw [hu]; rfl
  rw [ua] at a1 a3 a4
  have hsz : (szW ⟨v % 16, v / 16 == 1, fun j => zV s n u (inv j)⟩ : Nat) = n ∧ ((n : Int) - 1 = v / 16) := by
    unfold szW
    by_cases hw : v / 16 = 1
    · simp [hw]; omega
    · have h0 : v / 16 = 0 := by omega
      simp [h0]; omega
  refine ⟨c3, _, rfl, ?_, ?_, hadv, a4 c5, ?_⟩
  · unfold qtW
    rw [hsz.1, hsz.2]
    show hvL (v / 16) (v % 16) ++ zW (fun k => zV s n u (inv (ord k))) n 64 = _
    rw [zW_congr 64 (fun j hj => by rw [inv_ord j hj]), hvv.1, c1, a1, bs_app s c4 a3]
  · unfold qtB
    rw [hsz.1, hsz.2]
    show (hvB (v / 16) (v % 16) || zB (fun k => zV s n u (inv (ord k))) n 64) = false
    rw [zB_congr 64 (fun j hj => by rw [inv_ord j hj]), hvv.2, a2]; rfl
  · intro j hj
    have hb := nV_bd2 s n (zT s n u (inv j))
    have h2 : (256 : Int) ^ n ≤ 65536 := by
      have : n = 1 ∨ n = 2 := by omega
      rcases this with rfl | rfl <;> decide
    exact ⟨hb.1, Int.lt_of_lt_of_le hb.2 h2⟩
theorem quL_back {s : ByteArray} : ∀ (f : Nat) {t : St} {l : List Qt}, (quL s f (t, l)).1.e = 0 → (∀ p ∈ l, p.ok) →
    t.e = 0 ∧ ∃ m, (quL s f (t, l)).2 = l ++ m ∧ catW qtW m = bs s t.a (quL s f (t, l)).1.a ∧ m.any qtB = false ∧ t.a + m.length ≤ (quL s f (t, l)).1.a ∧ (t.a ≤ s.size → (quL s f (t, l)).1.a ≤ s.size) ∧ ∀ p ∈ l ++ m, p.ok
  | 0, t, l, h, hl => ⟨h, [], by simp [quL], by simp [catW, quL, bs_nil], rfl, Nat.le_refl _, fun h => h, by simpa using hl⟩
  | f + 1, t, l, h, hl => by
    by_cases hc : t.e = 0 ∧ (l = [] ∨ t.a < s.size)
    · have e : quL s (f + 1) (t, l) = quL s f (qu1 s (t, l)) := by rw [quL, if_pos hc]
      rw [e] at h ⊢
      have hee : quL s f (qu1 s (t, l)) = quL s f ((qu1 s (t, l)).1, (qu1 s (t, l)).2) := rfl
      have h0 : (qu1 s (t, l)).1.e = 0 := by
        by_cases hz : (qu1 s (t, l)).1.e = 0
        · exact hz
        · rw [hee, quL_no _ _ _ (fun hc => hz hc.1)] at h; exact h
      obtain ⟨_, p, g1, g2, g3, g4, g5, g6⟩ := qu1_back h0
      obtain ⟨h1, m, h2, h4, h5, h6, h7, h8⟩ := quL_back f (t := (qu1 s (t, l)).1) (l := (qu1 s (t, l)).2) h (by rw [g1]; intro x hx; rcases List.mem_append.1 hx with hx | hx; exact hl x hx; rw [List.mem_singleton] at hx; subst hx; exact g6)
      rw [hee]
      refine ⟨hc.1, p :: m, ?_, ?_, ?_, by simp; omega, fun _ => h7 g5, ?_⟩
      · rw [h2, g1]; simp
      · have : catW qtW (p :: m) = qtW p ++ catW qtW m := by simp [catW]
        rw [this, g2, h4, bs_app s (by omega) (by omega)]
      · simp [g3, h5]
      · rw [g1] at h8; simpa using h8
    · rw [quL_no _ _ _ hc] at h ⊢
      exact ⟨h, [], by simp, by simp [catW, bs_nil], rfl, by simp, fun h => h, by simpa using hl⟩
theorem cT_back {s : ByteArray} {u : St} : ∀ (k : Nat), (cT s u k).e = 0 → u.e = 0 ∧ zW (cV s u) 1 k = bs s u.a (cT s u k).a ∧ zB (cV s u) 1 k = false ∧ u.a ≤ (cT s u k).a ∧ (u.a ≤ s.size → (cT s u k).a ≤ s.size)
  | 0, h => ⟨h, by simp [zW, cT, bs_nil], rfl, Nat.le_refl _, fun h => h⟩
  | k + 1, h => by
    obtain ⟨a1, a2, a3, a4, a5⟩ := num_back (s := s) (n := 1) (t := cT s u k) h
    obtain ⟨b0, b1, b2, b3, b4⟩ := cT_back k a3
    have ea : (cT s u (k + 1)).a = (nS s 1 (cT s u k)).a := rfl
    refine ⟨b0, ?_, ?_, by rw [ea]; omega, fun _ => by rw [ea]; exact a5⟩
    · rw [zW, b1, ea]
      show _ ++ putL (nV s 1 (cT s u k)) 1 = _
      rw [a1, bs_app s b3 a4]
    · rw [zB, b2]
      show (false || putB (nV s 1 (cT s u k)) 1) = false
      rw [a2]; rfl
theorem cS_cSum (s : ByteArray) (u : St) (k : Nat) : cS (cV s u) k = cSum s u k := by
  induction k with
  | zero => rfl
  | succ k ih => rw [cS, cSum, ih]
theorem hu1_back {s : ByteArray} {t : St} {l : List Hf} (h : (hu1 s (t, l)).1.e = 0) :
    t.e = 0 ∧ ∃ p, (hu1 s (t, l)).2 = l ++ [p] ∧ hfW p = bs s t.a (hu1 s (t, l)).1.a ∧ hfB p = false ∧ t.a + 1 ≤ (hu1 s (t, l)).1.a ∧ (hu1 s (t, l)).1.a ≤ s.size ∧ (p.ok ∧ p.sym.size ≤ s.size) := by
  have hadv := hu1_adv h
  obtain ⟨v, hv⟩ : ∃ n, n = nV s 1 t := ⟨_, rfl⟩
  obtain ⟨t1, ht1⟩ : ∃ x, x = nS s 1 t := ⟨_, rfl⟩
  obtain ⟨u, hu⟩ : ∃ x, x = tS t1 (decide (v / 16 ≤ 1 ∧ v % 16 ≤ 3)) 5 := ⟨_, rfl⟩
  obtain ⟨n, hn⟩ : ∃ n, n = cSum s u 16 := ⟨_, rfl⟩
  obtain ⟨c, hc⟩ : ∃ x, x = cT s u 16 := ⟨_, rfl⟩
  obtain ⟨y, hy⟩ : ∃ x, x = xV s n c := ⟨_, rfl⟩
  have hR : hu1 s (t, l) = (tS (xS s n c) (hufNew (cV s u) y).isSome 5, l ++ [⟨v / 16, v % 16, cV s u, y⟩]) := by
    rw [hu1]; simp only [← hv, ← ht1, ← hu, ← hn, ← hc, ← hy]
  rw [hR] at h hadv ⊢
  dsimp only at h hadv ⊢
  have h1 := (tS_ok h (by decide)).1
  obtain ⟨d0, d1⟩ := xS_ok h1
  rw [hc] at d0
  obtain ⟨a0, a1, a2, a3, a4⟩ := cT_back 16 d0
  rw [← hc] at a1 a3 a4
  rw [hu] at a0
  obtain ⟨b0, b1⟩ := tS_ok a0 (by decide)
  have k1 := num_back (s := s) (n := 1) (t := t) (ht1 ▸ b0)
  have kb := nV_bd s t
  rw [← ht1, ← hv] at k1
  rw [← hv] at kb
  obtain ⟨c1, c2, c3, c4, c5⟩ := k1
  have hvv := hv_back v kb.1 kb.2
  have ua : u.a = t1.a := by rw [hu]; rfl
  rw [ua] at a1 a3 a4
  have hya : (xS s n c).a = c.a + n.toNat := by show txA s n c.a = _; rw [txA, if_pos d1]
  have hyv : y = s.extract c.a (c.a + n.toNat) := by rw [hy]; unfold xV txV; rw [if_pos d1]
  have hca := a4 c5
  have hys : (y.size : Int) = n := by rw [hyv, ByteArray.size_extract]; omega
  have ea : (tS (xS s n c) (hufNew (cV s u) y).isSome 5).a = c.a + n.toNat := hya
  rw [ea]
  refine ⟨c3, _, rfl, ?_, ?_, by omega, by omega, fun j hj => ?_, by show y.size ≤ s.size; omega⟩
  · show hvL (v / 16) (v % 16) ++ zW (cV s u) 1 16 ++ y.data.toList = _
    rw [hvv.1, c1, a1, hyv, bs_ext, bs_app s c4 a3, bs_app s (Nat.le_trans c4 a3) (by omega)]
  · show (hvB (v / 16) (v % 16) || zB (cV s u) 1 16 || (cS (cV s u) 16 != y.size)) = false
    rw [hvv.2, a2, cS_cSum, ← hn, hys]; simp
  · exact nV_bd s (cT s u j)
theorem huL_back {s : ByteArray} : ∀ (f : Nat) {t : St} {l : List Hf}, (huL s f (t, l)).1.e = 0 → (∀ p ∈ l, p.ok ∧ p.sym.size ≤ s.size) →
    t.e = 0 ∧ ∃ m, (huL s f (t, l)).2 = l ++ m ∧ catW hfW m = bs s t.a (huL s f (t, l)).1.a ∧ m.any hfB = false ∧ t.a + m.length ≤ (huL s f (t, l)).1.a ∧ (t.a ≤ s.size → (huL s f (t, l)).1.a ≤ s.size) ∧ ∀ p ∈ l ++ m, p.ok ∧ p.sym.size ≤ s.size
  | 0, t, l, h, hl => ⟨h, [], by simp [huL], by simp [catW, huL, bs_nil], rfl, Nat.le_refl _, fun h => h, by simpa using hl⟩
  | f + 1, t, l, h, hl => by
    by_cases hc : t.e = 0 ∧ (l = [] ∨ t.a < s.size)
    · have e : huL s (f + 1) (t, l) = huL s f (hu1 s (t, l)) := by rw [huL, if_pos hc]
      rw [e] at h ⊢
      have hee : huL s f (hu1 s (t, l)) = huL s f ((hu1 s (t, l)).1, (hu1 s (t, l)).2) := rfl
      have h0 : (hu1 s (t, l)).1.e = 0 := by
        by_cases hz : (hu1 s (t, l)).1.e = 0
        · exact hz
        · rw [hee, huL_no _ _ _ (fun hc => hz hc.1)] at h; exact h
      obtain ⟨_, p, g1, g2, g3, g4, g5, g6⟩ := hu1_back h0
      obtain ⟨h1, m, h2, h4, h5, h6, h7, h8⟩ := huL_back f (t := (hu1 s (t, l)).1) (l := (hu1 s (t, l)).2) h (by rw [g1]; intro x hx; rcases List.mem_append.1 hx with hx | hx; exact hl x hx; rw [List.mem_singleton] at hx; subst hx; exact g6)
      rw [hee]
      refine ⟨hc.1, p :: m, ?_, ?_, ?_, by simp; omega, fun _ => h7 g5, ?_⟩
      · rw [h2, g1]; simp
      · have : catW hfW (p :: m) = hfW p ++ catW hfW m := by simp [catW]
        rw [this, g2, h4, bs_app s (by omega) (by omega)]
      · simp [g3, h5]
      · rw [g1] at h8; simpa using h8
    · rw [huL_no _ _ _ hc] at h ⊢
      exact ⟨h, [], by simp, by simp [catW, bs_nil], rfl, by simp, fun h => h, by simpa using hl⟩
/-- What is read is written back, byte for byte. -/
theorem parse_back {c : Int} {s : ByteArray} (h : prE c s = 0) : sgC (prG c s) = c ∧ sgW (prG c s) = s.data.toList ∧ sgB (prG c s) = false ∧ (prG c s).ok ∧ byE (prG c s) = 0 := by
  obtain ⟨hm, hsz⟩ := prE_may h
  have hz := mayC_zero hm
  have he : (tS (prS c s).1 (decide ((prS c s).1.a = s.size)) 4).e = 0 := by
    unfold prE at h
    rwa [if_neg (by simpa using hm), if_neg (by omega)] at h
  obtain ⟨h0, h1⟩ := tS_ok he (by decide)
  have h1 : (prS c s).1.a = s.size := of_decide_eq_true h1
  have H : sgC (prG c s) = c ∧ sgW (prG c s) = s.data.toList ∧ sgB (prG c s) = false ∧ (prG c s).ok := by
    unfold prG
    rw [← bs_all, ← h1]
    rcases hz with hz | rfl | rfl | rfl | rfl | hz | rfl
    · have e : prS c s = ((frR s st0).t, .frame c (frR s st0).h (frR s st0).w (frR s st0).l) := by unfold prS; rw [if_neg (by omega), if_neg (by omega), if_neg (by omega), if_neg (by omega), if_pos (by omega)]
      rw [e] at h0 h1 ⊢
      obtain ⟨a1, a2, a3, a4, a5, _⟩ := frame_back h0
      refine ⟨rfl, a1, ?_, ?_⟩
      · show (decide (194 < c) || frB _ _ _) = false
        rw [a2]; simp; omega
      · show List.length _ ≤ 1000000
        omega
    · have e : prS 196 s = ((huR s st0).1, .huffs (huR s st0).2) := rfl
      rw [e] at h0 h1 ⊢
      obtain ⟨_, m, a1, a2, a3, a4, a5, a6⟩ := huL_back (s.size + 1) (s := s) (t := st0) (l := []) h0 (by simp)
      rw [List.nil_append] at a1
      have a1' : (huR s st0).2 = m := a1
      refine ⟨rfl, ?_, ?_, ?_, ?_⟩
      · show catW hfW (huR s st0).2 = _
        rw [a1']; exact a2
      · show List.any (huR s st0).2 hfB = false
        rw [a1']; exact a3
      · show ∀ p ∈ (huR s st0).2, _
        rw [a1']; intro p hp; have := a6 p (by simpa using hp); exact ⟨this.1, by omega⟩
      · show List.length (huR s st0).2 ≤ _
        rw [a1']
        have h5 := a5 (Nat.zero_le _)
        have e0 : st0.a = 0 := rfl
        omega
    · have e : prS 218 s = ((scR s st0).t, .scan (scR s st0).l (scR s st0).a (scR s st0).b (scR s st0).hi (scR s st0).lo) := rfl
      rw [e] at h0 h1 ⊢
      obtain ⟨a1, a2, a3, a4⟩ := scan_back h0
      exact ⟨rfl, a1, a2, by show List.length _ ≤ 1000000; omega⟩
    · have e : prS 219 s = ((quR s st0).1, .quants (quR s st0).2) := rfl
      rw [e] at h0 h1 ⊢
      obtain ⟨_, m, a1, a2, a3, a4, a5, a6⟩ := quL_back (s.size + 1) (s := s) (t := st0) (l := []) h0 (by simp)
      rw [List.nil_append] at a1
      have a1' : (quR s st0).2 = m := a1
      refine ⟨rfl, ?_, ?_, ?_, ?_⟩
      · show catW qtW (quR s st0).2 = _
        rw [a1']; exact a2
      · show List.any (quR s st0).2 qtB = false
        rw [a1']; exact a3
      · show ∀ p ∈ (quR s st0).2, _
        rw [a1']; intro p hp; exact a6 p (by simpa using hp)
      · show List.length (quR s st0).2 ≤ _
        rw [a1']
        have h5 := a5 (Nat.zero_le _)
        have e0 : st0.a = 0 := rfl
        omega
    · have e : prS 221 s = (nS s 2 st0, .rst (nV s 2 st0)) := rfl
      rw [e] at h0 h1 ⊢
      obtain ⟨a1, a2, _⟩ := num_back h0
      exact ⟨rfl, a1, a2, trivial⟩
    · have e : prS c s = (⟨s.size, 0⟩, .plain c s) := by unfold prS; rw [if_neg (by omega), if_neg (by omega), if_neg (by omega), if_neg (by omega), if_neg (by omega)]
      rw [e]
      exact ⟨rfl, (bs_all s).symm, by show decide (c < 224) = false; simp; omega, by show s.size ≤ 1000000000000; omega⟩
    · exact ⟨rfl, (bs_all s).symm, rfl, by show s.size ≤ 1000000000000; omega⟩
  refine ⟨H.1, H.2.1, H.2.2.1, H.2.2.2, ?_⟩
  rw [byE, H.2.2.1, H.2.1, H.1, if_neg (by simp), if_pos (by simpa using h)]
end Go.Proofs.YtdohhhkondokkaaDoor

/- The reader's frame. No condition. -/
import Derived.Test.YthibnhgbgmpjoaaDoorHSegJ
namespace Go.Proofs.YthibnhgbgmpjoaaDoor
open Go.RowKit
set_option linter.unusedSimpArgs false
set_option linter.unusedVariables false
set_option maxRecDepth 100000
structure Pt where
  id : Int
  h : Int
  v : Int
  q : Int
def Pt.cells (p : Pt) : List Value := [.int .i64 p.id, .int .i64 p.h, .int .i64 p.v, .int .i64 p.q]
theorem Pt.is : CellsOf Pt.cells 4 := ⟨fun _ => rfl, fun x u hu => by simp only [Pt.cells, List.mem_cons, List.not_mem_nil, or_false] at hu; rcases hu with rfl | rfl | rfl | rfl <;> rfl⟩
/-- One component of a frame. -/
def pt1 (s : ByteArray) (p : St × List Pt) : St × List Pt :=
  let id := nV s 1 p.1
  let t2 := nS s 1 p.1
  let b := nV s 1 t2
  let t4 := tS (nS s 1 t2) (decide (1 ≤ b / 16 ∧ b / 16 ≤ 4 ∧ 1 ≤ b % 16 ∧ b % 16 ≤ 4)) 7
  let q := nV s 1 t4
  (idT 7 id (p.2.map Pt.id) (tS (nS s 1 t4) (decide (q ≤ 3)) 7), p.2 ++ [⟨id, b / 16, b % 16, q⟩])
def ptL (s : ByteArray) : Nat → St × List Pt → St × List Pt
  | 0, p => p
  | k + 1, p => if p.1.e = 0 then ptL s k (pt1 s p) else p
theorem ptL_bad (s : ByteArray) (k : Nat) (p : St × List Pt) (h : p.1.e ≠ 0) : ptL s k p = p := by cases k <;> simp [ptL, h]
structure FrR where
  t : St
  h : Int
  w : Int
  l : List Pt
/-- A frame's beginning, read. -/
def frR (s : ByteArray) (t0 : St) : FrR :=
  let t1 := tS (nS s 1 t0) (nV s 1 t0 == 8) 6
  let h := nV s 2 t1
  let t2 := nS s 2 t1
  let w := nV s 2 t2
  let t3 := nS s 2 t2
  let t4 := tS t3 (decide (0 < h ∧ 0 < w)) 7
  let t5 := tS t4 (decide (h ≤ 16384 ∧ w ≤ 16384)) 11
  let n := nV s 1 t5
  let t6 := tS (tS (nS s 1 t5) (decide (0 < n)) 7) (decide (n ≤ 4)) 12
  let p := ptL s n.toNat (t6, [])
  ⟨p.1, h, w, p.2⟩
def FramePost (w : World) (r g : Nat) (s : ByteArray) (c : Int) (R : FrR) (e : Ending) (w' : World) : Prop :=
  ∃ v, e = .returned (.iface 123 (.agg #[.int .i64 c, .int .i64 R.h, .int .i64 R.w, v])) ∧ OwnC Pt.cells 4 w' w.heap.size 150 v R.l ∧ Rd7 w' r g s R.t ∧ Two g r w w'
/-- What a round of frame stands on; b: the frame's block. -/
structure FrI (w : World) (r g b : Nat) (s : ByteArray) (c hh ww : Int) (v : Value) (l : List Pt) (t : St) (wr : World) : Prop where
  rd : Rd7 wr r g s t
  fr : Blk wr b 123 #[.int .i64 c, .int .i64 hh, .int .i64 ww, v]
  ow : OwnC Pt.cells 4 wr w.heap.size 150 v l
  tw : Two g r w wr
  bb : w.heap.size ≤ b
section
variable {w wr w' : World} {r g b b8 : Nat} {s : ByteArray} {c hh ww : Int} {v : Value} {l : List Pt} {t t' : St} {p : Pt}
theorem FrI.two (h : FrI w r g b s c hh ww v l t wr) (hr : Rd7 w' r g s t') (h2 : Two g r wr w') : FrI w r g b s c hh ww v l t' w' :=
  ⟨hr, h2.keepT h.rd (by decide) (by decide) _ _ h.fr, h.ow.keep (h2.keepT h.rd (by decide) (by decide)), h.tw.trans h2, h.bb⟩
theorem FrI.alloc (h : FrI w r g b s c hh ww v l t wr) (o : Obj) : FrI w r g b s c hh ww v l t (wr.alloc o) :=
  ⟨h.rd.alloc o, h.fr.alloc o, h.ow.bel ((Below.refl _ _).alloc (Nat.le_refl _) o), h.tw.alloc o, h.bb⟩
/-- The component that is read. -/
structure FrP (w wr : World) (b : Nat) (v : Value) (p : Pt) : Prop where
  pt : Blk wr b 150 #[.int .i64 p.id, .int .i64 p.h, .int .i64 p.v, .int .i64 p.q]
  ne : v.ownBlock ≠ some b
  lt : w.heap.size ≤ b
theorem FrP.two (h : FrP w wr b8 v p) (hI : FrI w r g b s c hh ww v l t wr) (h2 : Two g r wr w') : FrP w w' b8 v p :=
  ⟨h2.keepT hI.rd (by decide) (by decide) _ _ h.pt, h.ne, h.lt⟩
theorem FrI.set (h : FrI w r g b s c hh ww v l t wr) (hP : FrP w wr b8 v p) (i : Nat) (u : Value) : FrI w r g b s c hh ww v l t (wr.setCell ⟨b8, i, none⟩ u) :=
  ⟨h.rd.set (hP.pt.ne h.rd.1 (by decide)) (hP.pt.ne h.rd.2.1 (by decide)) u, h.fr.far (h.fr.ne hP.pt (by decide)) u, h.ow.set hP.ne u, h.tw.set hP.lt u, h.bb⟩
theorem FrP.set1 (h : FrP w wr b8 v p) (x : Int) : FrP w (wr.setCell ⟨b8, 1, none⟩ (.int .i64 x)) b8 v ⟨p.id, x, p.v, p.q⟩ := ⟨h.pt.set_ 1 _, h.ne, h.lt⟩
theorem FrP.set2 (h : FrP w wr b8 v p) (x : Int) : FrP w (wr.setCell ⟨b8, 2, none⟩ (.int .i64 x)) b8 v ⟨p.id, p.h, x, p.q⟩ := ⟨h.pt.set_ 2 _, h.ne, h.lt⟩
theorem FrP.set3 (h : FrP w wr b8 v p) (x : Int) : FrP w (wr.setCell ⟨b8, 3, none⟩ (.int .i64 x)) b8 v ⟨p.id, p.h, p.v, x⟩ := ⟨h.pt.set_ 3 _, h.ne, h.lt⟩
end
theorem idT_takeP (x id : Int) (l : List Pt) (t : St) (j : Nat) (hj : j < l.length) : idT x id ((l.map Pt.id).take (j + 1)) t = tS (idT x id ((l.map Pt.id).take j) t) (l[j].id != id) x := by
  rw [List.take_succ_eq_append_getElem (by simpa using hj), idT_snoc]
  simp
set_option maxHeartbeats 4000000 in
theorem frame_walk (w : World) (r g : Nat) (s : ByteArray) (t0 : St) (c : Int) (h : Rd7 w r g s t0) :
    Calls Tryd.prog 32 #[.pointer (some ⟨r, 0, none⟩), .int .i64 c] w (FramePost w r g s c (frR s t0)) := by
  have H := Lib.hid h; clear h
  obtain ⟨t1, ht1⟩ : ∃ t, t = tS (nS s 1 t0) (nV s 1 t0 == 8) 6 := ⟨_, rfl⟩
  obtain ⟨hh, hhh⟩ : ∃ n, n = nV s 2 t1 := ⟨_, rfl⟩
  obtain ⟨t2, ht2⟩ : ∃ t, t = nS s 2 t1 := ⟨_, rfl⟩
  obtain ⟨ww, hww⟩ : ∃ n, n = nV s 2 t2 := ⟨_, rfl⟩
  obtain ⟨t3, ht3⟩ : ∃ t, t = nS s 2 t2 := ⟨_, rfl⟩
  obtain ⟨t4, ht4⟩ : ∃ t, t = tS t3 (decide (0 < hh ∧ 0 < ww)) 7 := ⟨_, rfl⟩
  obtain ⟨t5, ht5⟩ : ∃ t, t = tS t4 (decide (hh ≤ 16384 ∧ ww ≤ 16384)) 11 := ⟨_, rfl⟩
  obtain ⟨n, hn⟩ : ∃ n, n = nV s 1 t5 := ⟨_, rfl⟩
  obtain ⟨t6, ht6⟩ : ∃ t, t = nS s 1 t5 := ⟨_, rfl⟩
  have hnb : 0 ≤ n ∧ n < 256 := hn ▸ nV_bd s t5
  obtain ⟨N, rfl⟩ := Int.eq_ofNat_of_zero_le hnb.1
  have hN : N < 256 := by omega
  obtain ⟨t7, ht7⟩ : ∃ t, t = tS t6 (decide (0 < (N : Int))) 7 := ⟨_, rfl⟩
  obtain ⟨t8, ht8⟩ : ∃ t, t = tS t7 (decide ((N : Int) ≤ 4)) 12 := ⟨_, rfl⟩
  obtain ⟨p2, hp2⟩ : ∃ p, p = ptL s N (t8, []) := ⟨_, rfl⟩
  have hR : frR s t0 = ⟨p2.1, hh, ww, p2.2⟩ := by
    rw [frR]
    simp only [← ht1, ← hhh, ← ht2, ← hww, ← ht3, ← ht4, ← ht5, ← ht6, ← hn, ← ht7, ← ht8, Int.toNat_natCast, ← hp2]
  have HR := Lib.hid hR; have HN := Lib.hid hn; have HT1 := Lib.hid ht1; have HT2 := Lib.hid ht2; have HT3 := Lib.hid ht3; have HT4 := Lib.hid ht4; have HT5 := Lib.hid ht5; have HT6 := Lib.hid ht6; have HT7 := Lib.hid ht7; have HT8 := Lib.hid ht8; have HP2 := Lib.hid hp2; have HHH := Lib.hid hhh; have HWW := Lib.hid hww
  clear hR hn ht1 ht2 ht3 ht4 ht5 ht6 ht7 ht8 hp2 hhh hww hnb
  go_enter Tryd.func32, Tryd.ntmps32
  go_wp2_with fail
  refine (num7 1 (by decide) (by decide) _ r g s t0 H.out).mono ?_
  rintro ex w1 ⟨rfl, h1, k1⟩
  have H1 := Lib.hid h1; have K1 := Lib.hid k1; clear h1 k1
  go_wp2_with fail
  refine (test7 _ r g s (nS s 1 t0) 6 (nV s 1 t0 == 8) H1.out).mono ?_
  rintro ex w2 ⟨rfl, h2, k2⟩
  rw [← HT1.out] at h2
  have H2 := Lib.hid h2; have K2 := Lib.hid (K1.out.trans k2); clear h2 k2 H1 K1
  go_wp2_with fail
  refine (num7 2 (by decide) (by decide) _ r g s t1 H2.out).mono ?_
  rintro ex w3 ⟨rfl, h3, k3⟩
  rw [← HT2.out] at h3; rw [← HHH.out]
  have H3 := Lib.hid h3; have K3 := Lib.hid (K2.out.trans k3); clear h3 k3 H2 K2
  go_wp2_with fail
  refine (num7 2 (by decide) (by decide) _ r g s t2 H3.out).mono ?_
  rintro ex w4 ⟨rfl, h4, k4⟩
  rw [← HT3.out] at h4; rw [← HWW.out]
  have hI4 : FrI w r g w4.heap.size s c hh ww (.slice none 0 0) [] t3 (w4.alloc (.cells #[.int .i64 c, .int .i64 hh, .int .i64 ww, .slice none 0 0] 123)) := ⟨h4.alloc _, Blk.new _ _ _, OwnC.nil _ _ _, (K3.out.trans k4).alloc _, (K3.out.trans k4).size⟩
  have HI4 := Lib.hid hI4; clear h4 k4 H3 K3 hI4
  go_upto_region 3 with fail
  go_cut [] (fun wx => Hid (FrI w r g w4.heap.size s c hh ww (.slice none 0 0) [] t4 wx))
  case first =>
    go_wp2_with fail
    all_goals
      refine (test7e _ r g s t3 7 (decide (0 < hh ∧ 0 < ww)) _ ?_ HI4.out.rd).mono ?_
      first | rfl | (rw [Bool.eq_iff_iff]; simp only [Bool.false_eq_true, decide_eq_true_eq, false_iff, true_iff]; omega)
      rintro ex w2 ⟨rfl, h2, k2⟩
      rw [← HT4.out] at h2
      have HI2 := Lib.hid (HI4.out.two h2 k2); clear h2 k2
      go_wp2_with fail
      go_meet
      case rel => exact HI2
  case rest =>
  have HI5 := hcut
  clear hcut HI4
  have d1 : wc.cell? ⟨w4.heap.size, 1, none⟩ = some (.int .i64 hh) := HI5.out.fr.cell 1
  have d2 : wc.cell? ⟨w4.heap.size, 2, none⟩ = some (.int .i64 ww) := HI5.out.fr.cell 2
  go_upto_region 4 with fail
  go_cut [] (fun wx => Hid (FrI w r g w4.heap.size s c hh ww (.slice none 0 0) [] t5 wx))
  case first =>
    go_wp2_with fail
    all_goals
      refine (test7e _ r g s t4 11 (decide (hh ≤ 16384 ∧ ww ≤ 16384)) _ ?_ HI5.out.rd).mono ?_
      first | rfl | (rw [Bool.eq_iff_iff]; simp only [Bool.false_eq_true, decide_eq_true_eq, false_iff, true_iff]; omega)
      rintro ex w2 ⟨rfl, h2, k2⟩
      rw [← HT5.out] at h2
      have HI2 := Lib.hid (HI5.out.two h2 k2); clear h2 k2
      go_wp2_with fail
      go_meet
      case rel => exact HI2
  case rest =>
  have HI6 := hcut
  clear hcut HI5 d1 d2
  go_wp2_with fail
  refine (num7 1 (by decide) (by decide) _ r g s t5 HI6.out.rd).mono ?_
  rintro ex w7 ⟨rfl, h7, k7⟩
  rw [← HT6.out] at h7; rw [← HN.out]
  have HI7 := Lib.hid (HI6.out.two h7 k7); clear h7 k7 HI6
  go_wp2_with fail
  refine (test7e _ r g s t6 7 (decide (0 < (N : Int))) _ ?_ HI7.out.rd).mono ?_
  first | rfl | (rw [Bool.eq_iff_iff]; simp only [Bool.false_eq_true, decide_eq_true_eq, false_iff, true_iff]; omega)
  rintro ex w8 ⟨rfl, h8, k8⟩
  rw [← HT7.out] at h8
  have HI8 := Lib.hid (HI7.out.two h8 k8); clear h8 k8 HI7
  go_wp2_with fail
  refine (test7e _ r g s t7 12 (decide ((N : Int) ≤ 4)) _ ?_ HI8.out.rd).mono ?_
  first | rfl | (rw [Bool.eq_iff_iff]; simp only [Bool.false_eq_true, decide_eq_true_eq, false_iff, true_iff]; omega)
  rintro ex w9 ⟨rfl, h9, k9⟩
  rw [← HT8.out] at h9
  have HI9 := Lib.hid (HI8.out.two h9 k9); clear h9 k9 HI8
  go_upto_block 0 with fail
  go_cut [] (fun wx => Hid (∃ v, FrI w r g w4.heap.size s c hh ww v p2.2 p2.1 wx))
  case rest =>
    obtain ⟨v, hI⟩ := hcut.out
    obtain ⟨A, n1, cp, rfl⟩ := hI.ow.form2
    have HI := Lib.hid hI
    have e0 : wc.cell? ⟨w4.heap.size, 0, none⟩ = some (.int .i64 c) := hI.fr.cell 0
    have e1 : wc.cell? ⟨w4.heap.size, 1, none⟩ = some (.int .i64 hh) := hI.fr.cell 1
    have e2 : wc.cell? ⟨w4.heap.size, 2, none⟩ = some (.int .i64 ww) := hI.fr.cell 2
    have e3 : wc.cell? ⟨w4.heap.size, 3, none⟩ = some (.slice A n1 cp) := hI.fr.cell 3
    clear hI hcut
    go_wp2_with fail
    go_ret
    rw [HR.out]
    exact ⟨_, rfl, HI.out.ow, HI.out.rd, HI.out.tw⟩
  case first =>
  go_wp2_with fail
  go_loopw [7] (fun i wr => ∃ (k : Nat) (v : Value) (l : List Pt) (t : St), k ≤ N ∧ i = .int .i64 k ∧ Hid (FrI w r g w4.heap.size s c hh ww v l t wr) ∧ Hid (ptL s (N - k) (t, l) = p2) ∧ Hid (l.length = k)) (fun i _ => N - (intOf i).toNat)
  case atStart => exact ⟨0, .slice none 0 0, [], t8, by omega, rfl, HI9, Lib.hid HP2.out.symm, Lib.hid rfl⟩
  case round =>
    obtain ⟨k, v, l, t, hk, rfl, HI, HP, HL⟩ := hrel
    by_cases hlt : k < N
    case neg =>
      have hxe : (t, l) = p2 := by rw [← HP.out, show N - k = 0 by omega]; rfl
      have HX := Lib.hid hxe; clear hxe
      go_wp2_with fail
      go_meet
      case rel => exact Lib.hid ⟨v, by rw [← HX.out]; exact HI.out⟩
    case pos =>
    by_cases he : t.e = 0
    case neg =>
      have hee : wr.cell? ⟨r, 1, none⟩ = some (.int .i64 t.e) := HI.out.rd.ec
      have hef : (t.e == 0) = false := by simpa using he
      have hxe : (t, l) = p2 := by rw [← HP.out, ptL_bad _ _ _ he]
      have HX := Lib.hid hxe; clear hxe he
      go_wp2_with fail
      go_meet
      case rel => exact Lib.hid ⟨v, by rw [← HX.out]; exact HI.out⟩
    case pos =>
    have hee : wr.cell? ⟨r, 1, none⟩ = some (.int .i64 0) := he ▸ HI.out.rd.ec
    have HE := Lib.hid he; clear he
    have hlb : l.length ≤ 255 := by rw [HL.out]; omega
    obtain ⟨id, hid⟩ : ∃ n, n = nV s 1 t := ⟨_, rfl⟩
    obtain ⟨u1, hu1⟩ : ∃ x, x = nS s 1 t := ⟨_, rfl⟩
    obtain ⟨bb, hbb⟩ : ∃ n, n = nV s 1 u1 := ⟨_, rfl⟩
    obtain ⟨u2, hu2⟩ : ∃ t, t = nS s 1 u1 := ⟨_, rfl⟩
    obtain ⟨x, hx⟩ : ∃ x, x = bb / 16 := ⟨_, rfl⟩
    obtain ⟨y, hy⟩ : ∃ y, y = bb % 16 := ⟨_, rfl⟩
    obtain ⟨u3, hu3⟩ : ∃ t, t = tS u2 (decide (1 ≤ x ∧ x ≤ 4 ∧ 1 ≤ y ∧ y ≤ 4)) 7 := ⟨_, rfl⟩
    obtain ⟨q, hq⟩ : ∃ n, n = nV s 1 u3 := ⟨_, rfl⟩
    obtain ⟨u4, hu4⟩ : ∃ x, x = nS s 1 u3 := ⟨_, rfl⟩
    obtain ⟨u5, hu5⟩ : ∃ x, x = tS u4 (decide (q ≤ 3)) 7 := ⟨_, rfl⟩
    obtain ⟨u6, hu6⟩ : ∃ t, t = idT 7 id (l.map Pt.id) u5 := ⟨_, rfl⟩
    have hst : ptL s (N - (k + 1)) (u6, l ++ [⟨id, x, y, q⟩]) = p2 := by
      rw [← HP.out, show N - k = (N - (k + 1)) + 1 by omega, ptL, if_pos HE.out, pt1]
      simp only [← hid, ← hu1, ← hbb, ← hu2, ← hx, ← hy, ← hu3, ← hq, ← hu4, ← hu5, ← hu6]
    have HST := Lib.hid hst; have HID := Lib.hid hid; have HU1 := Lib.hid hu1; have HBB := Lib.hid hbb; have HU2 := Lib.hid hu2; have HX := Lib.hid hx; have HYY := Lib.hid hy; have HU3 := Lib.hid hu3; have HQ := Lib.hid hq; have HU4 := Lib.hid hu4; have HU5 := Lib.hid hu5; have HU6 := Lib.hid hu6
    clear hst hid hu1 hbb hu2 hx hy hu3 hq hu4 hu5 hu6
    go_wp2_with fail
    refine (num7 1 (by decide) (by decide) _ r g s t HI.out.rd).mono ?_
    rintro ex w3 ⟨rfl, h3, k3⟩
    rw [← HU1.out] at h3; rw [← HID.out]
    have hP3 : FrP w (w3.alloc (.cells #[.int .i64 id, .int .i64 0, .int .i64 0, .int .i64 0] 150)) w3.heap.size v ⟨id, 0, 0, 0⟩ := ⟨Blk.new _ _ _, (HI.out.ow.keep (k3.keepT HI.out.rd (by decide) (by decide))).ne (Nat.le_refl _), (HI.out.tw.trans k3).size⟩
    have HI3 := Lib.hid ((HI.out.two h3 k3).alloc (.cells #[.int .i64 id, .int .i64 0, .int .i64 0, .int .i64 0] 150)); have HP3 := Lib.hid hP3
    clear h3 k3 hP3 hee
    go_wp2_with fail
    refine (halves7 _ r g s u1 HI3.out.rd).mono ?_
    rintro ex w5 ⟨rfl, h5, k5⟩
    rw [← HU2.out] at h5; rw [← HBB.out, ← HX.out, ← HYY.out]
    have HI5 := Lib.hid (HI3.out.two h5 k5); have HP5 := Lib.hid (HP3.out.two HI3.out k5)
    have hf1 := Blk.frozen HP5.out.pt 1; have hf2 := Blk.frozen HP5.out.pt 2
    have c51 : w5.cell? ⟨w3.heap.size, 1, none⟩ = some (.int .i64 0) := HP5.out.pt.cell 1; have c52 : w5.cell? ⟨w3.heap.size, 2, none⟩ = some (.int .i64 0) := HP5.out.pt.cell 2
    clear h5 k5
    go_upto_region 13 with fail
    have HI6 := Lib.hid ((HI5.out.set HP5.out 1 (.int .i64 x)).set (HP5.out.set1 x) 2 (.int .i64 y)); have HP6 := Lib.hid ((HP5.out.set1 x).set2 y)
    clear hf1 hf2 c51 c52
    go_cut [] (fun wx => Hid (FrI w r g w4.heap.size s c hh ww v l u3 wx) ∧ Hid (FrP w wx w3.heap.size v ⟨id, x, y, 0⟩))
    case first =>
      have d1 : ((w5.setCell ⟨w3.heap.size, 1, none⟩ (.int .i64 x)).setCell ⟨w3.heap.size, 2, none⟩ (.int .i64 y)).cell? ⟨w3.heap.size, 1, none⟩ = some (.int .i64 x) := HP6.out.pt.cell 1
      have d2 : ((w5.setCell ⟨w3.heap.size, 1, none⟩ (.int .i64 x)).setCell ⟨w3.heap.size, 2, none⟩ (.int .i64 y)).cell? ⟨w3.heap.size, 2, none⟩ = some (.int .i64 y) := HP6.out.pt.cell 2
      go_wp2_with fail
      all_goals
        refine (test7e _ r g s u2 7 (decide (1 ≤ x ∧ x ≤ 4 ∧ 1 ≤ y ∧ y ≤ 4)) _ ?_ HI6.out.rd).mono ?_
        first | rfl | (rw [Bool.eq_iff_iff]; simp only [Bool.false_eq_true, decide_eq_true_eq, false_iff, true_iff]; omega)
        rintro ex w6 ⟨rfl, h2, k2⟩
        rw [← HU3.out] at h2
        have HI7 := Lib.hid (HI6.out.two h2 k2); have HP7 := Lib.hid (HP6.out.two HI6.out k2); clear h2 k2
        go_wp2_with fail
        go_meet
        case rel => exact ⟨HI7, HP7⟩
    case rest =>
    obtain ⟨HI7, HP7⟩ := hcut
    clear HI6 HP6 HI5 HP5 HI3 HP3
    go_wp2_with fail
    refine (num7 1 (by decide) (by decide) _ r g s u3 HI7.out.rd).mono ?_
    rintro ex w8 ⟨rfl, h8, k8⟩
    rw [← HU4.out] at h8; rw [← HQ.out]
    have HI8 := Lib.hid (HI7.out.two h8 k8); have HP8 := Lib.hid (HP7.out.two HI7.out k8); clear h8 k8 HI7 HP7
    have hf3 := Blk.frozen HP8.out.pt 3
    have c83 : w8.cell? ⟨w3.heap.size, 3, none⟩ = some (.int .i64 0) := HP8.out.pt.cell 3
    go_upto_region 15 with fail
    have HI9 := Lib.hid (HI8.out.set HP8.out 3 (.int .i64 q)); have HP9 := Lib.hid (HP8.out.set3 q)
    clear hf3 c83 HI8 HP8
    have c93 : (w8.setCell ⟨w3.heap.size, 3, none⟩ (.int .i64 q)).cell? ⟨w3.heap.size, 3, none⟩ = some (.int .i64 q) := HP9.out.pt.cell 3
    go_wp2_with fail
    refine (test7 _ r g s u4 7 (decide (q ≤ 3)) HI9.out.rd).mono ?_
    rintro ex w9 ⟨rfl, h9, k9⟩
    rw [← HU5.out] at h9
    have HI10 := Lib.hid (HI9.out.two h9 k9); have HP10 := Lib.hid (HP9.out.two HI9.out k9); clear h9 k9 HI9 HP9 c93
    obtain ⟨A, cp, rfl, hcp⟩ := HI10.out.ow.form
    have c10 : w9.cell? ⟨w4.heap.size, 3, none⟩ = some (.slice A l.length cp) := HI10.out.fr.cell 3
    clear hcp
    go_wp2_with fail
    go_loopw [105] (fun j wx => ∃ q1 : Nat, q1 ≤ l.length ∧ j = .int .i64 q1 ∧ Hid (FrI w r g w4.heap.size s c hh ww (.slice A l.length cp) l (idT 7 id ((l.map Pt.id).take q1) u5) wx) ∧ Hid (FrP w wx w3.heap.size (.slice A l.length cp) ⟨id, x, y, q⟩)) (fun j _ => l.length - (intOf j).toNat)
    case atStart => exact ⟨0, by omega, rfl, HI10, HP10⟩
    case round =>
      clear c10
      obtain ⟨q1, hq, rfl, HIq, HPq⟩ := hrel
      by_cases hql : q1 < l.length
      case pos =>
        obtain ⟨g5, rfl, hg5, hg5', hcl⟩ := HIq.out.ow.at_ Pt.is hql
        obtain ⟨y0, hy0⟩ : ∃ y, y = l[q1].id := ⟨_, rfl⟩
        obtain ⟨y1, hy1⟩ : ∃ y, y = l[q1].h := ⟨_, rfl⟩
        obtain ⟨y2, hy2⟩ : ∃ y, y = l[q1].v := ⟨_, rfl⟩
        obtain ⟨y3, hy3⟩ : ∃ y, y = l[q1].q := ⟨_, rfl⟩
        have q0 : wr.cell? ⟨g5, q1 * 4, none⟩ = some (.int .i64 y0) := by rw [hy0]; exact hcl 0 (by decide)
        have q1_ : wr.cell? ⟨g5, q1 * 4 + 1, none⟩ = some (.int .i64 y1) := by rw [hy1]; exact hcl 1 (by decide)
        have q2 : wr.cell? ⟨g5, q1 * 4 + 2, none⟩ = some (.int .i64 y2) := by rw [hy2]; exact hcl 2 (by decide)
        have q3 : wr.cell? ⟨g5, q1 * 4 + 3, none⟩ = some (.int .i64 y3) := by rw [hy3]; exact hcl 3 (by decide)
        have hp0 : wr.cell? ⟨w3.heap.size, 0, none⟩ = some (.int .i64 id) := HPq.out.pt.cell 0
        have h6 := HPq.out.pt.lt
        have HY := Lib.hid hy0
        clear hy0 hy1 hy2 hy3 hcl
        obtain ⟨v4, hv4⟩ : ∃ t, t = idT 7 id ((l.map Pt.id).take q1) u5 := ⟨_, rfl⟩
        rw [← hv4] at HIq
        have HV4 := Lib.hid hv4; clear hv4
        go_wp2_with (go_at_call 34; refine (test7 _ r g s v4 7 (y0 != id) (HIq.out.rd.alloc _)).mono ?_; rintro ex w5 ⟨rfl, h5, k5⟩; have HI5 := Lib.hid ((HIq.out.alloc (.cells #[.int .i64 y0, .int .i64 y1, .int .i64 y2, .int .i64 y3] 150)).two h5 k5); have HP5 : Hid (FrP w w5 w3.heap.size (.slice (some ⟨g5, 0, none⟩) l.length cp) ⟨id, x, y, q⟩) := Lib.hid ((FrP.mk (HPq.out.pt.alloc _) HPq.out.ne HPq.out.lt).two (HIq.out.alloc _) k5); clear h5 k5)
        go_roundw
        case rel => exact ⟨q1 + 1, by omega, by go_num, by rw [idT_takeP 7 id l u5 q1 hql, ← HV4.out, ← HY.out]; exact HI5, HP5⟩
        case measure => simp [intOf]; omega
      case neg =>
        obtain rfl : q1 = l.length := by omega
        rw [List.take_of_length_le (by simp), ← HU6.out] at HIq
        have e0 : wr.cell? ⟨w4.heap.size, 3, none⟩ = some (.slice A l.length cp) := HIq.out.fr.cell 3
        have d0 : wr.cell? ⟨w3.heap.size, 0, none⟩ = some (.int .i64 id) := HPq.out.pt.cell 0
        have d1 : wr.cell? ⟨w3.heap.size, 1, none⟩ = some (.int .i64 x) := HPq.out.pt.cell 1
        have d2 : wr.cell? ⟨w3.heap.size, 2, none⟩ = some (.int .i64 y) := HPq.out.pt.cell 2
        have d3 : wr.cell? ⟨w3.heap.size, 3, none⟩ = some (.int .i64 q) := HPq.out.pt.cell 3
        go_wp2_with (at_builtin; refine appC (q := 4) (by_ := 32) (cs := #[.int .i64 id, .int .i64 x, .int .i64 y, .int .i64 q]) ⟨id, x, y, q⟩ Pt.is Tryd.underlying121 (by kernel_rfl) (by decide) (by decide) rfl (.tmp 118) (.tmp 120) rfl rfl rfl rfl HIq.out.ow (by omega) HIq.out.tw.size ?_; intro v8 w8 hO8 hk8 hb8; obtain ⟨A8, n8, cp8, rfl⟩ := hO8.form2; have HS8 := Lib.hid (hk8 _ _ _ (by decide) HIq.out.fr); have e8 : w8.cell? ⟨w4.heap.size, 3, none⟩ = some (.slice A l.length cp) := HS8.out.cell 3; have f8 := HS8.out.frozen 3; have HO8 := Lib.hid hO8; have HK8 := Lib.hid hk8; have HB8 := Lib.hid hb8; clear hO8 hk8 hb8)
        have hR8 := HIq.out.rd.keepT HK8.out (by decide) (by decide)
        have hI9 : FrI w r g w4.heap.size s c hh ww (.slice A8 n8 cp8) (l ++ [⟨id, x, y, q⟩]) u6 (w8.setCell ⟨w4.heap.size, 3, none⟩ (.slice A8 n8 cp8)) :=
          ⟨hR8.set (HS8.out.ne hR8.1 (by decide)) (HS8.out.ne hR8.2.1 (by decide)) _, HS8.out.set_ 3 (.slice A8 n8 cp8), HO8.out.set (HO8.out.neT HS8.out (by decide)) _, (HIq.out.tw.bel HB8.out).set HIq.out.bb _, HIq.out.bb⟩
        have HI9 := Lib.hid hI9; clear hI9 hR8
        go_wp2_with fail
        go_roundw
        case rel => exact ⟨k + 1, (.slice A8 n8 cp8), _, u6, by omega, by go_num, HI9, HST, Lib.hid (by rw [List.length_append, HL.out]; rfl)⟩
        case measure => simp [intOf]; omega
end Go.Proofs.YthibnhgbgmpjoaaDoor

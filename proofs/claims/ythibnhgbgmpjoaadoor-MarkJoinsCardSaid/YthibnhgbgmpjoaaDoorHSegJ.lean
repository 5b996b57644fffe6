/- The reader's scan. No condition. -/
import Derived.Test.YthibnhgbgmpjoaaDoorHSegI
import Derived.Test.YthibnhgbgmpjoaaDoorHOwnC
import Derived.Deep.DeepCutAuto
import Derived.Deep.CutBlock
namespace Go.Proofs.YthibnhgbgmpjoaaDoor
open Go.RowKit
set_option linter.unusedSimpArgs false
set_option linter.unusedVariables false
set_option maxRecDepth 100000
structure Pk where
  id : Int
  dc : Int
  ac : Int
def Pk.cells (p : Pk) : List Value := [.int .i64 p.id, .int .i64 p.dc, .int .i64 p.ac]
theorem Pk.is : CellsOf Pk.cells 3 := ⟨fun _ => rfl, fun x u hu => by simp only [Pk.cells, List.mem_cons, List.not_mem_nil, or_false] at hu; rcases hu with rfl | rfl | rfl <;> rfl⟩
/-- Whether a number is none of these, in order. -/
def idT (x id : Int) (l : List Int) (t : St) : St := l.foldl (fun t y => tS t (y != id) x) t
theorem idT_snoc (x id : Int) (l : List Int) (t : St) (y : Int) : idT x id (l ++ [y]) t = tS (idT x id l t) (y != id) x := by simp [idT]
/-- One component of a scan. -/
def pk1 (s : ByteArray) (p : St × List Pk) : St × List Pk :=
  let id := nV s 1 p.1
  let t2 := idT 8 id (p.2.map Pk.id) (nS s 1 p.1)
  let b := nV s 1 t2
  (tS (nS s 1 t2) (decide (b / 16 ≤ 3 ∧ b % 16 ≤ 3)) 8, p.2 ++ [⟨id, b / 16, b % 16⟩])
def pkL (s : ByteArray) : Nat → St × List Pk → St × List Pk
  | 0, p => p
  | k + 1, p => if p.1.e = 0 then pkL s k (pk1 s p) else p
theorem pkL_bad (s : ByteArray) (k : Nat) (p : St × List Pk) (h : p.1.e ≠ 0) : pkL s k p = p := by cases k <;> simp [pkL, h]
structure ScR where
  t : St
  l : List Pk
  a : Int
  b : Int
  hi : Int
  lo : Int
/-- A scan's beginning, read. -/
def scR (s : ByteArray) (t0 : St) : ScR :=
  let n := nV s 1 t0
  let p := pkL s n.toNat (tS (nS s 1 t0) (decide (1 ≤ n ∧ n ≤ 4)) 8, [])
  let a := nV s 1 p.1
  let t2 := nS s 1 p.1
  let b := nV s 1 t2
  let t3 := nS s 1 t2
  let h := nV s 1 t3
  ⟨tS (nS s 1 t3) (decide (a ≤ b ∧ b ≤ 63 ∧ h / 16 ≤ 13 ∧ h % 16 ≤ 13)) 8, p.2, a, b, h / 16, h % 16⟩
def ScanPost (w : World) (r g : Nat) (s : ByteArray) (R : ScR) (e : Ending) (w' : World) : Prop :=
  ∃ v, e = .returned (.iface 105 (.agg #[v, .int .i64 R.a, .int .i64 R.b, .int .i64 R.hi, .int .i64 R.lo])) ∧ OwnC Pk.cells 3 w' w.heap.size 146 v R.l ∧ Rd7 w' r g s R.t ∧ Two g r w w'
/-- What a round of scan stands on. -/
structure ScI (w : World) (r g : Nat) (s : ByteArray) (v : Value) (l : List Pk) (t : St) (wr : World) : Prop where
  rd : Rd7 wr r g s t
  sc : Blk wr w.heap.size 105 #[v, .int .i64 0, .int .i64 0, .int .i64 0, .int .i64 0]
  ow : OwnC Pk.cells 3 wr w.heap.size 146 v l
  tw : Two g r w wr
theorem ScI.two {w wr w' : World} {r g : Nat} {s : ByteArray} {v : Value} {l : List Pk} {t t' : St} (h : ScI w r g s v l t wr) (hr : Rd7 w' r g s t') (h2 : Two g r wr w') : ScI w r g s v l t' w' :=
  ⟨hr, h2.keepT h.rd (by decide) (by decide) _ _ h.sc, h.ow.keep (h2.keepT h.rd (by decide) (by decide)), h.tw.trans h2⟩
theorem ScI.alloc {w wr : World} {r g : Nat} {s : ByteArray} {v : Value} {l : List Pk} {t : St} (h : ScI w r g s v l t wr) (o : Obj) : ScI w r g s v l t (wr.alloc o) :=
  ⟨h.rd.alloc o, h.sc.alloc o, h.ow.bel ((Below.refl _ _).alloc (Nat.le_refl _) o), h.tw.alloc o⟩
theorem ScI.set {w wr : World} {r g : Nat} {s : ByteArray} {v : Value} {l : List Pk} {t : St} (h : ScI w r g s v l t wr) {p : Addr} (h1 : p.block ≠ r) (h2 : p.block ≠ g) (h3 : w.heap.size < p.block) (h4 : v.ownBlock ≠ some p.block) (u : Value) : ScI w r g s v l t (wr.setCell p u) :=
  ⟨h.rd.set h1 h2 u, h.sc.far (by omega) u, h.ow.set h4 u, h.tw.set (by omega) u⟩
theorem ScI.lt {w wr : World} {r g : Nat} {s : ByteArray} {v : Value} {l : List Pk} {t : St} (h : ScI w r g s v l t wr) : w.heap.size < wr.heap.size := h.sc.lt
/-- Behind the components. -/
structure ScQ (w : World) (r g : Nat) (s : ByteArray) (v : Value) (l : List Pk) (a b c d : Int) (t : St) (wr : World) : Prop where
  rd : Rd7 wr r g s t
  sc : Blk wr w.heap.size 105 #[v, .int .i64 a, .int .i64 b, .int .i64 c, .int .i64 d]
  ow : OwnC Pk.cells 3 wr w.heap.size 146 v l
  tw : Two g r w wr
theorem ScI.q {w wr : World} {r g : Nat} {s : ByteArray} {v : Value} {l : List Pk} {t : St} (h : ScI w r g s v l t wr) : ScQ w r g s v l 0 0 0 0 t wr := ⟨h.rd, h.sc, h.ow, h.tw⟩
theorem ScQ.two {w wr w' : World} {r g : Nat} {s : ByteArray} {v : Value} {l : List Pk} {a b c d : Int} {t t' : St} (h : ScQ w r g s v l a b c d t wr) (hr : Rd7 w' r g s t') (h2 : Two g r wr w') : ScQ w r g s v l a b c d t' w' :=
  ⟨hr, h2.keepT h.rd (by decide) (by decide) _ _ h.sc, h.ow.keep (h2.keepT h.rd (by decide) (by decide)), h.tw.trans h2⟩
theorem ScQ.rdS {w wr : World} {r g : Nat} {s : ByteArray} {v : Value} {l : List Pk} {a b c d : Int} {t : St} (h : ScQ w r g s v l a b c d t wr) (i : Nat) (u : Value) : Rd7 (wr.setCell ⟨w.heap.size, i, none⟩ u) r g s t ∧ OwnC Pk.cells 3 (wr.setCell ⟨w.heap.size, i, none⟩ u) w.heap.size 146 v l ∧ Two g r w (wr.setCell ⟨w.heap.size, i, none⟩ u) :=
  ⟨h.rd.set (h.sc.ne h.rd.1 (by decide)) (h.sc.ne h.rd.2.1 (by decide)) _, h.ow.set (h.ow.neT h.sc (by decide)) _, h.tw.set (Nat.le_refl _) _⟩
theorem ScQ.set1 {w wr : World} {r g : Nat} {s : ByteArray} {v : Value} {l : List Pk} {a b c d : Int} {t : St} (h : ScQ w r g s v l a b c d t wr) (x : Int) : ScQ w r g s v l x b c d t (wr.setCell ⟨w.heap.size, 1, none⟩ (.int .i64 x)) := ⟨(h.rdS 1 _).1, h.sc.set_ 1 _, (h.rdS 1 _).2.1, (h.rdS 1 _).2.2⟩
theorem ScQ.set2 {w wr : World} {r g : Nat} {s : ByteArray} {v : Value} {l : List Pk} {a b c d : Int} {t : St} (h : ScQ w r g s v l a b c d t wr) (x : Int) : ScQ w r g s v l a x c d t (wr.setCell ⟨w.heap.size, 2, none⟩ (.int .i64 x)) := ⟨(h.rdS 2 _).1, h.sc.set_ 2 _, (h.rdS 2 _).2.1, (h.rdS 2 _).2.2⟩
theorem ScQ.set3 {w wr : World} {r g : Nat} {s : ByteArray} {v : Value} {l : List Pk} {a b c d : Int} {t : St} (h : ScQ w r g s v l a b c d t wr) (x : Int) : ScQ w r g s v l a b x d t (wr.setCell ⟨w.heap.size, 3, none⟩ (.int .i64 x)) := ⟨(h.rdS 3 _).1, h.sc.set_ 3 _, (h.rdS 3 _).2.1, (h.rdS 3 _).2.2⟩
theorem ScQ.set4 {w wr : World} {r g : Nat} {s : ByteArray} {v : Value} {l : List Pk} {a b c d : Int} {t : St} (h : ScQ w r g s v l a b c d t wr) (x : Int) : ScQ w r g s v l a b c x t (wr.setCell ⟨w.heap.size, 4, none⟩ (.int .i64 x)) := ⟨(h.rdS 4 _).1, h.sc.set_ 4 _, (h.rdS 4 _).2.1, (h.rdS 4 _).2.2⟩
/-- The component that is read. -/
structure ScP (wr : World) (b : Nat) (r g : Nat) (v : Value) (p : Pk) : Prop where
  pk : Blk wr b 146 #[.int .i64 p.id, .int .i64 p.dc, .int .i64 p.ac]
  ne : v.ownBlock ≠ some b
theorem ScP.two {w wr w' : World} {b r g : Nat} {s : ByteArray} {v : Value} {l : List Pk} {t : St} {p : Pk} (h : ScP wr b r g v p) (hI : ScI w r g s v l t wr) (h2 : Two g r wr w') : ScP w' b r g v p :=
  ⟨h2.keepT hI.rd (by decide) (by decide) _ _ h.pk, h.ne⟩
theorem pkA (a b c : Int) : (#[Value.int .i64 a, .int .i64 b, .int .i64 c] : Array Value).toList = Pk.cells ⟨a, b, c⟩ := rfl
theorem idT_take (x id : Int) (l : List Pk) (t : St) (j : Nat) (hj : j < l.length) : idT x id ((l.map Pk.id).take (j + 1)) t = tS (idT x id ((l.map Pk.id).take j) t) (l[j].id != id) x := by
  rw [List.take_succ_eq_append_getElem (by simpa using hj), idT_snoc]
  simp
set_option maxHeartbeats 4000000 in
theorem scan_walk (w : World) (r g : Nat) (s : ByteArray) (t0 : St) (h : Rd7 w r g s t0) :
    Calls Tryd.prog 30 #[.pointer (some ⟨r, 0, none⟩)] w (ScanPost w r g s (scR s t0)) := by
  have H := Lib.hid h; clear h
  obtain ⟨n, hn⟩ : ∃ n, n = nV s 1 t0 := ⟨_, rfl⟩
  obtain ⟨t1, ht1⟩ : ∃ t, t = nS s 1 t0 := ⟨_, rfl⟩
  have hnb : 0 ≤ n ∧ n < 256 := hn ▸ nV_bd s t0
  obtain ⟨N, rfl⟩ := Int.eq_ofNat_of_zero_le hnb.1
  have hN : N < 256 := by omega
  have HN := Lib.hid hn; have HT1 := Lib.hid ht1; clear hn ht1 hnb
  obtain ⟨t2, ht2⟩ : ∃ t, t = tS t1 (decide (1 ≤ (N : Int) ∧ (N : Int) ≤ 4)) 8 := ⟨_, rfl⟩
  have HT2 := Lib.hid ht2; clear ht2
  have hI0 : ScI w r g s (.slice none 0 0) [] t0 (w.alloc (.cells #[.slice none 0 0, .int .i64 0, .int .i64 0, .int .i64 0, .int .i64 0] 105)) := ⟨H.out.alloc _, Blk.new _ _ _, OwnC.nil _ _ _, (Two.refl g r w).alloc _⟩
  have HI0 := Lib.hid hI0; clear hI0
  go_enter Tryd.func30, Tryd.ntmps30
  go_upto_region 3 with (first | (go_at_call 31; refine (num7 1 (by decide) (by decide) _ r g s t0 HI0.out.rd).mono ?_; rintro ex w1 ⟨rfl, h1, k1⟩; rw [← HT1.out] at h1; rw [← HN.out]; have HI1 := Lib.hid (HI0.out.two h1 k1); clear h1 k1))
  go_cut [] (fun wx => Hid (ScI w r g s (.slice none 0 0) [] t2 wx))
  case first =>
    go_wp2_with fail
    all_goals
      refine (test7e _ r g s t1 8 (decide (1 ≤ (N : Int) ∧ (N : Int) ≤ 4)) _ ?_ HI1.out.rd).mono ?_
      rw [Bool.eq_iff_iff]; simp only [Bool.false_eq_true, decide_eq_true_eq, false_iff, true_iff]; omega
      rintro ex w2 ⟨rfl, h2, k2⟩
      rw [← HT2.out] at h2
      have HI2 := Lib.hid (HI1.out.two h2 k2); clear h2 k2
      go_wp2_with fail
      go_meet
      case rel => exact HI2
  case rest =>
    have HI2 := hcut
    clear hcut HI1 HI0
    obtain ⟨p2, hp2⟩ : ∃ p, p = pkL s N (t2, []) := ⟨_, rfl⟩
    have HP2 := Lib.hid hp2; clear hp2
    go_upto_block 0 with fail
    go_cut [] (fun wx => Hid (∃ v, ScI w r g s v p2.2 p2.1 wx))
    case rest =>
      obtain ⟨v, hI⟩ := hcut.out
      obtain ⟨t7, l7⟩ := p2
      have HI : Hid (ScQ w r g s v l7 0 0 0 0 t7 wc) := Lib.hid hI.q
      clear hcut hI HI2
      obtain ⟨a, ha⟩ : ∃ n, n = nV s 1 t7 := ⟨_, rfl⟩
      obtain ⟨t8, ht8⟩ : ∃ t, t = nS s 1 t7 := ⟨_, rfl⟩
      obtain ⟨b, hb⟩ : ∃ n, n = nV s 1 t8 := ⟨_, rfl⟩
      obtain ⟨t9, ht9⟩ : ∃ t, t = nS s 1 t8 := ⟨_, rfl⟩
      obtain ⟨h, hh⟩ : ∃ n, n = nV s 1 t9 := ⟨_, rfl⟩
      obtain ⟨t10, ht10⟩ : ∃ t, t = nS s 1 t9 := ⟨_, rfl⟩
      obtain ⟨x, hx⟩ : ∃ x, x = h / 16 := ⟨_, rfl⟩
      obtain ⟨y, hy⟩ : ∃ y, y = h % 16 := ⟨_, rfl⟩
      obtain ⟨t11, ht11⟩ : ∃ t, t = tS t10 (decide (a ≤ b ∧ b ≤ 63 ∧ x ≤ 13 ∧ y ≤ 13)) 8 := ⟨_, rfl⟩
      have hR : scR s t0 = ⟨t11, l7, a, b, x, y⟩ := by
        have h2 : ((t7, l7) : St × List Pk) = pkL s (nV s 1 t0).toNat (tS (nS s 1 t0) (decide (1 ≤ nV s 1 t0 ∧ nV s 1 t0 ≤ 4)) 8, []) := by
          rw [HP2.out, HT2.out, HT1.out, ← HN.out]; simp
        rw [scR, ← h2]
        simp only [ht11, hx, hy, hh, ht10, ht9, hb, ht8, ha]
      have HR := Lib.hid hR
      have HA := Lib.hid ha; have HT8 := Lib.hid ht8; have HBb := Lib.hid hb; have HT9 := Lib.hid ht9; have HH := Lib.hid hh; have HT10 := Lib.hid ht10; have HX := Lib.hid hx; have HY := Lib.hid hy; have HT11 := Lib.hid ht11
      clear ha ht8 hb ht9 hh ht10 hx hy ht11 hR
      go_wp2_with fail
      refine (num7 1 (by decide) (by decide) _ r g s t7 HI.out.rd).mono ?_
      rintro ex w3 ⟨rfl, h3, k3⟩
      rw [← HT8.out] at h3; rw [← HA.out]
      have HI3 := Lib.hid (HI.out.two h3 k3); clear h3 k3
      go_wp2_with fail
      refine (num7 1 (by decide) (by decide) _ r g s t8 HI3.out.rd).mono ?_
      rintro ex w4 ⟨rfl, h4, k4⟩
      rw [← HT9.out] at h4; rw [← HBb.out]
      have HI4 := Lib.hid (HI3.out.two h4 k4); clear h4 k4
      have c1 : w4.cell? ⟨w.heap.size, 1, none⟩ = some (.int .i64 0) := HI4.out.sc.cell 1
      have c2 : w4.cell? ⟨w.heap.size, 2, none⟩ = some (.int .i64 0) := HI4.out.sc.cell 2
      have f1 := HI4.out.sc.frozen 1
      have f2 := HI4.out.sc.frozen 2
      go_upto_region 17 with fail
      clear c1 c2 f1 f2
      have HI5 := Lib.hid ((HI4.out.set1 a).set2 b)
      go_wp2_with fail
      refine (halves7 _ r g s t9 HI5.out.rd).mono ?_
      rintro ex w6 ⟨rfl, h6, k6⟩
      rw [← HT10.out] at h6; rw [← HH.out, ← HX.out, ← HY.out]
      have HI6 := Lib.hid (HI5.out.two h6 k6); clear h6 k6
      have c1 : w6.cell? ⟨w.heap.size, 3, none⟩ = some (.int .i64 0) := HI6.out.sc.cell 3
      have c2 : w6.cell? ⟨w.heap.size, 4, none⟩ = some (.int .i64 0) := HI6.out.sc.cell 4
      have f1 := HI6.out.sc.frozen 3
      have f2 := HI6.out.sc.frozen 4
      go_upto_region 18 with fail
      clear c1 c2 f1 f2
      have HI7 := Lib.hid ((HI6.out.set3 x).set4 y)
      go_cut [] (fun wx => Hid (ScQ w r g s v l7 a b x y t11 wx))
      case first =>
        have d1 : ((w6.setCell ⟨w.heap.size, 3, none⟩ (.int .i64 x)).setCell ⟨w.heap.size, 4, none⟩ (.int .i64 y)).cell? ⟨w.heap.size, 1, none⟩ = some (.int .i64 a) := HI7.out.sc.cell 1
        have d2 : ((w6.setCell ⟨w.heap.size, 3, none⟩ (.int .i64 x)).setCell ⟨w.heap.size, 4, none⟩ (.int .i64 y)).cell? ⟨w.heap.size, 2, none⟩ = some (.int .i64 b) := HI7.out.sc.cell 2
        have d3 : ((w6.setCell ⟨w.heap.size, 3, none⟩ (.int .i64 x)).setCell ⟨w.heap.size, 4, none⟩ (.int .i64 y)).cell? ⟨w.heap.size, 3, none⟩ = some (.int .i64 x) := HI7.out.sc.cell 3
        have d4 : ((w6.setCell ⟨w.heap.size, 3, none⟩ (.int .i64 x)).setCell ⟨w.heap.size, 4, none⟩ (.int .i64 y)).cell? ⟨w.heap.size, 4, none⟩ = some (.int .i64 y) := HI7.out.sc.cell 4
        go_wp2_with fail
        all_goals
          refine (test7e _ r g s t10 8 (decide (a ≤ b ∧ b ≤ 63 ∧ x ≤ 13 ∧ y ≤ 13)) _ ?_ HI7.out.rd).mono ?_
          rw [Bool.eq_iff_iff]; simp only [Bool.false_eq_true, decide_eq_true_eq, false_iff, true_iff]; omega
          rintro ex w8 ⟨rfl, h2, k2⟩
          rw [← HT11.out] at h2
          have HI8 := Lib.hid (HI7.out.two h2 k2); clear h2 k2
          go_wp2_with fail
          go_meet
          case rel => exact HI8
      case rest =>
        have e0 := hcut.out.sc.cell 0
        have e1 := hcut.out.sc.cell 1
        have e2 := hcut.out.sc.cell 2
        have e3 := hcut.out.sc.cell 3
        have e4 := hcut.out.sc.cell 4
        simp only [List.getElem?_toArray, List.getElem?_cons_zero, List.getElem?_cons_succ] at e0 e1 e2 e3 e4
        go_wp2_with fail
        go_ret
        rw [HR.out]
        exact ⟨v, rfl, hcut.out.ow, hcut.out.rd, hcut.out.tw⟩
    case first =>
    go_wp2_with fail
    go_loopw [5] (fun i wr => ∃ (k : Nat) (v : Value) (l : List Pk) (t : St), k ≤ N ∧ i = .int .i64 k ∧ Hid (ScI w r g s v l t wr) ∧ Hid (pkL s (N - k) (t, l) = p2) ∧ Hid (l.length = k)) (fun i _ => N - (intOf i).toNat)
    case atStart => exact ⟨0, .slice none 0 0, [], t2, by omega, rfl, HI2, Lib.hid HP2.out.symm, Lib.hid rfl⟩
    case round =>
      obtain ⟨k, v, l, t, hk, rfl, HI, HP, HL⟩ := hrel
      by_cases hlt : k < N
      case neg =>
        have hxe : (t, l) = p2 := by rw [← HP.out, show N - k = 0 by omega]; rfl
        have HX := Lib.hid hxe; clear hxe
        go_wp2_with fail
        go_meet
        case rel => exact Lib.hid ⟨v, by rw [← HX.out]; exact HI.out⟩
      case pos =>
      by_cases he : t.e = 0
      case neg =>
        have hee : wr.cell? ⟨r, 1, none⟩ = some (.int .i64 t.e) := HI.out.rd.ec
        have hef : (t.e == 0) = false := by simpa using he
        have hxe : (t, l) = p2 := by rw [← HP.out, pkL_bad _ _ _ he]
        have HX := Lib.hid hxe; clear hxe he
        go_wp2_with fail
        go_meet
        case rel => exact Lib.hid ⟨v, by rw [← HX.out]; exact HI.out⟩
      case pos =>
      have hee : wr.cell? ⟨r, 1, none⟩ = some (.int .i64 0) := he ▸ HI.out.rd.ec
      have HE := Lib.hid he; clear he
      have hlb : l.length ≤ 255 := by rw [HL.out]; omega
      obtain ⟨id, hid⟩ : ∃ n, n = nV s 1 t := ⟨_, rfl⟩
      obtain ⟨t3, ht3⟩ : ∃ x, x = nS s 1 t := ⟨_, rfl⟩
      have HID := Lib.hid hid; have HT3 := Lib.hid ht3; clear hid ht3
      go_wp2_with (first | (go_at_call 31; refine (num7 1 (by decide) (by decide) _ r g s t HI.out.rd).mono ?_; rintro ex w3 ⟨rfl, h3, k3⟩; rw [← HT3.out] at h3; rw [← HID.out]; have h7 := (HI.out.two h3 k3).lt; have HI3 := Lib.hid ((HI.out.two h3 k3).alloc (.cells #[.int .i64 id, .int .i64 0, .int .i64 0] 146)); obtain ⟨A, cp, rfl, hcp⟩ := HI3.out.ow.form; have c30 : (w3.alloc (.cells #[.int .i64 id, .int .i64 0, .int .i64 0] 146)).cell? ⟨w.heap.size, 0, none⟩ = some (.slice A l.length cp) := HI3.out.sc.cell 0; have HP3 : Hid (ScP (w3.alloc (.cells #[.int .i64 id, .int .i64 0, .int .i64 0] 146)) w3.heap.size r g (.slice A l.length cp) ⟨id, 0, 0⟩) := Lib.hid ⟨Blk.new _ _ _, (HI.out.ow.keep (k3.keepT HI.out.rd (by decide) (by decide))).ne (Nat.le_refl _)⟩; clear h3 k3 hcp hee))
      go_loopw [37] (fun j wx => ∃ q : Nat, q ≤ l.length ∧ j = .int .i64 q ∧ Hid (ScI w r g s (.slice A l.length cp) l (idT 8 id ((l.map Pk.id).take q) t3) wx) ∧ Hid (ScP wx w3.heap.size r g (.slice A l.length cp) ⟨id, 0, 0⟩)) (fun j _ => l.length - (intOf j).toNat)
      case atStart => exact ⟨0, by omega, rfl, HI3, HP3⟩
      case round =>
        clear c30
        obtain ⟨q, hq, rfl, HIq, HPq⟩ := hrel
        by_cases hql : q < l.length
        case pos =>
          obtain ⟨g5, rfl, hg5, hg5', hcl⟩ := HIq.out.ow.at_ Pk.is hql
          obtain ⟨y, hy⟩ : ∃ y, y = l[q].id := ⟨_, rfl⟩
          obtain ⟨y1, hy1⟩ : ∃ y, y = l[q].dc := ⟨_, rfl⟩
          obtain ⟨y2, hy2⟩ : ∃ y, y = l[q].ac := ⟨_, rfl⟩
          have q0 : wr.cell? ⟨g5, q * 3, none⟩ = some (.int .i64 y) := by rw [hy]; exact hcl 0 (by decide)
          have q1 : wr.cell? ⟨g5, q * 3 + 1, none⟩ = some (.int .i64 y1) := by rw [hy1]; exact hcl 1 (by decide)
          have q2 : wr.cell? ⟨g5, q * 3 + 2, none⟩ = some (.int .i64 y2) := by rw [hy2]; exact hcl 2 (by decide)
          have hp0 : wr.cell? ⟨w3.heap.size, 0, none⟩ = some (.int .i64 id) := HPq.out.pk.cell 0
          have h6 := HPq.out.pk.lt
          have HY := Lib.hid hy
          clear hy hy1 hy2 hcl
          obtain ⟨t4, ht4⟩ : ∃ t, t = idT 8 id ((l.map Pk.id).take q) t3 := ⟨_, rfl⟩
          rw [← ht4] at HIq
          have HT4 := Lib.hid ht4; clear ht4
          go_wp2_with (go_at_call 34; refine (test7 _ r g s t4 8 (y != id) (HIq.out.rd.alloc _)).mono ?_; rintro ex w5 ⟨rfl, h5, k5⟩; have HI5 := Lib.hid ((HIq.out.alloc (.cells #[.int .i64 y, .int .i64 y1, .int .i64 y2] 146)).two h5 k5); have HP5 : Hid (ScP w5 w3.heap.size r g (.slice (some ⟨g5, 0, none⟩) l.length cp) ⟨id, 0, 0⟩) := Lib.hid ((ScP.mk (HPq.out.pk.alloc _) HPq.out.ne).two (HIq.out.alloc _) k5); clear h5 k5)
          go_roundw
          case rel => exact ⟨q + 1, by omega, by go_num, by rw [idT_take 8 id l t3 q hql, ← HT4.out, ← HY.out]; exact HI5, HP5⟩
          case measure => simp [intOf]; omega
        case neg =>
          obtain rfl : q = l.length := by omega
          obtain ⟨t4, ht4⟩ : ∃ t, t = idT 8 id (l.map Pk.id) t3 := ⟨_, rfl⟩
          rw [List.take_of_length_le (by simp), ← ht4] at HIq
          have HT4 := Lib.hid ht4; clear ht4
          obtain ⟨bb, hbb⟩ : ∃ n, n = nV s 1 t4 := ⟨_, rfl⟩
          obtain ⟨t5, ht5⟩ : ∃ t, t = nS s 1 t4 := ⟨_, rfl⟩
          have hb0 : 0 ≤ bb ∧ bb < 256 := hbb ▸ nV_bd s t4
          obtain ⟨x, hx⟩ : ∃ x, x = bb / 16 := ⟨_, rfl⟩
          obtain ⟨y, hy⟩ : ∃ y, y = bb % 16 := ⟨_, rfl⟩
          obtain ⟨t6, ht6⟩ : ∃ t, t = tS t5 (decide (x ≤ 3 ∧ y ≤ 3)) 8 := ⟨_, rfl⟩
          have HBB := Lib.hid hbb; have HT5 := Lib.hid ht5; have HX := Lib.hid hx; have HYY := Lib.hid hy; have HT6 := Lib.hid ht6
          clear hbb ht5 hx hy ht6 hb0
          go_upto_region 14 with (go_at_call 52; refine (halves7 _ r g s t4 HIq.out.rd).mono ?_; rintro ex w5 ⟨rfl, h5, k5⟩; rw [← HT5.out] at h5; rw [← HBB.out, ← HX.out, ← HYY.out]; have HI5 := Lib.hid (HIq.out.two h5 k5); have HP5 := Lib.hid (HPq.out.two HIq.out k5); have hf1 := Blk.frozen HP5.out.pk 1; have hf2 := Blk.frozen HP5.out.pk 2; have c51 : w5.cell? ⟨w3.heap.size, 1, none⟩ = some (.int .i64 0) := HP5.out.pk.cell 1; have c52 : w5.cell? ⟨w3.heap.size, 2, none⟩ = some (.int .i64 0) := HP5.out.pk.cell 2; clear h5 k5)
          have hr6 : w3.heap.size ≠ r := HP5.out.pk.ne HI5.out.rd.1 (by decide)
          have hg6 : w3.heap.size ≠ g := HP5.out.pk.ne HI5.out.rd.2.1 (by decide)
          have hI6 := (HI5.out.set (p := ⟨w3.heap.size, 1, none⟩) hr6 hg6 h7 HP5.out.ne (.int .i64 x)).set (p := ⟨w3.heap.size, 2, none⟩) hr6 hg6 h7 HP5.out.ne (.int .i64 y)
          have hP6 : ScP ((w5.setCell ⟨w3.heap.size, 1, none⟩ (.int .i64 x)).setCell ⟨w3.heap.size, 2, none⟩ (.int .i64 y)) w3.heap.size r g (.slice A l.length cp) ⟨id, x, y⟩ := ⟨(HP5.out.pk.set_ 1 _).set_ 2 _, HP5.out.ne⟩
          have HI6 := Lib.hid hI6; have HP6 := Lib.hid hP6
          clear hI6 hP6 hf1 hf2 c51 c52
          go_cut [] (fun wx => Hid (ScI w r g s (.slice A l.length cp) l t6 wx) ∧ Hid (ScP wx w3.heap.size r g (.slice A l.length cp) ⟨id, x, y⟩))
          case first =>
            have d1 : ((w5.setCell ⟨w3.heap.size, 1, none⟩ (.int .i64 x)).setCell ⟨w3.heap.size, 2, none⟩ (.int .i64 y)).cell? ⟨w3.heap.size, 1, none⟩ = some (.int .i64 x) := HP6.out.pk.cell 1
            have d2 : ((w5.setCell ⟨w3.heap.size, 1, none⟩ (.int .i64 x)).setCell ⟨w3.heap.size, 2, none⟩ (.int .i64 y)).cell? ⟨w3.heap.size, 2, none⟩ = some (.int .i64 y) := HP6.out.pk.cell 2
            go_wp2_with fail
            all_goals
              refine (test7e _ r g s t5 8 (decide (x ≤ 3 ∧ y ≤ 3)) _ ?_ HI6.out.rd).mono ?_
              rw [Bool.eq_iff_iff]; simp only [Bool.false_eq_true, decide_eq_true_eq, false_iff, true_iff]; omega
              rintro ex w6 ⟨rfl, h2, k2⟩
              rw [← HT6.out] at h2
              have HI7 := Lib.hid (HI6.out.two h2 k2); have HP7 := Lib.hid (HP6.out.two HI6.out k2); clear h2 k2
              go_wp2_with fail
              go_meet
              case rel => exact ⟨HI7, HP7⟩
          case rest =>
            obtain ⟨HI7, HP7⟩ := hcut
            have e0 : wc.cell? ⟨w.heap.size, 0, none⟩ = some (.slice A l.length cp) := HI7.out.sc.cell 0
            have d0 : wc.cell? ⟨w3.heap.size, 0, none⟩ = some (.int .i64 id) := HP7.out.pk.cell 0
            have d1 : wc.cell? ⟨w3.heap.size, 1, none⟩ = some (.int .i64 x) := HP7.out.pk.cell 1
            have d2 : wc.cell? ⟨w3.heap.size, 2, none⟩ = some (.int .i64 y) := HP7.out.pk.cell 2
            go_wp2_with (at_builtin; refine appC (q := 3) (by_ := 24) (cs := #[.int .i64 id, .int .i64 x, .int .i64 y]) ⟨id, x, y⟩ Pk.is Tryd.underlying103 (by kernel_rfl) (by decide) (by decide) rfl (.tmp 67) (.tmp 69) rfl rfl rfl rfl HI7.out.ow (by omega) HI7.out.tw.size ?_; intro v8 w8 hO8 hk8 hb8; obtain ⟨A8, n8, cp8, rfl⟩ := hO8.form2; have HS8 := Lib.hid (hk8 _ _ _ (by decide) HI7.out.sc); have e8 : w8.cell? ⟨w.heap.size, 0, none⟩ = some (.slice A l.length cp) := HS8.out.cell 0; have f8 := HS8.out.frozen 0; have HO8 := Lib.hid hO8; have HK8 := Lib.hid hk8; have HB8 := Lib.hid hb8; clear hO8 hk8 hb8)
            have hI9 : ScI w r g s (.slice A8 n8 cp8) (l ++ [⟨id, x, y⟩]) t6 (w8.setCell ⟨w.heap.size, 0, none⟩ (.slice A8 n8 cp8)) :=
              ⟨(HI7.out.rd.keepT HK8.out (by decide) (by decide)).set (HS8.out.ne (HI7.out.rd.keepT HK8.out (by decide) (by decide)).1 (by decide)) (HS8.out.ne (HI7.out.rd.keepT HK8.out (by decide) (by decide)).2.1 (by decide)) _, HS8.out.set_ 0 (.slice A8 n8 cp8), HO8.out.set (HO8.out.neT HS8.out (by decide)) _, (HI7.out.tw.bel HB8.out).set (Nat.le_refl _) _⟩
            have HI9 := Lib.hid hI9; clear hI9
            have hst : pkL s (N - (k + 1)) (t6, l ++ [⟨id, x, y⟩]) = p2 := by
              rw [← HP.out, show N - k = (N - (k + 1)) + 1 by omega, pkL, if_pos HE.out]
              rw [pk1, ← HID.out, ← HT3.out, ← HT4.out, ← HBB.out, ← HT5.out, ← HX.out, ← HYY.out, ← HT6.out]
            have HST := Lib.hid hst; clear hst
            go_wp2_with fail
            go_roundw
            case rel => exact ⟨k + 1, (.slice A8 n8 cp8), _, t6, by omega, by go_num, HI9, HST, Lib.hid (by rw [List.length_append, HL.out]; rfl)⟩
            case measure => simp [intOf]; omega
end Go.Proofs.YthibnhgbgmpjoaaDoor

/- The reference's quants. No condition. -/
import Derived.Test.YthibnhgbgmpjoaaDoorHRsA
import Derived.Test.YthibnhgbgmpjoaaDoorHZigB
namespace Go.Proofs.YthibnhgbgmpjoaaDoor
open Go.RowKit
set_option linter.unusedSimpArgs false
set_option linter.unusedVariables false
set_option maxRecDepth 100000
theorem zT_stay {s : ByteArray} {n : Nat} {u : St} (k m : Nat) (h : (zT s n u k).e ≠ 0) (hm : k ≤ m) : (zT s n u m).e = (zT s n u k).e := by
  induction m with
  | zero => rw [show k = 0 by omega]
  | succ m ih =>
    by_cases hk : k = m + 1
    · rw [hk]
    · have h1 := ih (by omega)
      have h2 : (zT s n u m).e ≠ 0 := by rw [h1]; exact h
      rw [zT, tS_stay (by rw [nS_stay h2]; exact h2), nS_stay h2, h1]
theorem quL_err {s : ByteArray} {f : Nat} {p : St × List Qt} (hc : p.1.e = 0 ∧ (p.2 = [] ∨ p.1.a < s.size)) (h : (qu1 s p).1.e ≠ 0) : (quL s (f + 1) p).1.e = (qu1 s p).1.e := by
  rw [quL, if_pos hc, quL_no _ _ _ (fun hq => h hq.1)]
/-- The numbers placed so far. -/
def qF (s : ByteArray) (n : Nat) (u : St) (k : Nat) : Nat → Int := fun j => if inv j < k then zV s n u (inv j) else 0
theorem qF_0 (s : ByteArray) (n : Nat) (u : St) (y : Int) (b : Bool) : Qt.cells ⟨y, b, qF s n u 0⟩ = Qt.cells ⟨y, b, fun _ => 0⟩ := by
  unfold Qt.cells
  rw [show arrN .u16 64 (qF s n u 0) = arrN .u16 64 (fun _ => 0) from arrN_congr .u16 fun j hj => by simp [qF]]
theorem qF_next (s : ByteArray) (n : Nat) (u : St) (k : Nat) (hk : k < 64) (y : Int) (b : Bool) : Qt.cells ⟨y, b, upd (qF s n u k) (ord k) (zV s n u k)⟩ = Qt.cells ⟨y, b, qF s n u (k + 1)⟩ := by
  unfold Qt.cells
  rw [show arrN .u16 64 (upd (qF s n u k) (ord k) (zV s n u k)) = arrN .u16 64 (qF s n u (k + 1)) from arrN_congr .u16 fun j hj => by
    unfold upd qF
    by_cases h1 : j = ord k
    · subst h1; simp [inv_ord k hk]
    · have hne : inv j ≠ k := fun e => h1 (by rw [← e, ord_inv j hj])
      by_cases h2 : inv j < k
      · simp [h1, h2, show inv j < k + 1 by omega]
      · simp [h1, h2, show ¬ inv j < k + 1 by omega]]
theorem qF_all (s : ByteArray) (n : Nat) (u : St) (y : Int) (b : Bool) : Qt.cells ⟨y, b, qF s n u 64⟩ = Qt.cells ⟨y, b, fun j => zV s n u (inv j)⟩ := by
  unfold Qt.cells
  rw [show arrN .u16 64 (qF s n u 64) = arrN .u16 64 (fun j => zV s n u (inv j)) from arrN_congr .u16 fun j hj => by simp [qF, inv_lt j hj]]
theorem qtSet {T : TypeId} {w : World} {b : Nat} {p : Qt} (h : Blk w b T p.cells.toArray) {k : Nat} (hk : k < 64) (x : Int) : Blk (w.setCell ⟨b, 2 + k, none⟩ (.int .u16 x)) b T (Qt.cells ⟨p.at_, p.wide, upd p.q k x⟩).toArray := by
  have h1 := h.set_ (2 + k) (.int .u16 x)
  have h2 := set_mid [Value.int .i64 p.at_, Value.bool p.wide] (arrN .u16 64 p.q).toList [] k (.int .u16 x) (by rw [Array.length_toList, arrN_size]; exact hk)
  rw [arrN_setL .u16 64 _ _ _ hk, List.append_nil, List.append_nil] at h2
  unfold Qt.cells at h1
  have e : 2 + k = [Value.int .i64 p.at_, Value.bool p.wide].length + k := rfl
  rw [e, h2] at h1
  exact h1
theorem qtGet {T : TypeId} {w : World} {b : Nat} {p : Qt} (h : Blk w b T p.cells.toArray) {k : Nat} (hk : k < 64) : w.cell? ⟨b, 2 + k, none⟩ = some (.int .u16 (p.q k)) := by
  rw [h.cell]
  have h2 := get_mid [Value.int .i64 p.at_, Value.bool p.wide] (arrN .u16 64 p.q).toList [] k (by rw [Array.length_toList, arrN_size]; exact hk)
  have e : 2 + k = [Value.int .i64 p.at_, Value.bool p.wide].length + k := rfl
  unfold Qt.cells
  rw [e, ← List.append_nil ([Value.int .i64 p.at_, Value.bool p.wide] ++ _), h2, Array.getElem?_toList]
  exact arrN_get .u16 _ hk
theorem refQuant_built (y : Int) (b : Bool) : Tryd.prog.built 152 [(0, .int .i64 y), (1, .bool b)] = some (Qt.cells ⟨y, b, fun _ => 0⟩).toArray := by kernel_rfl
def RQPost (w : World) (P : St × List Qt) (e : Ending) (w' : World) : Prop :=
  ∃ v, e = .returned (.tuple #[v, .int .i64 P.1.e]) ∧ (∃ A n cp, v = .slice A n cp) ∧ (P.1.e = 0 → OwnC Qt.cells 66 w' w.heap.size 152 v P.2) ∧ Below w.heap.size w w'
structure RqI (w : World) (v : Value) (l : List Qt) (wr : World) : Prop where
  ow : OwnC Qt.cells 66 wr w.heap.size 152 v l
  be : Below w.heap.size w wr
theorem RqI.bel {w wr w' : World} {v : Value} {l : List Qt} (h : RqI w v l wr) (hb : Below wr.heap.size wr w') : RqI w v l w' := ⟨h.ow.bel hb, h.be.trans (hb.mono h.be.size)⟩
theorem RqI.set {w wr : World} {v : Value} {l : List Qt} (h : RqI w v l wr) {p : Addr} (hp : v.ownBlock ≠ some p.block) (hb : w.heap.size ≤ p.block) (u : Value) : RqI w v l (wr.setCell p u) := ⟨h.ow.set hp u, h.be.setCell hb u⟩
set_option maxHeartbeats 4000000 in
theorem refQuants_walk (s : ByteArray) (hs : s.size ≤ 65533) (w : World) :
    Calls Tryd.prog 40 #[.string s] w (RQPost w (quR s st0)) := by
  obtain ⟨P, hP⟩ : ∃ P, P = quR s st0 := ⟨_, rfl⟩
  rw [← hP]
  have HP0 := Lib.hid hP; clear hP
  have HI0 : Hid (RqI w (.slice none 0 0) [] w) := Lib.hid ⟨OwnC.nil _ _ _, Below.refl _ _⟩
  go_enter Tryd.func40, Tryd.ntmps40
  go_wp2_with fail
  go_loopw [4, 5] (fun v iv wr => ∃ (f i : Nat) (l : List Qt), iv = .int .i64 i ∧ i ≤ s.size ∧ Hid (i = 0 ↔ l = []) ∧ Hid (RqI w v l wr) ∧ Hid (quL s f (⟨i, 0⟩, l) = P) ∧ Hid (s.size + 1 ≤ f + i) ∧ Hid (l.length + f = s.size + 1)) (fun _ iv _ => s.size - (intOf iv).toNat)
  case atStart => exact ⟨s.size + 1, 0, [], rfl, Nat.zero_le _, Lib.hid (by simp), HI0, Lib.hid HP0.out.symm, Lib.hid (by omega), Lib.hid (by simp)⟩
  case round =>
    obtain ⟨f, i, l, rfl, hi, HIL, HI, HP, HF, HLN⟩ := hrel
    obtain ⟨A, n1, cp, rfl⟩ := HI.out.ow.form2
    by_cases hc : l = [] ∨ i < s.size
    case neg =>
      have hxe : P = (⟨i, 0⟩, l) := by rw [← HP.out, quL_no _ _ _ (fun hq => hc hq.2)]
      have hi0 : ((i : Int) == 0) = false := by
        have : i ≠ 0 := fun e => hc (.inl (HIL.out.1 e))
        simpa using this
      have hil : decide (i < s.size) = false := by simp; omega
      have HX := Lib.hid hxe; clear hxe hc
      go_wp2_with fail
      go_ret2
      refine ⟨_, by rw [HX.out]; rfl, ⟨_, _, _, rfl⟩, fun _ => by rw [HX.out]; exact HI.out.ow, HI.out.be⟩
    case pos =>
    obtain ⟨f, rfl⟩ : ∃ f', f = f' + 1 := by
      cases f with
      | zero => exfalso; have := HF.out; omega
      | succ f => exact ⟨f, rfl⟩
    have hcc : ((⟨i, 0⟩, l) : St × List Qt).1.e = 0 ∧ (((⟨i, 0⟩, l) : St × List Qt).2 = [] ∨ ((⟨i, 0⟩, l) : St × List Qt).1.a < s.size) := ⟨rfl, hc⟩
    have hPn : P = quL s f (qu1 s (⟨i, 0⟩, l)) := by rw [← HP.out, quL, if_pos hcc]
    have hPe : ∀ e, (qu1 s (⟨i, 0⟩, l)).1.e = e → e ≠ 0 → P.1.e = e := fun e h1 h2 => by rw [← HP.out, quL_err hcc (by rw [h1]; exact h2), h1]
    have HPN := Lib.hid hPn; have HPE := Lib.hid hPe; clear hPn hPe hcc
    go_upto_region 3 with fail
    go_cut [18] (fun c wx => c = .bool true ∧ wx = wr)
    case first =>
      by_cases hi0 : i = 0
      · have hz : ((i : Int) == 0) = true := by simp [hi0]
        clear hc hi0
        go_wp2_with fail
        go_meet
        case rel => exact ⟨rfl, rfl⟩
      · have hz : ((i : Int) == 0) = false := by simpa using hi0
        have hil : decide (i < s.size) = true := by
          rcases hc with h | h
          · exact absurd (HIL.out.2 h) hi0
          · simpa using h
        clear hc hi0
        go_wp2_with fail
        go_meet
        case rel => exact ⟨rfl, rfl⟩
    case rest =>
    obtain ⟨rfl, rfl⟩ := hcut
    have hll : l.length ≤ 65534 := by have := HLN.out; omega
    obtain ⟨b, hb⟩ : ∃ b, b = bAt s i := ⟨_, rfl⟩
    have hbb := bAt_bd s i
    rw [← hb] at hbb
    obtain ⟨hb0, hb1⟩ := hbb
    by_cases hbn : b < 0
    case pos =>
      have hE : P.1.e = 4 := HPE.out 4 (by
        have h1 : (zT s (1 + nV s 1 ⟨i, 0⟩ / 16 % 2).toNat (tS (nS s 1 ⟨i, 0⟩) (decide (nV s 1 ⟨i, 0⟩ / 16 ≤ 1 ∧ nV s 1 ⟨i, 0⟩ % 16 ≤ 3)) 5) 0).e = 4 := by
          have h4 := bAt_no (hb ▸ hbn)
          show (tS _ _ _).e = 4
          rw [tS_stay (by rw [h4]; decide), h4]
        show (zT s _ _ 64).e = 4
        rw [zT_stay 0 64 (by rw [h1]; decide) (by omega), h1]) (by decide)
      have HE := Lib.hid hE; have HBE := Lib.hid hb
      clear hE hb hc
      have hd : decide (b < 0) = true := by simpa using hbn
      go_wp2_with (go_at_call 58; refine (byteAt_walk s i (by omega) (by omega) _).mono ?_; rintro ex w1 ⟨rfl, rfl⟩; rw [← HBE.out])
      go_ret2
      exact ⟨_, by rw [HE.out]; rfl, ⟨_, _, _, rfl⟩, fun h => absurd (HE.out ▸ h) (by decide), HI.out.be⟩
    case neg =>
    have hbp : 0 ≤ b := by omega
    obtain ⟨hn1, hn2, hn3⟩ := bAt_ok (s := s) (i := i) (hb ▸ hbp)
    rw [← hb] at hn2
    obtain ⟨x, hx⟩ : ∃ x, x = b / 16 := ⟨_, rfl⟩
    obtain ⟨y, hy⟩ : ∃ y, y = b % 16 := ⟨_, rfl⟩
    have hx0 : 0 ≤ x := by omega
    have hx1 : x < 16 := by omega
    have hy0 : 0 ≤ y := by omega
    have hy1 : y < 16 := by omega
    have hd0 : decide (b < 0) = false := by simp; omega
    by_cases hok : x ≤ 1 ∧ y ≤ 3
    case neg =>
      have hE : P.1.e = 5 := HPE.out 5 (by
        have h1 : (zT s (1 + nV s 1 ⟨i, 0⟩ / 16 % 2).toNat (tS (nS s 1 ⟨i, 0⟩) (decide (nV s 1 ⟨i, 0⟩ / 16 ≤ 1 ∧ nV s 1 ⟨i, 0⟩ % 16 ≤ 3)) 5) 0).e = 5 := by
          show (tS (nS s 1 ⟨i, 0⟩) _ 5).e = 5
          rw [hn1, hn2, ← hx, ← hy, decide_eq_false hok]
          exact tS_false _ _
        show (zT s _ _ 64).e = 5
        rw [zT_stay 0 64 (by rw [h1]; decide) (by omega), h1]) (by decide)
      have HE := Lib.hid hE; have HBE := Lib.hid hb; have HX := Lib.hid hx; have HY := Lib.hid hy; have HOK := Lib.hid hok
      have HI2 := HI
      clear hE hb hc hn1 hn2 hx hy
      go_upto_region 8 with (go_at_call 58; refine (byteAt_walk s i (by omega) (by omega) _).mono ?_; rintro ex w1 ⟨rfl, rfl⟩; rw [← HBE.out])
      go_cut [33] (fun c wx => c = .bool true ∧ wx = wc)
      case first =>
        have hx := HX.out; have hy := HY.out
        by_cases hx2 : x ≤ 1
        · have hd1 : decide (1 < b / 16) = false := by rw [← hx]; simp; omega
          have hd2 : decide (3 < b % 16) = true := by rw [← hy]; have := HOK.out; simp; omega
          clear hx hy hok
          go_wp2_with fail
          go_meet
          case rel => exact ⟨rfl, rfl⟩
        · have hd1 : decide (1 < b / 16) = true := by rw [← hx]; simp; omega
          clear hx hy hok
          go_wp2_with fail
          go_meet
          case rel => exact ⟨rfl, rfl⟩
      case rest =>
        obtain ⟨rfl, rfl⟩ := hcut
        clear hok
        go_wp2_with fail
        go_ret2
        exact ⟨_, by rw [HE.out]; rfl, ⟨_, _, _, rfl⟩, fun h => absurd (HE.out ▸ h) (by decide), HI2.out.be⟩
    case pos =>
    obtain ⟨hxo, hyo⟩ := hok
    obtain ⟨n, hn⟩ : ∃ n, n = (1 + x % 2).toNat := ⟨_, rfl⟩
    have hq1 : qu1 s (⟨i, 0⟩, l) = (zT s n ⟨i + 1, 0⟩ 64, l ++ [⟨y, x == 1, fun j => zV s n ⟨i + 1, 0⟩ (inv j)⟩]) := by
      rw [qu1]
      simp only [hn1, hn2, ← hx, ← hy, ← hn]
      rw [decide_eq_true (show x ≤ 1 ∧ y ≤ 3 from ⟨hxo, hyo⟩), tS_true]
    have hPE2 : ∀ e, (zT s n ⟨i + 1, 0⟩ 64).e = e → e ≠ 0 → P.1.e = e := fun e h1 h2 => HPE.out e (by rw [hq1]; exact h1) h2
    have hPN2 : P = quL s f (zT s n ⟨i + 1, 0⟩ 64, l ++ [⟨y, x == 1, fun j => zV s n ⟨i + 1, 0⟩ (inv j)⟩]) := by rw [HPN.out, hq1]
    have hwd : (x == 1) = true → n = 2 := by
      intro h
      have h2 : x = 1 := by simpa using h
      rw [hn, h2]; rfl
    have hwn : (x == 1) = false → n = 1 := by
      intro h
      have h2 : x ≠ 1 := by simpa using h
      have h3 : x = 0 := by omega
      rw [hn, h3]; rfl
    obtain ⟨xb, hxb⟩ : ∃ xb, xb = (x == 1) := ⟨_, rfl⟩
    rw [← hxb] at hPN2 hwd hwn
    obtain ⟨cs, hcs⟩ : ∃ cs, cs = (Qt.cells ⟨y, xb, fun _ => 0⟩).toArray := ⟨_, rfl⟩
    have hbt := refQuant_built y xb
    rw [← hcs] at hbt
    have hcz : cs.size = 66 := by rw [hcs, List.size_toArray, Qt.is.len]
    have hc1 : cs.all (·.oneCell') = true := by rw [hcs]; exact all_oneCell_toArray (Qt.is.one _)
    obtain ⟨od, hod⟩ : ∃ od, od = arrN .i64 64 (fun k => (ord k : Nat)) := ⟨_, rfl⟩
    have hoz : od.size = 64 := by rw [hod, arrN_size]
    have ho1 : od.all (·.oneCell') = true := by rw [hod]; exact arrN_one _ _ _
    have hog : ∀ k, k < 64 → od[k]? = some (.int .i64 (ord k : Nat)) := fun k hk => by rw [hod, arrN_get .i64 _ hk]
    have how : ∀ w, Calls Tryd.prog 59 #[] w fun e w' => e = .returned (.agg od) ∧ Below w.heap.size w w' := fun w => by rw [hod]; exact order_walk w
    have hxbb : ((b / 16) == 1) = xb := by rw [hxb, hx]
    have hd1 : decide (1 < b / 16) = false := by rw [← hx]; simp; omega
    have hd2 : decide (3 < b % 16) = false := by rw [← hy]; simp; omega
    have HBE := Lib.hid hb; have HX := Lib.hid hx; have HY := Lib.hid hy; have HPE2 := Lib.hid hPE2; have HPN2 := Lib.hid hPN2; have HWD := Lib.hid hwd; have HWN := Lib.hid hwn; have HCS := Lib.hid hcs; have HBT := Lib.hid hbt; have HCZ := Lib.hid hcz; have HC1 := Lib.hid hc1; have HOZ := Lib.hid hoz; have HO1 := Lib.hid ho1; have HOG := Lib.hid hog; have HOW := Lib.hid how; have HXB := Lib.hid hxbb
    have hif : i + 1 ≤ s.size := hn3
    clear hb hc hn1 hn2 hx hy hPE2 hPN2 hwd hwn hcs hbt hcz hc1 hod hoz ho1 hog how hxbb hxb hq1 hn
    go_upto_region 10 with (go_at_call 58; refine (byteAt_walk s i (by omega) (by omega) _).mono ?_; rintro ex w1 ⟨rfl, rfl⟩; rw [← HBE.out])
    clear hd1 hd2 hd0
    go_wp2_with (first | ((with_reducible show wpList _ _ _ (⟨some 39, _, _, _, _, _⟩ :: _) _ _); refine wpList_build2 rfl 152 (.tmp 35) (.tmp 38) (.int .i64 y) (.bool xb) rfl (by rw [HY.out]; rfl) (by rw [← HXB.out]; rfl) HBT.out ?_) | (refine wpList_store_new rfl 152 (.tmp 7) (.tmp 39) rfl cs _ 152 rfl rfl (by rw [HCZ.out]; kernel_rfl) (by rw [HCZ.out]; rfl) HC1.out ?_; intro w5 hs5 hB5 hb5; have HB5 := Lib.hid hB5; have HBW5 := Lib.hid hb5; clear hB5 hb5) | (go_at_call 59; refine (HOW.out _).mono ?_; rintro ex w6 ⟨rfl, hb6⟩; have HBW6 := Lib.hid hb6; clear hb6) | (refine wpList_store_new rfl 153 (.tmp 8) (.tmp 40) rfl od _ 153 rfl rfl (by rw [HOZ.out]; kernel_rfl) (by rw [HOZ.out]; rfl) HO1.out ?_; intro w7 hs7 hB7 hb7; have HB7 := Lib.hid hB7; have HBW7 := Lib.hid hb7; clear hB7 hb7))
    obtain ⟨wq, rfl⟩ : ∃ wq, wq = wc := ⟨_, rfl⟩
    have hI7 : RqI w (.slice A n1 cp) l w7 := ((HI.out.bel HBW5.out).bel HBW6.out).bel HBW7.out
    have hQ7 : Blk w7 wq.heap.size 152 (Qt.cells ⟨y, xb, qF s n ⟨i + 1, 0⟩ 0⟩).toArray := by
      rw [qF_0, ← HCS.out]; exact (HB5.out.bel HBW6.out).bel HBW7.out
    have hne : (Value.slice A n1 cp).ownBlock ≠ some wq.heap.size := HI.out.ow.ne (Nat.le_refl _)
    have hwz : w.heap.size ≤ wq.heap.size := HI.out.be.size
    have HI7 := Lib.hid hI7; have HQ7 := Lib.hid hQ7; have HNE := Lib.hid hne; have HWZ := Lib.hid hwz
    clear hI7 hQ7 hne hwz HB5 HBW5 HBW6 HBW7 HI
    go_loopw [5, 9] (fun iv kv wx => ∃ k j : Nat, k ≤ 64 ∧ kv = .int .i64 k ∧ iv = .int .i64 j ∧ j ≤ s.size ∧ Hid (i + 1 + k ≤ j) ∧ Hid (zT s n ⟨i + 1, 0⟩ k = ⟨j, 0⟩) ∧ Hid (RqI w (.slice A n1 cp) l wx) ∧ Hid (Blk wx wq.heap.size 152 (Qt.cells ⟨y, xb, qF s n ⟨i + 1, 0⟩ k⟩).toArray) ∧ Hid (Blk wx w6.heap.size 153 od)) (fun _ kv _ => 64 - (intOf kv).toNat)
    case atStart => exact ⟨0, i + 1, by omega, rfl, by go_num, by omega, Lib.hid (by omega), Lib.hid rfl, HI7, HQ7, HB7⟩
    case round =>
      obtain ⟨k, j, hk, rfl, rfl, hj, HKJ, HZT, HIk, HQk, HOk⟩ := hrel
      by_cases hk64 : k < 64
      case neg =>
        obtain rfl : k = 64 := by omega
        rw [qF_all] at HQk
        have hPN3 := HPN2.out
        rw [HZT.out] at hPN3
        obtain ⟨qz, hqz⟩ : ∃ qz : Nat → Int, qz = fun j => zV s n ⟨i + 1, 0⟩ (inv j) := ⟨_, rfl⟩
        rw [← hqz] at HQk hPN3
        obtain ⟨cq, hcq⟩ : ∃ cq, cq = (Qt.cells ⟨y, xb, qz⟩).toArray := ⟨_, rfl⟩
        rw [← hcq] at HQk
        have hcqz : cq.size = 66 := by rw [hcq, List.size_toArray, Qt.is.len]
        have hcql : cq.toList = Qt.cells ⟨y, xb, qz⟩ := by rw [hcq]
        have hln : l.length = n1 := by
          have h := HIk.out.ow.form
          obtain ⟨A', cp', h, _⟩ := h
          injection h with _ h _; exact h.symm
        have HCQZ := Lib.hid hcqz; have HCQL := Lib.hid hcql; have HPN3 := Lib.hid hPN3
        clear hcq hcqz hcql hPN3 hqz hln
        go_wp2_with (first | (refine wpList_load_row rfl 152 (.tmp 7) rfl wq.heap.size rfl 152 cq (0, 0) _ HQk.out Tryd.underlying152 rfl (by rw [HCQZ.out]; kernel_rfl) ?_) | (refine wpList_buildSlice1 rfl 32 152 (.tmp 70) rfl 66 cq rfl Tryd.underlying32 (by kernel_rfl) (by decide) (by decide) HCQZ.out ?_) | (at_builtin; refine appC (q := 66) (by_ := 144) (cs := cq) ⟨y, xb, qz⟩ Qt.is Tryd.underlying32 (by kernel_rfl) (by decide) (by decide) rfl (.tmp 69) (.tmp 71) rfl rfl rfl HCQL.out HIk.out.ow (by omega) HIk.out.be.size ?_; intro v8 w8 hO8 hk8 hb8; obtain ⟨A8, n8, cp8, rfl⟩ := hO8.form2; have HO8 := Lib.hid hO8; have HB8 := Lib.hid hb8; clear hO8 hk8 hb8))
        have hI10 : RqI w (.slice A8 n8 cp8) (l ++ [⟨y, xb, qz⟩]) w8 := ⟨HO8.out, HIk.out.be.trans HB8.out⟩
        have HI10 := Lib.hid hI10; clear hI10
        go_wp2_with fail
        go_roundw
        case rel => exact ⟨f, j, l ++ [⟨y, xb, qz⟩], rfl, hj, Lib.hid (by have := HKJ.out; simp; omega), HI10, Lib.hid HPN3.out.symm, Lib.hid (by have := HF.out; have := HKJ.out; omega), Lib.hid (by rw [List.length_append]; have := HLN.out; simp; omega)⟩
        case measure => have := HKJ.out; simp [intOf]; omega
      case pos =>
      have hox := ord_lt k hk64
      have co : wr.cell? ⟨w6.heap.size, k, none⟩ = some (.int .i64 (ord k : Nat)) := (HOk.out.cell k).trans (HOG.out k hk64)
      have cq : wr.cell? ⟨wq.heap.size, 2 + ord k, none⟩ = some (.int .u16 (qF s n ⟨i + 1, 0⟩ k (ord k))) := qtGet HQk.out hox
      have fq := HQk.out.frozen (2 + ord k)
      have c1 : wr.cell? ⟨wq.heap.size, 1, none⟩ = some (.bool xb) := by rw [HQk.out.cell]; rfl
      obtain ⟨ok, hok⟩ : ∃ ok, ok = ord k := ⟨_, rfl⟩
      rw [← hok] at co cq fq hox
      obtain ⟨v, hv⟩ : ∃ v, v = (if xb = true then pAt s j else bAt s j) := ⟨_, rfl⟩
      have hvb : -1 ≤ v ∧ v < 65536 := by
        rw [hv]; split
        · exact pAt_bd s j
        · have := bAt_bd s j; omega
      have hvno : v < 0 → (zT s n ⟨i + 1, 0⟩ (k + 1)).e = 4 := fun h => by
        rw [zT, HZT.out]
        have h4 : (nS s n ⟨j, 0⟩).e = 4 := by
          cases hx : xb with
          | true => rw [HWD.out hx]; exact pAt_no (by rw [hv, if_pos hx] at h; exact h)
          | false => rw [HWN.out hx]; exact bAt_no (by rw [hv, if_neg (by simp [hx])] at h; exact h)
        rw [tS_stay (by rw [h4]; decide), h4]
      have hvok : 0 ≤ v → nS s n ⟨j, 0⟩ = ⟨j + n, 0⟩ ∧ nV s n ⟨j, 0⟩ = v ∧ j + n ≤ s.size := fun h => by
        cases hx : xb with
        | true =>
          rw [HWD.out hx]
          rw [hv, if_pos hx] at h ⊢
          obtain ⟨a1, a2, a3⟩ := pAt_ok h
          exact ⟨a1, a2, by omega⟩
        | false =>
          rw [HWN.out hx]
          rw [hv, if_neg (by simp [hx])] at h ⊢
          obtain ⟨a1, a2, a3⟩ := bAt_ok h
          exact ⟨a1, a2, by omega⟩
      have hvt : xb = true → pAt s j = v := fun h => by rw [hv, if_pos h]
      have hvf : xb = false → bAt s j = v := fun h => by rw [hv, if_neg (by simp [h])]
      have HVN := Lib.hid hvno; have HVO := Lib.hid hvok; have HVT := Lib.hid hvt; have HVF := Lib.hid hvf; have HOKK := Lib.hid hok
      obtain ⟨hv0, hv1⟩ := hvb
      clear hvno hvok hvt hvf hv hok
      go_upto_region 17 with (go_at_call 58; refine (byteAt_walk s j (by omega) (by omega) _).mono ?_; rintro ex w1 ⟨rfl, rfl⟩)
      go_upto_if 51 with fail
      go_cut [5, 10] (fun iv nv wx => iv = .int .i64 ((j + n : Nat) : Int) ∧ nv = .int .i64 v ∧ Below wr.heap.size wr wx)
      case first =>
        go_wp2_with (go_at_call 43; refine (pair_walk s j (by omega) (by omega) _).mono ?_; rintro ex w1 ⟨rfl, hb1⟩)
        all_goals
          go_meet
          case rel => first | exact ⟨by have := HWD.out ‹xb = true›; exact congrArg (Value.int .i64) (by omega), by rw [HVT.out ‹xb = true›], ‹Below wr.heap.size wr _›⟩ | exact ⟨by have := HWN.out ‹xb = false›; exact congrArg (Value.int .i64) (by omega), by rw [HVF.out ‹xb = false›], Below.refl _ _⟩
      case rest =>
        obtain ⟨rfl, rfl, hbc⟩ := hcut
        have HIx := Lib.hid (HIk.out.bel hbc); have HQx := Lib.hid (HQk.out.bel hbc); have HOx := Lib.hid (HOk.out.bel hbc)
        clear hbc co cq fq c1
        by_cases hvn : v < 0
        case pos =>
          have h4 := HVN.out hvn
          have hE : P.1.e = 4 := HPE2.out 4 (by rw [zT_stay (k + 1) 64 (by rw [h4]; decide) (by omega), h4]) (by decide)
          have HE := Lib.hid hE; clear hE h4
          go_wp2_with fail
          go_ret2
          exact ⟨_, by rw [HE.out]; rfl, ⟨_, _, _, rfl⟩, fun h => absurd (HE.out ▸ h) (by decide), HIx.out.be⟩
        case neg =>
        obtain ⟨a1, a2, a3⟩ := HVO.out (by omega)
        by_cases hvz : v = 0
        case pos =>
          subst hvz
          have h5 : (zT s n ⟨i + 1, 0⟩ (k + 1)).e = 5 := by
            rw [zT, HZT.out, a1, a2]
            exact tS_false _ _
          have hE : P.1.e = 5 := HPE2.out 5 (by rw [zT_stay (k + 1) 64 (by rw [h5]; decide) (by omega), h5]) (by decide)
          have HE := Lib.hid hE; clear hE h5 a1 a2
          go_wp2_with fail
          go_ret2
          exact ⟨_, by rw [HE.out]; rfl, ⟨_, _, _, rfl⟩, fun h => absurd (HE.out ▸ h) (by decide), HIx.out.be⟩
        case neg =>
        have hzn : zT s n ⟨i + 1, 0⟩ (k + 1) = ⟨j + n, 0⟩ := by
          rw [zT, HZT.out, a1, a2, decide_eq_true (by omega : 0 < v), tS_true]
        have hzv : zV s n ⟨i + 1, 0⟩ k = v := by unfold zV; rw [HZT.out, a2]
        have co : wc.cell? ⟨w6.heap.size, k, none⟩ = some (.int .i64 (ok : Nat)) := by rw [HOKK.out]; exact (HOx.out.cell k).trans (HOG.out k hk64)
        have cq : wc.cell? ⟨wq.heap.size, 2 + ok, none⟩ = some (.int .u16 (qF s n ⟨i + 1, 0⟩ k ok)) := by rw [HOKK.out]; exact qtGet HQx.out (ord_lt k hk64)
        have fq := HQx.out.frozen (2 + ok)
        have hd0 : decide (v < 0) = false := by simp; omega
        have hd1 : (v == 0) = false := by simpa using hvz
        have hv00 : 0 ≤ v := by omega
        have hnn : n ≤ 2 ∧ 1 ≤ n := by
          cases hx : xb with
          | true => rw [HWD.out hx]; omega
          | false => rw [HWN.out hx]; omega
        have HZN := Lib.hid hzn; have HZV := Lib.hid hzv
        clear a1 a2 hzn hzv hvz hvn
        go_wp2_with fail
        have hq2 : Blk (wc.setCell ⟨wq.heap.size, 2 + ok, none⟩ (.int .u16 v)) wq.heap.size 152 (Qt.cells ⟨y, xb, qF s n ⟨i + 1, 0⟩ (k + 1)⟩).toArray := by
          rw [← qF_next s n ⟨i + 1, 0⟩ k hk64, HZV.out, ← HOKK.out]
          exact qtSet HQx.out (by omega) v
        have HIy := Lib.hid (HIx.out.set (p := ⟨wq.heap.size, 2 + ok, none⟩) HNE.out HWZ.out (.int .u16 v)); have HQy := Lib.hid hq2; have HOy := Lib.hid (HOx.out.far (p := ⟨wq.heap.size, 2 + ok, none⟩) (HOx.out.ne HQx.out (by decide)) (.int .u16 v))
        clear hq2
        go_roundw
        case rel => exact ⟨k + 1, j + n, by omega, by go_num, rfl, a3, Lib.hid (by have := HKJ.out; omega), HZN, HIy, HQy, HOy⟩
        case measure => simp [intOf]; omega
end Go.Proofs.YthibnhgbgmpjoaaDoor

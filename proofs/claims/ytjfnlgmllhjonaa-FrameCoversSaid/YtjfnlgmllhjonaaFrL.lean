/- The blocks of a unit, one by one (gen_frl.py). No condition. -/
import Derived.Test.YtjfnlgmllhjonaaRgB
import Derived.Test.YtjfnlgmllhjonaaFrA
import Derived.Test.YtjfnlgmllhjonaaOwnS
namespace Go.Proofs.Ytjfnlgmllhjonaa
open Go.RowKit
set_option linter.unusedSimpArgs false
set_option linter.unusedVariables false
set_option maxRecDepth 100000
/-- A block: its component, its row, its column. -/
structure Spt where
  c : Int
  r : Int
  k : Int
def spC (s : Spt) : Array Value := #[.int .i64 s.c, .int .i64 s.r, .int .i64 s.k]
def spE (s : Spt) : Array Value := #[.agg (spC s)]
theorem own1_seq (Gs : Nat → Prop) (w : World) (b1 b2 b3 : Nat) (c n g0 g1 q g3 : Int) (n0 : 0 ≤ n) (n1 : n ≤ 1000000) (q0 : 1 ≤ q) (q1 : q ≤ 1000000) (k1 : Blk w b1 3 #[.int .i64 c]) (k2 : Blk w b2 3 #[.int .i64 n]) (k3 : Blk w b3 33 #[.int .i64 g0, .int .i64 g1, .int .i64 q, .int .i64 g3]) (h1 : Gs b1) (h2 : Gs b2) (h3 : Gs b3) :
    SqX Try.prog 32 #[.pointer (some ⟨b1, 0, none⟩), .pointer (some ⟨b2, 0, none⟩), .pointer (some ⟨b3, 0, none⟩)] spE (KeepD Gs) [⟨c, n / q, n % q⟩] w := by
  have hr0 : 0 ≤ n / q := Int.ediv_nonneg n0 (by omega)
  have hr1 : n / q ≤ 1000000 := by have := Int.ediv_le_self q n0; omega
  obtain ⟨r, hr⟩ : ∃ r, n / q = r := ⟨_, rfl⟩
  obtain ⟨k, hk⟩ : ∃ k, n % q = k := ⟨_, rfl⟩
  have dq : ¬ q = 0 := by omega
  rw [hr] at hr0 hr1
  intro l J Jx W D0 hK hJ hJx hy h0
  rw [hr, hk] at hy ⊢
  replace k1 := hK.blk h1 k1
  replace k2 := hK.blk h2 k2
  replace k3 := hK.blk h3 k3
  show Calls _ _ #[.func (.yield l) #[] #[], .pointer (some ⟨b1, 0, none⟩), .pointer (some ⟨b2, 0, none⟩), .pointer (some ⟨b3, 0, none⟩)] _ _
  go_enter Try.func32, Try.ntmps32
  go_upto_region 0 with fail
  refine (wpIn_wide (n := 9)).1 ?_
  refine region_planX (ro := none) (.run [0, 1, 2, 3, 4, 5, 6, 7, 8, 9, 10] (.ev 11 .fin)) (fun w' => True) (by kernel_rfl) trivial ?_
  intro wd hwd
  have c1 : wd.cell? ⟨b1, 0, none⟩ = some (.int .i64 c) := by rw [hwd]; exact k1.cell 0
  have c2 : wd.cell? ⟨b2, 0, none⟩ = some (.int .i64 n) := by rw [hwd]; exact k2.cell 0
  have c3 : wd.cell? ⟨b3, 2, none⟩ = some (.int .i64 q) := by rw [hwd]; exact k3.cell 2
  obtain ⟨fn, tm, asg, bd, hy1, hy2⟩ := hy D0 [] ⟨c, r, k⟩ wd (by rw [hwd]; exact hJ.drew h0) ⟨[], rfl⟩ (fun _ h => h)
  have HY1 := Lib.hid hy1; have HY2 := Lib.hid hy2
  clear hy1 hy2
  clear hwd
  refine planX_run fun m hm => ?_
  simp only [pickO, List.filterMap_cons, List.filterMap_nil, List.getElem?_toArray, List.getElem?_cons_zero, List.getElem?_cons_succ] at hm
  subst hm
  go_wp2_with fail
  refine ⟨rfl, by rfl, ?_⟩
  refine planX_yd (o := ⟨some 16, _, _, _, _, _⟩) rfl (by rfl) (exec_yield rfl rfl (by simp only [List.map_toArray, List.map_cons, List.map_nil]; rfl) HY1.out) ?_
  refine (HY2.out.to _ _).mono ?_
  rintro ex w2 hE
  obtain ⟨bv, rfl, hor⟩ : ∃ bv, ex = .returned (.bool bv) ∧ (J D0 [⟨c, r, k⟩] w2 ∨ Jx D0 [⟨c, r, k⟩] w2) := by rcases hE with h | h; exact ⟨true, h.1, .inl h.2.1⟩; exact ⟨false, h.1, .inr h.2.1⟩
  have HOR := Lib.hid hor
  clear hE hor
  refine ⟨_, rfl, trivial, ?_⟩
  try simp only [Act.put, List.setIfInBounds_toArray, List.set_cons_zero, List.set_cons_succ]
  refine planX_fin ?_
  go_wp2_with fail
  go_end0
  refine ⟨⟨_, rfl⟩, ?_⟩
  rcases HOR.out with h | h
  · exact .inl ⟨D0, fun _ h => h, h⟩
  · exact .inr ⟨D0, _, fun _ h => h, List.prefix_rfl, h⟩
theorem heap_cell {w w' : World} {g i : Nat} (h : w'.heap[g]? = w.heap[g]?) : w'.cell? ⟨g, i, none⟩ = w.cell? ⟨g, i, none⟩ := by unfold World.cell?; rw [h]
theorem RdS.keepD {Gs : Nat → Prop} {w w' : World} {A : Option Addr} {n q : Nat} {f : Nat → Nat → Int} (h : RdS w A n q f) (hk : KeepD Gs w w') (hg : ∀ g off, A = some ⟨g, off, none⟩ → Gs g) : RdS w' A n q f := fun i hi => by
  obtain ⟨g, off, h1, h2, h3⟩ := h i hi
  exact ⟨g, off, h1, Nat.lt_of_lt_of_le h2 hk.1, fun j hj => by rw [heap_cell (hk.2 g (hg g off h1) h2)]; exact h3 j hj⟩
/-- Whole numbers that lie in a row. -/
def RdN (w : World) (C : Option Addr) (m : Nat) (f : Nat → Nat) : Prop := ∀ j, j < m → ∃ g off, C = some ⟨g, off, none⟩ ∧ g < w.heap.size ∧ w.cell? ⟨g, off + j, none⟩ = some (.int .i64 (f j))
theorem RdN.bel {w w' : World} {C : Option Addr} {m : Nat} {f : Nat → Nat} (h : RdN w C m f) (hb : Below w.heap.size w w') : RdN w' C m f := fun i hi => by
  obtain ⟨g, off, h1, h2, h3⟩ := h i hi
  exact ⟨g, off, h1, Nat.lt_of_lt_of_le h2 hb.size, (hb.cell (p := ⟨g, off + i, none⟩) h2).trans h3⟩
theorem RdN.keepD {Gs : Nat → Prop} {w w' : World} {C : Option Addr} {m : Nat} {f : Nat → Nat} (h : RdN w C m f) (hk : KeepD Gs w w') (hg : ∀ g off, C = some ⟨g, off, none⟩ → Gs g) : RdN w' C m f := fun i hi => by
  obtain ⟨g, off, h1, h2, h3⟩ := h i hi
  exact ⟨g, off, h1, Nat.lt_of_lt_of_le h2 hk.1, by rw [heap_cell (hk.2 g (hg g off h1) h2)]; exact h3⟩
/-- A component's blocks in a unit. -/
def partU (p : Nat → Nat → Int) (c : Nat) (row col : Int) : List Spt := (List.range (p c 0 * p c 1).toNat).map fun (i : Nat) => ⟨c, row * p c 1 + (i : Int) / p c 0, col * p c 0 + (i : Int) % p c 0⟩
def preU (p : Nat → Nat → Int) (cN : Nat → Nat) (row col : Int) (j : Nat) : List Spt := (List.range j).flatMap fun j => partU p (cN j) row col
/-- A unit's blocks. -/
def unL (p : Nat → Nat → Int) (cN : Nat → Nat) (m : Nat) (row col : Int) : List Spt := preU p cN row col m
theorem preU_succ {p : Nat → Nat → Int} {cN : Nat → Nat} {row col : Int} (j : Nat) : preU p cN row col (j + 1) = preU p cN row col j ++ partU p (cN j) row col := by
  unfold preU; rw [List.range_succ, List.flatMap_append]; simp
theorem preU_le {p : Nat → Nat → Int} {cN : Nat → Nat} {row col : Int} {m : Nat} : ∀ {j : Nat}, j ≤ m → ∃ r, preU p cN row col m = preU p cN row col j ++ r := by
  intro j hj
  induction hj with
  | refl => exact ⟨[], by simp⟩
  | step h ih => obtain ⟨r, hr⟩ := ih; exact ⟨_, by rw [preU_succ, hr, List.append_assoc]⟩
theorem un_take {p : Nat → Nat → Int} {c i : Nat} {row col : Int} {x : Spt} (hi : i < (p c 0 * p c 1).toNat) (hx : x = ⟨c, row * p c 1 + (i : Int) / p c 0, col * p c 0 + (i : Int) % p c 0⟩) : (partU p c row col).take (i + 1) = (partU p c row col).take i ++ [x] := by
  rw [List.take_succ_eq_append_getElem (by simp [partU]; omega)]
  simp [partU, hx]
theorem un_next {p : Nat → Nat → Int} {cN : Nat → Nat} {m j i : Nat} {row col : Int} {x : Spt} (hj : j < m) (hi : i < (p (cN j) 0 * p (cN j) 1).toNat) (hx : x = ⟨cN j, row * p (cN j) 1 + (i : Int) / p (cN j) 0, col * p (cN j) 0 + (i : Int) % p (cN j) 0⟩) :
    ∃ r, unL p cN m row col = (preU p cN row col j ++ (partU p (cN j) row col).take i) ++ x :: r := by
  obtain ⟨r, hr⟩ := preU_le (p := p) (cN := cN) (row := row) (col := col) (show j + 1 ≤ m by omega)
  have h1 : partU p (cN j) row col = (partU p (cN j) row col).take (i + 1) ++ (partU p (cN j) row col).drop (i + 1) := (List.take_append_drop _ _).symm
  refine ⟨(partU p (cN j) row col).drop (i + 1) ++ r, ?_⟩
  unfold unL
  rw [hr, preU_succ]
  conv => lhs; rw [h1, un_take hi hx]
  simp [List.append_assoc]
theorem un_pre {p : Nat → Nat → Int} {cN : Nat → Nat} {m j i : Nat} {row col : Int} {x : Spt} (hj : j < m) (hi : i < (p (cN j) 0 * p (cN j) 1).toNat) (hx : x = ⟨cN j, row * p (cN j) 1 + (i : Int) / p (cN j) 0, col * p (cN j) 0 + (i : Int) % p (cN j) 0⟩) :
    (preU p cN row col j ++ (partU p (cN j) row col).take i) ++ [x] <+: unL p cN m row col := by
  obtain ⟨r, hr⟩ := un_next hj hi hx
  exact ⟨r, by rw [hr]; simp⟩
/-- What unit's closure reads. -/
structure UnF (w : World) (b1 b2 b3 G : Nat) (n ac : Int) (m : Nat) (C A : Option Addr) (p : Nat → Nat → Int) (cN : Nat → Nat) : Prop where
  k1 : Blk w b1 3 #[.int .i64 n]
  k2 : Blk w b2 24 #[.pointer (some ⟨G, 0, none⟩)]
  k3 : ∃ cc, Blk w b3 45 #[.slice C m cc]
  kf : ∃ np cp gv dn uw uh tot iu, Blk w G 67 (frC (.slice A np cp) gv ac dn uw uh tot iu) ∧ RdS w A np 2 p ∧ ∀ j, j < m → cN j < np
  kc : RdN w C m cN
structure UnG (Gs : Nat → Prop) (b1 b2 b3 G : Nat) (C A : Option Addr) : Prop where
  g1 : Gs b1
  g2 : Gs b2
  g3 : Gs b3
  gf : Gs G
  gc : ∀ g off, C = some ⟨g, off, none⟩ → Gs g
  ga : ∀ g off, A = some ⟨g, off, none⟩ → Gs g
theorem UnF.keep {Gs : Nat → Prop} {w w' : World} {b1 b2 b3 G : Nat} {n ac : Int} {m : Nat} {C A : Option Addr} {p : Nat → Nat → Int} {cN : Nat → Nat} (h : UnF w b1 b2 b3 G n ac m C A p cN) (hg : UnG Gs b1 b2 b3 G C A) (hk : KeepD Gs w w') : UnF w' b1 b2 b3 G n ac m C A p cN := by
  obtain ⟨cc, h3⟩ := h.k3
  obtain ⟨np, cp, gv, dn, uw, uh, tot, iu, h4, h5, h6⟩ := h.kf
  exact ⟨hk.blk hg.g1 h.k1, hk.blk hg.g2 h.k2, ⟨cc, hk.blk hg.g3 h3⟩, ⟨np, cp, gv, dn, uw, uh, tot, iu, hk.blk hg.gf h4, h5.keepD hk hg.ga, h6⟩, h.kc.keepD hk hg.gc⟩
theorem mul_rng9 {x y A B : Int} (x0 : 0 ≤ x) (x1 : x ≤ A) (y0 : 0 ≤ y) (y1 : y ≤ B) : 0 ≤ x * y ∧ x * y ≤ A * B := ⟨Int.mul_nonneg x0 y0, Int.mul_le_mul x1 y1 y0 (by omega)⟩
set_option maxHeartbeats 2000000 in
theorem unit1_seq (Gs : Nat → Prop) (w : World) (b1 b2 b3 G : Nat) (n ac : Int) (m : Nat) (C A : Option Addr) (p : Nat → Nat → Int) (cN : Nat → Nat) (n0 : 0 ≤ n) (n1 : n ≤ 1000000) (a0 : 1 ≤ ac) (a1 : ac ≤ 1000000) (hm : m ≤ 1000000) (hp : ∀ j, j < m → 1 ≤ p (cN j) 0 ∧ p (cN j) 0 ≤ 4 ∧ 1 ≤ p (cN j) 1 ∧ p (cN j) 1 ≤ 4) (hF : UnF w b1 b2 b3 G n ac m C A p cN) (hG : UnG Gs b1 b2 b3 G C A) :
    SqX Try.prog 31 #[.pointer (some ⟨b1, 0, none⟩), .pointer (some ⟨b2, 0, none⟩), .pointer (some ⟨b3, 0, none⟩)] spE (KeepD Gs) (unL p cN m (n / ac) (n % ac)) w := by
  have hr0 : 0 ≤ n / ac := Int.ediv_nonneg n0 (by omega)
  have hr1 : n / ac ≤ 1000000 := by have := Int.ediv_le_self ac n0; omega
  have hk0 : 0 ≤ n % ac := Int.emod_nonneg _ (by omega)
  have hk1 : n % ac ≤ 1000000 := by have := Int.emod_lt_of_pos n (show 0 < ac by omega); omega
  obtain ⟨row, hrow⟩ : ∃ r, n / ac = r := ⟨_, rfl⟩
  obtain ⟨col, hcol⟩ : ∃ k, n % ac = k := ⟨_, rfl⟩
  have dq : ¬ ac = 0 := by omega
  rw [hrow] at hr0 hr1
  rw [hcol] at hk0 hk1
  intro l J Jx W D0 hK hJ hJx hy h0
  rw [hrow, hcol] at hy ⊢
  have hF0 := hF
  replace hF := hF.keep hG hK
  obtain ⟨cc, k3⟩ := hF.k3
  obtain ⟨np, cp, gv, dn, uw, uh, tot, iu, kf, ka, kn⟩ := hF.kf
  have k1 := hF.k1
  have k2 := hF.k2
  show Calls _ _ #[.func (.yield l) #[] #[], .pointer (some ⟨b1, 0, none⟩), .pointer (some ⟨b2, 0, none⟩), .pointer (some ⟨b3, 0, none⟩)] _ _
  go_enter Try.func31, Try.ntmps31
  go_upto_region 0 with fail
  refine (wpIn_wide (n := 9)).1 ?_
  refine region_planX (ro := none) (.run [0, 1, 2, 3, 4, 5, 6, 7, 8, 9, 10, 11, 12, 13] .fin) (fun w' => True) (by kernel_rfl) trivial ?_
  intro wd hwd
  have c1 : wd.cell? ⟨b1, 0, none⟩ = some (.int .i64 n) := by rw [hwd]; exact k1.cell 0
  have c2 : wd.cell? ⟨b2, 0, none⟩ = some (.pointer (some ⟨G, 0, none⟩)) := by rw [hwd]; exact k2.cell 0
  have c3 : wd.cell? ⟨G, 2, none⟩ = some (.int .i64 ac) := by rw [hwd]; exact kf.cell 2
  have HJ0 := Lib.hid (show J D0 [] wd by rw [hwd]; exact hJ.drew h0)
  have HK0 := Lib.hid (show KeepD Gs w wd by rw [hwd]; exact hK)
  have HW0 := Lib.hid (show KeepD Gs W wd by rw [hwd]; exact KeepD.refl _ _)
  have HF := Lib.hid (hF.keep hG HW0.out)
  clear hwd
  refine planX_run fun m hm => ?_
  simp only [pickO, List.filterMap_cons, List.filterMap_nil, List.getElem?_toArray, List.getElem?_cons_zero, List.getElem?_cons_succ] at hm
  subst hm
  go_wp2_with fail
  refine ⟨rfl, by rfl, ?_⟩
  refine planX_fin ?_
  clear c1 c2 c3
  have q3 : wd.cell? ⟨b3, 0, none⟩ = some (.slice C m cc) := (HW0.out.blk hG.g3 k3).cell 0
  have HP := Lib.hid hp; have HG := Lib.hid hG; have HFW := Lib.hid hF
  clear k1 k2 k3 kf ka kn hF hF0 hp hrow hcol h0 hK HF
  go_wp2_with fail
  clear q3
  go_loopw [25] (fun t wr => ∃ j : Nat, j ≤ m ∧ t = .int .i64 j ∧ Hid (∃ D, (∀ g, D0 g → D g) ∧ J D (preU p cN row col j) wr ∧ KeepD Gs W wr)) (fun t _ => m - (intOf t).toNat)
  case atStart => exact ⟨0, by omega, rfl, Lib.hid ⟨D0, fun _ h => h, HJ0.out, HW0.out⟩⟩
  case round =>
    obtain ⟨j, hj, rfl, HI⟩ := hrel
    by_cases hjm : j < m
    case neg =>
      obtain rfl : m = j := by omega
      obtain ⟨D, hD, hJD, _⟩ := HI.out
      have HX := Lib.hid hJD; have HD := Lib.hid hD
      clear hJD hD
      go_wp2_with fail
      go_end0
      exact ⟨⟨_, rfl⟩, .inl ⟨D, HD.out, HX.out⟩⟩
    case pos =>
    obtain ⟨D, hD, hJD, hKD⟩ := HI.out
    have hF := HFW.out.keep HG.out hKD
    obtain ⟨np, cp, gv, dn, uw, uh, tot, iu, kf, ka, kn⟩ := hF.kf
    have q2 := hF.k2.cell 0
    have qf : wr.cell? ⟨G, 0, none⟩ = some (.slice A np cp) := kf.cell 0
    obtain ⟨gc, oc, hCe, hgc, qc⟩ := hF.kc j hjm
    obtain ⟨ga, oa, hAe, hga, qa⟩ := ka (cN j) (kn j hjm)
    have qa0 : wr.cell? ⟨ga, oa + cN j * 2, none⟩ = some (.int .i64 (p (cN j) 0)) := qa 0 (by decide)
    have qa1 : wr.cell? ⟨ga, oa + cN j * 2 + 1, none⟩ = some (.int .i64 (p (cN j) 1)) := by have := qa 1 (by decide); rw [← Nat.add_assoc] at this; exact this
    have hnp : cN j < np := kn j hjm
    obtain ⟨ph0, ph1, pv0, pv1⟩ := HP.out j hjm
    have hz := mul_rng9 (show 0 ≤ p (cN j) 0 by omega) ph1 (show 0 ≤ p (cN j) 1 by omega) pv1
    have ha1 := mul_rng9 hr0 hr1 (show 0 ≤ p (cN j) 1 by omega) pv1
    have ha3 := mul_rng9 hk0 hk1 (show 0 ≤ p (cN j) 0 by omega) ph1
    obtain ⟨cj, hcj⟩ : ∃ z, z = cN j := ⟨_, rfl⟩
    rw [← hcj] at qc qa0 qa1 hnp ph0 ph1 pv0 pv1 hz ha1 ha3
    obtain ⟨h, hh⟩ : ∃ z, p cj 0 = z := ⟨_, rfl⟩
    obtain ⟨v, hv⟩ : ∃ z, p cj 1 = z := ⟨_, rfl⟩
    rw [hh] at qa0 ph0 ph1 hz ha3
    rw [hv] at qa1 pv0 pv1 hz ha1
    obtain ⟨z, hzz⟩ : ∃ z : Nat, h * v = z := ⟨(h * v).toNat, by omega⟩
    obtain ⟨x1, hx1⟩ : ∃ z, row * v = z := ⟨_, rfl⟩
    obtain ⟨x3, hx3⟩ : ∃ z, col * h = z := ⟨_, rfl⟩
    rw [hzz] at hz
    rw [hx1] at ha1
    rw [hx3] at ha3
    subst hCe hAe
    have HJD := Lib.hid hJD; have HKD := Lib.hid hKD; have HDD := Lib.hid hD
    have HHV : Hid (p (cN j) 0 = h ∧ p (cN j) 1 = v ∧ (cj : Int) = cN j ∧ (p (cN j) 0 * p (cN j) 1).toNat = z) := Lib.hid ⟨by rw [← hcj]; exact hh, by rw [← hcj]; exact hv, by rw [hcj], by rw [← hcj, hh, hv, hzz]; simp⟩
    clear hF kf ka kn qa hh hv hcj hJD hKD hD
    go_wp2_with fail
    clear q2 qf qc qa0 qa1
    obtain ⟨w9, hw9⟩ : ∃ w9, w9 = wr.alloc (.cells #[.int .i64 h, .int .i64 v] 62) := ⟨_, rfl⟩
    have hbl : Below wr.heap.size wr w9 := by rw [hw9]; exact (Below.refl _ _).alloc (Nat.le_refl _) _
    have hB9 : Blk w9 wr.heap.size 62 #[.int .i64 h, .int .i64 v] := by rw [hw9]; exact Blk.new _ _ _
    have HI9 : Hid (∃ D, (∀ g, D0 g → D g) ∧ D wr.heap.size ∧ J D (preU p cN row col j ++ (partU p (cN j) row col).take 0) w9 ∧ Blk w9 wr.heap.size 62 #[.int .i64 h, .int .i64 v] ∧ KeepD Gs W w9) := Lib.hid ⟨More D wr w9, fun g hg => .inl (HDD.out g hg), .inr ⟨Nat.le_refl _, hB9.lt⟩, by rw [List.take_zero, List.append_nil]; exact hJ.bel HJD.out hbl, hB9, HKD.out.trans (KeepD.of_below hbl)⟩
    rw [← hw9]
    obtain ⟨b9, hb9⟩ : ∃ b9, b9 = wr.heap.size := ⟨_, rfl⟩
    rw [← hb9] at HI9 ⊢
    clear hbl hB9 hw9 hb9 HJD HKD HDD HI
    go_loopw [41] (fun t wx => ∃ i : Nat, i ≤ z ∧ t = .int .i64 i ∧ Hid (∃ D, (∀ g, D0 g → D g) ∧ D b9 ∧ J D (preU p cN row col j ++ (partU p (cN j) row col).take i) wx ∧ Blk wx b9 62 #[.int .i64 h, .int .i64 v] ∧ KeepD Gs W wx)) (fun t _ => z - (intOf t).toNat)
    case atStart => exact ⟨0, by omega, rfl, HI9⟩
    case round =>
      obtain ⟨i, hi, rfl, HJI⟩ := hrel
      clear HI9
      by_cases hil0 : i < z
      case neg =>
        obtain rfl : z = i := by omega
        have HN : Hid (∃ D, (∀ g, D0 g → D g) ∧ J D (preU p cN row col (j + 1)) wr ∧ KeepD Gs W wr) := Lib.hid (by
          obtain ⟨D, a1, a2, a3, a4, a5⟩ := HJI.out
          refine ⟨D, a1, ?_, a5⟩
          rw [preU_succ]
          rwa [List.take_of_length_le (by simp only [partU, List.length_map, List.length_range]; rw [HHV.out.2.2.2]; exact Nat.le_refl _)] at a3)
        clear hzz hx1 hx3
        go_wp2_with fail
        go_roundw
        case rel => exact ⟨j + 1, by omega, by go_num, HN⟩
        case measure => simp [intOf]; omega
      case pos =>
      obtain ⟨D, hD0, hD9, hJ9, hB9, hK9⟩ := HJI.out
      have hil : i < (p (cN j) 0 * p (cN j) 1).toNat := by rw [HHV.out.2.2.2]; exact hil0
      have hi0 : 0 ≤ (i : Int) / h := Int.ediv_nonneg (by omega) (by omega)
      have hi1 : (i : Int) / h ≤ 16 := by have := Int.ediv_le_self h (show 0 ≤ (i : Int) by omega); omega
      have hi2 : 0 ≤ (i : Int) % h := Int.emod_nonneg _ (by omega)
      have hi3 : (i : Int) % h < 4 := by have := Int.emod_lt_of_pos (i : Int) (show 0 < h by omega); omega
      obtain ⟨x2, hx2⟩ : ∃ y, (i : Int) / h = y := ⟨_, rfl⟩
      obtain ⟨x4, hx4⟩ : ∃ y, (i : Int) % h = y := ⟨_, rfl⟩
      rw [hx2] at hi0 hi1
      rw [hx4] at hi2 hi3
      have dh : ¬ h = 0 := by omega
      obtain ⟨x, hx⟩ : ∃ x : Spt, x = ⟨cN j, row * p (cN j) 1 + (i : Int) / p (cN j) 0, col * p (cN j) 0 + (i : Int) % p (cN j) 0⟩ := ⟨_, rfl⟩
      have hxl : x = ⟨cj, x1 + x2, x3 + x4⟩ := by rw [hx, HHV.out.1, HHV.out.2.1, HHV.out.2.2.1, hx1, hx2, hx3, hx4]
      have HXL := Lib.hid hxl
      have HZ := Lib.hid hzz; have HX1 := Lib.hid hx1; have HX2 := Lib.hid hx2; have HX3 := Lib.hid hx3; have HX4 := Lib.hid hx4
      clear hxl HJI
      clear hzz
      go_upto_region 8 with fail
      refine (wpIn_wide (n := 9)).1 ?_
      refine region_planX (ro := none) (.run [0, 1, 2, 3, 4, 5, 6, 7, 8, 9, 10, 11, 12, 13, 14, 15, 16, 17, 18, 19, 20] (.ev 21 (.run [22] .fin))) (fun w' => True) (by kernel_rfl) trivial ?_
      intro wd2 hwd
      have d0 : wd2.cell? ⟨b9, 0, none⟩ = some (.int .i64 h) := by rw [hwd]; exact hB9.cell 0
      have d1 : wd2.cell? ⟨b9, 1, none⟩ = some (.int .i64 v) := by rw [hwd]; exact hB9.cell 1
      have hJ8 : J D (preU p cN row col j ++ (partU p (cN j) row col).take i) wd2 := by rw [hwd]; exact hJ.drew hJ9
      have hK8 : KeepD Gs W wd2 := by rw [hwd]; exact hK9
      have hB8 : Blk wd2 b9 62 #[.int .i64 h, .int .i64 v] := by rw [hwd]; exact hB9
      have hn8 : ∃ r, unL p cN m row col = (preU p cN row col j ++ (partU p (cN j) row col).take i) ++ x :: r := un_next hjm hil hx
      obtain ⟨fn, tm, asg, bd, hy1, hy2⟩ := hy D (preU p cN row col j ++ (partU p (cN j) row col).take i) x wd2 hJ8 hn8 hD0
      have HY1 := Lib.hid (show (Instr.yield l (spE ⟨cj, x1 + x2, x3 + x4⟩)).run Try.prog wd2 = .ok (.round l fn tm asg bd) wd2 by rw [← HXL.out]; exact hy1); have HY2 := Lib.hid hy2; have HK8 := Lib.hid hK8; have HB8 := Lib.hid hB8; have HD8 := Lib.hid (show (∀ g, D0 g → D g) ∧ D b9 from ⟨hD0, hD9⟩); have HX := Lib.hid hx
      clear hy1 hy2 hJ8 hK8 hB8 hn8 hx
      clear hwd
      refine planX_run fun m hm => ?_
      simp only [pickO, List.filterMap_cons, List.filterMap_nil, List.getElem?_toArray, List.getElem?_cons_zero, List.getElem?_cons_succ] at hm
      subst hm
      go_wp2_with fail
      refine ⟨rfl, by rfl, ?_⟩
      refine planX_yd (o := ⟨some 65, _, _, _, _, _⟩) rfl (by rfl) (exec_yield rfl rfl (by simp only [List.map_toArray, List.map_cons, List.map_nil]; rfl) HY1.out) ?_
      refine (HY2.out.to _ _).mono ?_
      rintro ex w2 hE
      obtain ⟨bv, rfl, hor⟩ : ∃ bv, ex = .returned (.bool bv) ∧ ((bv = true ∧ J D ((preU p cN row col j ++ (partU p (cN j) row col).take i) ++ [x]) w2 ∧ KeepD Gs wd2 w2 ∧ KeepD D wd2 w2) ∨ (bv = false ∧ Jx D ((preU p cN row col j ++ (partU p (cN j) row col).take i) ++ [x]) w2)) := by rcases hE with h | h; exact ⟨true, h.1, .inl ⟨rfl, h.2⟩⟩; exact ⟨false, h.1, .inr ⟨rfl, h.2.1⟩⟩
      clear hE
      refine ⟨_, rfl, trivial, ?_⟩
      try simp only [Act.put, List.setIfInBounds_toArray, List.set_cons_zero, List.set_cons_succ]
      refine planX_run fun m hm => ?_
      simp only [pickO, List.filterMap_cons, List.filterMap_nil, List.getElem?_toArray, List.getElem?_cons_zero, List.getElem?_cons_succ] at hm
      subst hm
      go_wp2_with fail
      refine ⟨rfl, by rfl, ?_⟩
      refine planX_fin ?_
      rcases hor with ⟨rfl, hj2, hg2, hd2⟩ | ⟨rfl, hx2⟩
      · have HN : Hid (∃ D, (∀ g, D0 g → D g) ∧ D b9 ∧ J D (preU p cN row col j ++ (partU p (cN j) row col).take (i + 1)) w2 ∧ Blk w2 b9 62 #[.int .i64 h, .int .i64 v] ∧ KeepD Gs W w2) := Lib.hid ⟨D, HD8.out.1, HD8.out.2, by rw [un_take hil HX.out, ← List.append_assoc]; exact hj2, hd2.blk HD8.out.2 HB8.out, HK8.out.trans hg2⟩
        clear hj2 hg2 hd2 d0 d1
        go_wp2_with fail
        go_roundw
        case rel => exact ⟨i + 1, by omega, by go_num, HN⟩
        case measure => simp [intOf]; omega
      · have HXX := Lib.hid hx2
        clear hx2 d0 d1
        go_wp2_with fail
        refine bodyPost_ret (results_none rfl _ _ _) rfl ?_
        exact ⟨⟨_, rfl⟩, .inr ⟨D, _, HD8.out.1, un_pre hjm hil HX.out, HXX.out⟩⟩
end Go.Proofs.Ytjfnlgmllhjonaa

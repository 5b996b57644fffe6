/- Scan's closure: all blocks of a scan (gen_fro.py). No condition. -/
import Derived.Test.YtjfnlgmllhjonaaFrM
import Derived.LoopNIn
import Derived.LoopIn
import Derived.TacticsInMore
namespace Go.Proofs.Ytjfnlgmllhjonaa
open Go.RowKit
set_option linter.unusedSimpArgs false
set_option linter.unusedVariables false
set_option maxRecDepth 100000
attribute [local go_sem] Oper.semAt_some
theorem Blk.putObj {w : World} {g l : Nat} {t : TypeId} {cs : Array Value} {o : Obj} (h : Blk w g t cs) (hl : w.heap[l]? = some o) (ho : o.isCells = false) (o' : Obj) : Blk (w.putObj l o') g t cs :=
  (World.putObj_heap_other (fun e => by
    subst e
    unfold Blk at h
    rw [h] at hl
    injection hl with hl
    subst hl
    cases ho)).trans h
theorem It.mono {D D' : Nat → Prop} {W W' : World} (h : It D W W') (hd : ∀ g, D g → D' g) : It D' W W' := ⟨h.os, h.tape, h.output, h.size, fun g hg hn => h.same g hg fun hd' => hn (hd g hd')⟩
/-- The mark of a loop over a function. -/
def mkD (k : Nat) : Deferred := { target := .collected k, args := #[] }
/-- A function's end, behind as many loops as there were. -/
theorem leaves_marks {P : Program} {fn : Func} {tmps : Array Value} {R : Ending → World → Prop} : ∀ (ks : List Nat) (W : World), ks.Nodup → (∀ k ∈ ks, W.heap[k]? = some (.deferred (some []))) →
    (∀ W', It (fun g => g ∈ ks) W W' → W'.heap.size = W.heap.size → ∃ v, (results fn tmps).run P W' = .ok v W' ∧ R (.returned v) W') → LeavesInM (FR none) 9 P fn tmps R (ks.map mkD) .returning W
  | [], W, _, _, h => h W ⟨rfl, rfl, rfl, Nat.le_refl _, fun _ _ _ => rfl⟩ rfl
  | k :: ks, W, hn, hk, h => by
    refine ⟨by simp, .inl ⟨k, _, rfl, run_takeDeferred (hk k (by simp)), ?_⟩⟩
    have hkn : ¬ k ∈ ks := (List.nodup_cons.1 hn).1
    refine leaves_marks ks _ (List.nodup_cons.1 hn).2 (fun q hq => (World.putObj_heap_other (fun e => by subst e; exact hkn hq)).trans (hk q (by simp [hq]))) fun W' hit hsz => h W' ⟨hit.os, hit.tape, hit.output, by have := hit.size; simp at this; omega, fun g hg hng => ?_⟩ (by rw [hsz]; simp)
    rw [hit.same g (by simpa using hg) (fun h => hng (by simp [h]))]
    exact World.putObj_heap_other (fun e => hng (by simp [e]))
/-- What Scan's closure reads. -/
structure ScF (w : World) (be bn bf bl G : Nat) (er n ac : Int) (m : Nat) (C A Ag : Option Addr) (p gr : Nat → Nat → Int) (cN : Nat → Nat) : Prop where
  k0 : Blk w be 25 #[.int .i64 er]
  k1 : Blk w bn 3 #[.int .i64 n]
  k2 : Blk w bf 24 #[.pointer (some ⟨G, 0, none⟩)]
  k3 : ∃ cc, Blk w bl 45 #[.slice C m cc]
  kf : ∃ np cp cg dn uw uh tot iu, Blk w G 67 (frC (.slice A np cp) (.slice Ag np cg) ac dn uw uh tot iu) ∧ RdS w A np 2 p ∧ RdS w Ag np 4 gr ∧ ∀ j, j < m → cN j < np
  kc : RdN w C m cN
structure ScG (Gs : Nat → Prop) (be bn bf bl G : Nat) (C A Ag : Option Addr) : Prop where
  g0 : Gs be
  g1 : Gs bn
  g2 : Gs bf
  g3 : Gs bl
  gf : Gs G
  gc : ∀ g off, C = some ⟨g, off, none⟩ → Gs g
  ga : ∀ g off, A = some ⟨g, off, none⟩ → Gs g
  gg : ∀ g off, Ag = some ⟨g, off, none⟩ → Gs g
theorem ScF.keep {Gs : Nat → Prop} {w w' : World} {be bn bf bl G : Nat} {er n ac : Int} {m : Nat} {C A Ag : Option Addr} {p gr : Nat → Nat → Int} {cN : Nat → Nat} (h : ScF w be bn bf bl G er n ac m C A Ag p gr cN) (hg : ScG Gs be bn bf bl G C A Ag) (hk : KeepD Gs w w') : ScF w' be bn bf bl G er n ac m C A Ag p gr cN := by
  obtain ⟨cc, h3⟩ := h.k3
  obtain ⟨np, cp, cg, dn, uw, uh, tot, iu, h4, h5, h6, h7⟩ := h.kf
  exact ⟨hk.blk hg.g0 h.k0, hk.blk hg.g1 h.k1, hk.blk hg.g2 h.k2, ⟨cc, hk.blk hg.g3 h3⟩, ⟨np, cp, cg, dn, uw, uh, tot, iu, hk.blk hg.gf h4, h5.keepD hk hg.ga, h6.keepD hk hg.gg, h7⟩, h.kc.keepD hk hg.gc⟩
/-- The blocks of the i-th unit of a scan. -/
def spotsU (p gr : Nat → Nat → Int) (ac : Int) (m : Nat) (cN : Nat → Nat) (i : Nat) : List Spt := if m = 1 then [⟨cN 0, (i : Int) / gr (cN 0) 2, (i : Int) % gr (cN 0) 2⟩] else unL p cN m ((i : Int) / ac) ((i : Int) % ac)
def preS (p gr : Nat → Nat → Int) (ac : Int) (m : Nat) (cN : Nat → Nat) (i : Nat) : List (Int × Spt) := (List.range i).flatMap fun i => (spotsU p gr ac m cN i).map fun s => ((i : Int), s)
theorem preS_succ {p gr : Nat → Nat → Int} {ac : Int} {m : Nat} {cN : Nat → Nat} (i : Nat) : preS p gr ac m cN (i + 1) = preS p gr ac m cN i ++ (spotsU p gr ac m cN i).map fun s => ((i : Int), s) := by
  unfold preS; rw [List.range_succ, List.flatMap_append]; simp
theorem preS_le {p gr : Nat → Nat → Int} {ac : Int} {m : Nat} {cN : Nat → Nat} {n : Nat} : ∀ {j : Nat}, j ≤ n → ∃ r, preS p gr ac m cN n = preS p gr ac m cN j ++ r := by
  intro j hj
  induction hj with
  | refl => exact ⟨[], by simp⟩
  | step h ih => obtain ⟨r, hr⟩ := ih; exact ⟨_, by rw [preS_succ, hr, List.append_assoc]⟩
def spE2 (x : Int × Spt) : Array Value := #[.int .i64 x.1, .agg (spC x.2)]
/-- An iterator over a unit is at hand. -/
structure ScU (J : (Nat → Prop) → List (Int × Spt) → World → Prop) (D0 Gs : Nat → Prop) (W0 : World) (l b5 b6 : Nat) (pre : List (Int × Spt)) (ks : List Nat) (gf : FuncId) (lb : Array Value) (xs : List Spt) (i : Nat) (W : World) : Prop where
  ex : ∃ E, (∀ g, D0 g → E g) ∧ E b5 ∧ E b6 ∧ (∀ k ∈ ks, E k ∧ W.heap[k]? = some (.deferred (some []))) ∧ J E pre W ∧ ∃ Gi, (∀ g, Gi g → Gs g ∨ E g) ∧ (∀ g, Gi g → g < W.heap.size) ∧ SqX Try.prog gf lb spE (KeepD Gi) xs W
  nd : ks.Nodup
  k5 : Blk W b5 71 #[.func (.yield l) #[] #[]]
  k6 : Blk W b6 3 #[.int .i64 i]
  kp : KeepD Gs W0 W
/-- Between two units. -/
structure ScI (J : (Nat → Prop) → List (Int × Spt) → World → Prop) (D0 Gs : Nat → Prop) (W0 : World) (l b5 : Nat) (pre : List (Int × Spt)) (ks : List Nat) (W : World) : Prop where
  ex : ∃ E, (∀ g, D0 g → E g) ∧ E b5 ∧ (∀ k ∈ ks, E k ∧ W.heap[k]? = some (.deferred (some []))) ∧ J E pre W
  nd : ks.Nodup
  k5 : Blk W b5 71 #[.func (.yield l) #[] #[]]
  kp : KeepD Gs W0 W
theorem ScU.of {J : (Nat → Prop) → List (Int × Spt) → World → Prop} {D0 Gs : Nat → Prop} {W0 wr W : World} {l b5 : Nat} {pre : List (Int × Spt)} {ks : List Nat} {gf : FuncId} {lb : Array Value} {xs : List Spt} {i : Nat} (hJ : Step J) (h : ScI J D0 Gs W0 l b5 pre ks wr) (hb : Below wr.heap.size wr W) (h6 : Blk W wr.heap.size 3 #[.int .i64 i])
    (hs : SqX Try.prog gf lb spE (KeepD fun g => (Gs g ∨ wr.heap.size ≤ g) ∧ g < W.heap.size) xs W) : ScU J D0 Gs W0 l b5 wr.heap.size pre ks gf lb xs i W := by
  obtain ⟨E, e1, e2, e3, e4⟩ := h.ex
  exact ⟨⟨More E wr W, fun g hg => .inl (e1 g hg), .inl e2, .inr ⟨Nat.le_refl _, h6.lt⟩, fun k hk => ⟨.inl (e3 k hk).1, (hb.block k (Array.getElem?_eq_some_iff.1 (e3 k hk).2).1).trans (e3 k hk).2⟩, hJ.bel e4 hb, _, fun g hg => by
    rcases hg.1 with h | h
    · exact .inl h
    · exact .inr (.inr ⟨h, hg.2⟩), fun g hg => hg.2, hs⟩, h.nd, h.k5.bel hb, h6, h.kp.trans (KeepD.of_below hb)⟩
def ScW (J : (Nat → Prop) → List (Int × Spt) → World → Prop) (D0 Gs : Nat → Prop) (W0 : World) (l be bn bf bl b5 : Nat) (n : Nat) (pre : Nat → List (Int × Spt)) (a : Act) (W : World) : Prop :=
  ∃ (i : Nat) (ks : List Nat) (u6 u7 u8 u9 u10 u13 u14 u15 u16 u17 u18 u19 u20 u21 u22 u23 u24 u25 u26 u27 u28 u29 u30 u31 u32 u33 u34 u35 : Value), i ≤ n ∧ ScI J D0 Gs W0 l b5 (pre i) ks W ∧ a = { tmps := #[.func (.yield l) #[] #[], .pointer (some ⟨be, 0, none⟩), .pointer (some ⟨bn, 0, none⟩), .pointer (some ⟨bf, 0, none⟩), .pointer (some ⟨bl, 0, none⟩), .pointer (some ⟨b5, 0, none⟩), u6, u7, u8, u9, u10, .int .i64 (n : Int), .int .i64 i, u13, u14, u15, u16, u17, u18, u19, u20, u21, u22, u23, u24, u25, u26, u27, u28, u29, u30, u31, u32, u33, u34, u35], defers := ks.map mkD }
def ScM (n : Nat) (a : Act) (_ : World) : Nat := n - (intOf (a.tmps.getD 12 undef)).toNat
set_option maxHeartbeats 4000000 in
theorem scan1_seq (Gs : Nat → Prop) (w : World) (be bn bf bl G : Nat) (n : Nat) (ac : Int) (m : Nat) (C A Ag : Option Addr) (p gr : Nat → Nat → Int) (cN : Nat → Nat) (n1 : n ≤ 1000000) (a0 : 1 ≤ ac) (a1 : ac ≤ 1000000) (hm : m ≤ 1000000) (hm0 : 0 < m) (hp : ∀ j, j < m → 1 ≤ p (cN j) 0 ∧ p (cN j) 0 ≤ 4 ∧ 1 ≤ p (cN j) 1 ∧ p (cN j) 1 ≤ 4)
    (hgr : 1 ≤ gr (cN 0) 2 ∧ gr (cN 0) 2 ≤ 1000000) (hF : ScF w be bn bf bl G 0 n ac m C A Ag p gr cN) (hG : ScG Gs be bn bf bl G C A Ag) :
    SqX Try.prog 25 #[.pointer (some ⟨be, 0, none⟩), .pointer (some ⟨bn, 0, none⟩), .pointer (some ⟨bf, 0, none⟩), .pointer (some ⟨bl, 0, none⟩)] spE2 (KeepD Gs) (preS p gr ac m cN n) w := by
  intro l J Jx W D0 hK hJ hJx hy h0
  have HFW := Lib.hid (hF.keep hG hK)
  have HG := Lib.hid hG
  have HB5 : Hid (Below W.heap.size W (W.alloc (.cells #[.func (.yield l) #[] #[]] 71)) ∧ Blk (W.alloc (.cells #[.func (.yield l) #[] #[]] 71)) W.heap.size 71 #[.func (.yield l) #[] #[]]) := Lib.hid ⟨(Below.refl _ _).alloc (Nat.le_refl _) _, Blk.new _ _ _⟩
  have q0 := (HFW.out.k0.bel HB5.out.1).cell 0
  have q1 := (HFW.out.k1.bel HB5.out.1).cell 0
  clear hF hG
  show Calls _ _ #[.func (.yield l) #[] #[], .pointer (some ⟨be, 0, none⟩), .pointer (some ⟨bn, 0, none⟩), .pointer (some ⟨bf, 0, none⟩), .pointer (some ⟨bl, 0, none⟩)] _ _
  refine calls_marks Try.func25 rfl ?_
  simp only [Try.ntmps25, List.size_toArray, List.length_cons, List.length_nil, Nat.reduceAdd, Nat.reduceSub, Array.replicate_succ, Array.replicate_zero, List.push_toArray, List.append_toArray, List.nil_append, List.cons_append]
  go_wp2_with fail
  clear q0 q1
  have HI0 : Hid (ScI J D0 Gs W l W.heap.size [] [] (W.alloc (.cells #[.func (.yield l) #[] #[]] 71))) := Lib.hid ⟨⟨More D0 W _, fun _ h => .inl h, .inr ⟨Nat.le_refl _, HB5.out.2.lt⟩, (fun k hk => by cases hk), hJ.bel h0 HB5.out.1⟩, List.nodup_nil, HB5.out.2, KeepD.of_below HB5.out.1⟩
  obtain ⟨b5, hb5⟩ : ∃ z, z = W.heap.size := ⟨_, rfl⟩
  rw [← hb5] at HI0 ⊢
  obtain ⟨W5, hW5⟩ : ∃ z, z = W.alloc (.cells #[.func (.yield l) #[] #[]] 71) := ⟨_, rfl⟩
  rw [← hW5] at HI0 ⊢
  clear HB5 hW5 hb5 h0
  refine wp_loop (ScW J D0 Gs W l be bn bf bl b5 n (preS p gr ac m cN)) (ScM n) ?_ ?_
  · unfold ScW
    exact ⟨0, [], _, _, _, _, _, _, _, _, _, _, _, _, _, _, _, _, _, _, _, _, _, _, _, _, _, _, _, _, by omega, HI0.out, rfl⟩
  clear HI0 W5
  intro a wr hw
  unfold ScW at hw
  obtain ⟨i, hw⟩ := hw
  obtain ⟨ks, hw⟩ := hw
  obtain ⟨u6, hw⟩ := hw
  obtain ⟨u7, hw⟩ := hw
  obtain ⟨u8, hw⟩ := hw
  obtain ⟨u9, hw⟩ := hw
  obtain ⟨u10, hw⟩ := hw
  obtain ⟨u13, hw⟩ := hw
  obtain ⟨u14, hw⟩ := hw
  obtain ⟨u15, hw⟩ := hw
  obtain ⟨u16, hw⟩ := hw
  obtain ⟨u17, hw⟩ := hw
  obtain ⟨u18, hw⟩ := hw
  obtain ⟨u19, hw⟩ := hw
  obtain ⟨u20, hw⟩ := hw
  obtain ⟨u21, hw⟩ := hw
  obtain ⟨u22, hw⟩ := hw
  obtain ⟨u23, hw⟩ := hw
  obtain ⟨u24, hw⟩ := hw
  obtain ⟨u25, hw⟩ := hw
  obtain ⟨u26, hw⟩ := hw
  obtain ⟨u27, hw⟩ := hw
  obtain ⟨u28, hw⟩ := hw
  obtain ⟨u29, hw⟩ := hw
  obtain ⟨u30, hw⟩ := hw
  obtain ⟨u31, hw⟩ := hw
  obtain ⟨u32, hw⟩ := hw
  obtain ⟨u33, hw⟩ := hw
  obtain ⟨u34, hw⟩ := hw
  obtain ⟨u35, hw⟩ := hw
  obtain ⟨hi, hI, rfl⟩ := hw
  have HI := Lib.hid hI
  clear hI
  obtain ⟨ds, hds⟩ : ∃ z, z = ks.map mkD := ⟨_, rfl⟩
  rw [← hds]
  have HDS := Lib.hid hds
  clear hds
  by_cases hin : i < n
  case neg =>
    obtain rfl : n = i := by omega
    go_wp2_with fail
    obtain ⟨E, hE0, hE5, hEk, hJE⟩ := HI.out.ex
    show LeavesInM (FR none) 9 _ _ _ _ ds .returning wr
    rw [HDS.out]
    refine leaves_marks ks wr HI.out.nd (fun k hk => (hEk k hk).2) fun W' hit hsz => ⟨_, results_none rfl _ _ _, ⟨_, rfl⟩, .inl ⟨E, hE0, ?_⟩⟩
    have := hJ E _ wr W' hJE (hit.mono fun g hg => (hEk g hg).1)
    rwa [more_self hsz] at this
  case pos =>
  have hF := HFW.out.keep HG.out HI.out.kp
  obtain ⟨cc, k3⟩ := hF.k3
  obtain ⟨np, cp, cg, dn, uw, uh, tot, iu, kf, ka, kg, kn⟩ := hF.kf
  have HK2 := Lib.hid hF.k2; have HK3 := Lib.hid k3; have HKF := Lib.hid kf; have HKA := Lib.hid ka; have HKG := Lib.hid kg; have HKN := Lib.hid kn; have HKC := Lib.hid hF.kc
  have HB6 : Hid (Below wr.heap.size wr (wr.alloc (.cells #[.int .i64 i] 3)) ∧ Blk (wr.alloc (.cells #[.int .i64 i] 3)) wr.heap.size 3 #[.int .i64 i]) := Lib.hid ⟨(Below.refl _ _).alloc (Nat.le_refl _) _, Blk.new _ _ _⟩
  have q2 := (hF.k2.bel HB6.out.1).cell 0
  have q3 := (k3.bel HB6.out.1).cell 0
  have q6 := HB6.out.2.cell 0
  clear hF k3 kf ka kg kn
  go_upto_region 6 with (go_at_call 26; refine (unit_clo _ G C m cc i).mono ?_; rintro ex w7 ⟨c1, c2, c3, rfl, hc1, hc2, hc3, hk1, hk2, hk3, hb7⟩; have HU := Lib.hid (show Blk w7 c1 3 #[.int .i64 i] ∧ Blk w7 c2 24 #[.pointer (some ⟨G, 0, none⟩)] ∧ Blk w7 c3 45 #[.slice C m cc] ∧ wr.heap.size ≤ c1 ∧ wr.heap.size ≤ c2 ∧ wr.heap.size ≤ c3 from ⟨hk1, hk2, hk3, by have := HB6.out.1.size; omega, by have := HB6.out.1.size; omega, by have := HB6.out.1.size; omega⟩); have HB7 := Lib.hid (HB6.out.1.trans (hb7.mono HB6.out.1.size)); have HB67 := Lib.hid hb7; clear hc1 hc2 hc3 hk1 hk2 hk3 hb7 q2 q3 q6)
  have q4 := (HK3.out.bel HB7.out).cell 0
  go_cut [7, 21] from 14 to 27 (fun v u wx => v = .func (.func 31) #[] #[.pointer (some ⟨c1, 0, none⟩), .pointer (some ⟨c2, 0, none⟩), .pointer (some ⟨c3, 0, none⟩)] ∧ u = .bool (decide (m = 1)) ∧ wx = w7)
  case first =>
    go_wp2_with fail
    go_meet
    case rel => exact ⟨rfl, congrArg Value.bool (by first | rfl | (rw [Bool.eq_iff_iff]; simp; omega) | (rw [Bool.eq_iff_iff]; simp)), by first | rfl | trivial⟩
  case rest =>
  obtain ⟨rfl, rfl, rfl⟩ := hcut
  obtain ⟨w7, rfl⟩ : ∃ z : World, z = wc := ⟨_, rfl⟩
  go_step
  go_cut [7] from 14 to 27 (fun v wx => ∃ gf lb, v = .func (.func gf) #[] lb ∧ (∀ args w, (callFunc gf args).run Try.prog w = .ok (.enter gf args) w) ∧ Hid (ScU J D0 Gs W l b5 wr.heap.size (preS p gr ac m cN i) ks gf lb (spotsU p gr ac m cN i) i wx))
  case first =>
    by_cases m1 : m = 1
    case pos =>
      obtain rfl := m1
      obtain ⟨gc, oc, hCe, hgc, hqc⟩ := HKC.out 0 (by decide)
      subst hCe
      have HQC := Lib.hid hqc
      clear hqc
      have d1 : decide (1 = 1) = true := rfl
      go_upto_region 7 with fail
      clear q4
      refine region_plan (.run [0, 1, 2, 3, 4] (.ev 5 (.run [6] .fin))) (fun w' => True) (by kernel_rfl) trivial ?_
      intro wd hwd
      have HB8 := Lib.hid (show Below wr.heap.size wr wd from hwd ▸ HB7.out.drew)
      have c2 : wd.cell? ⟨bf, 0, none⟩ = some (.pointer (some ⟨G, 0, none⟩)) := (HK2.out.bel HB8.out).cell 0
      have c3 : wd.cell? ⟨bl, 0, none⟩ = some (.slice (some ⟨gc, oc, none⟩) 1 cc) := (HK3.out.bel HB8.out).cell 0
      have c4 : wd.cell? ⟨gc, oc, none⟩ = some (.int .i64 (cN 0)) := (HB8.out.cell (p := ⟨gc, oc, none⟩) hgc).trans HQC.out
      have HB6d := Lib.hid ((HB6.out.2.bel HB67.out).bel (hwd ▸ (Below.refl _ w7).drew))
      have c6 : wd.cell? ⟨wr.heap.size, 0, none⟩ = some (.int .i64 i) := HB6d.out.cell 0
      clear hwd
      refine plan_run fun m hm => ?_
      simp only [pickO, List.filterMap_cons, List.filterMap_nil, List.getElem?_toArray, List.getElem?_cons_zero, List.getElem?_cons_succ] at hm
      subst hm
      go_wp2_with fail
      refine ⟨rfl, by rfl, ?_⟩
      refine plan_ev fun m hm => ?_
      simp only [pickO, List.filterMap_cons, List.filterMap_nil, List.getElem?_toArray, List.getElem?_cons_zero, List.getElem?_cons_succ] at hm
      subst hm
      go_wp2_with (go_at_call 27; refine (own_clo wd G _ Ag np cg gr ac dn uw uh tot iu (HKF.out.bel HB8.out) (HKG.out.bel HB8.out) (cN 0) (HKN.out 0 (by decide)) i).mono ?_; rintro ex w8 ⟨e1, e2, e3, rfl, he1, he2, he3, hk1, hk2, hk3, hb8⟩; have HE := Lib.hid (show Blk w8 e1 3 #[.int .i64 (cN 0)] ∧ Blk w8 e2 3 #[.int .i64 i] ∧ Blk w8 e3 33 #[.int .i64 (gr (cN 0) 0), .int .i64 (gr (cN 0) 1), .int .i64 (gr (cN 0) 2), .int .i64 (gr (cN 0) 3)] ∧ wr.heap.size ≤ e1 ∧ wr.heap.size ≤ e2 ∧ wr.heap.size ≤ e3 from ⟨hk1, hk2, hk3, Nat.le_trans HB8.out.size he1, Nat.le_trans HB8.out.size he2, Nat.le_trans HB8.out.size he3⟩); have HB9 := Lib.hid (HB8.out.trans (hb8.mono HB8.out.size)); have HB68 := Lib.hid (HB6d.out.bel hb8); clear he1 he2 he3 hk1 hk2 hk3 hb8 c2 c3 c4 c6)
      refine ⟨rfl, trivial, ?_⟩
      try simp only [Act.put, List.setIfInBounds_toArray, List.set_cons_zero, List.set_cons_succ]
      refine plan_run fun m hm => ?_
      simp only [pickO, List.filterMap_cons, List.filterMap_nil, List.getElem?_toArray, List.getElem?_cons_zero, List.getElem?_cons_succ] at hm
      subst hm
      go_wp2_with fail
      refine ⟨rfl, by rfl, ?_⟩
      refine plan_fin ?_
      go_wp2_with fail
      go_meet
      case rel =>
        refine ⟨_, _, rfl, eg_of Try.func32 (by kernel_rfl) rfl, Lib.hid (ScU.of hJ HI.out HB9.out HB68.out ?_)⟩
        have e9 : spotsU p gr ac 1 cN i = [⟨cN 0, (i : Int) / gr (cN 0) 2, (i : Int) % gr (cN 0) 2⟩] := if_pos rfl
        rw [e9]
        exact own1_seq _ w8 e1 e2 e3 (cN 0) i _ _ (gr (cN 0) 2) _ (by omega) (by omega) hgr.1 hgr.2 HE.out.1 HE.out.2.1 HE.out.2.2.1 ⟨.inr HE.out.2.2.2.1, HE.out.1.lt⟩ ⟨.inr HE.out.2.2.2.2.1, HE.out.2.1.lt⟩ ⟨.inr HE.out.2.2.2.2.2, HE.out.2.2.1.lt⟩
    case neg =>
      have d1 : decide (m = 1) = false := by simpa using m1
      go_wp2_with fail
      go_meet
      case rel =>
        refine ⟨_, _, rfl, eg_of Try.func31 (by kernel_rfl) rfl, Lib.hid (ScU.of hJ HI.out HB7.out (HB6.out.2.bel HB67.out) ?_)⟩
        have e9 : spotsU p gr ac m cN i = unL p cN m ((i : Int) / ac) ((i : Int) % ac) := if_neg m1
        rw [e9]
        refine unit1_seq _ w7 c1 c2 c3 G i ac m C A p cN (by omega) (by omega) a0 a1 hm hp ⟨HU.out.1, HU.out.2.1, ⟨cc, HU.out.2.2.1⟩, ⟨np, cp, .slice Ag np cg, dn, uw, uh, tot, iu, HKF.out.bel HB7.out, HKA.out.bel HB7.out, HKN.out⟩, HKC.out.bel HB7.out⟩ ⟨⟨.inr HU.out.2.2.2.1, HU.out.1.lt⟩, ⟨.inr HU.out.2.2.2.2.1, HU.out.2.1.lt⟩, ⟨.inr HU.out.2.2.2.2.2, HU.out.2.2.1.lt⟩, ⟨.inl HG.out.gf, (HKF.out.bel HB7.out).lt⟩, fun g off e => ⟨.inl (HG.out.gc g off e), ?_⟩, fun g off e => ⟨.inl (HG.out.ga g off e), ?_⟩⟩
        · obtain ⟨g', off', e', hl, _⟩ := HKC.out 0 hm0
          rw [e] at e'
          cases e'
          have := HB7.out.size; omega
        · obtain ⟨g', off', e', hl, _⟩ := HKA.out (cN 0) (HKN.out 0 hm0)
          rw [e] at e'
          cases e'
          have := HB7.out.size; omega
  case rest =>
  obtain ⟨gf, lb, rfl, heg, HSU⟩ := hcut
  go_wp2_with fail
  obtain ⟨E0, e1, e2, e3, e4, e5, Gi, g1, g2, hseq⟩ := HSU.out.ex
  have k5 := HSU.out.k5
  have k6 := HSU.out.k6
  have hnd := HSU.out.nd
  have hkp := HSU.out.kp
  obtain ⟨b6, hb6⟩ : ∃ z, z = wr.heap.size := ⟨_, rfl⟩
  rw [← hb6] at e3 k6 ⊢
  have HDS2 := HDS
  clear HSU HU HB7 HB67 HB6 HKF HKA HKG HKN HKC HK2 HK3 q4 hb6 HI HFW HG
  refine rangeX (gf := gf) (lb := lb) rfl heg hseq (fun W hb => KeepD.of_below hb) (fun h k => KeepD.trans h k) (fun W' lk o o' hl _ _ _ => ⟨by simp, fun g hg _ => World.putObj_heap_other (fun e => by have := g2 g hg; omega)⟩) (fun _ => rfl)
    (fun D pre Wx => ∃ E, (∀ g, D g → E g) ∧ (∀ g, E0 g → E g) ∧ J E (preS p gr ac m cN i ++ pre.map fun s => ((i : Int), s)) Wx ∧ KeepD (fun g => E0 g ∨ Gs g) wc Wx ∧ ∀ g, (E0 g ∨ Gs g) → g < wc.heap.size → ¬ D g)
    (fun c D pre Wx => c = .ret ∧ ∃ E, (∀ g, D g → E g) ∧ (∀ g, E0 g → E g) ∧ Jx E (preS p gr ac m cN i ++ pre.map fun s => ((i : Int), s)) Wx ∧ KeepD E0 wc Wx ∧ ∀ g, E0 g → g < wc.heap.size → ¬ D g)
    ?hI ?hIx (fun _ => False) (fun _ h => h.elim) ⟨E0, fun _ h => h.elim, fun _ h => h, by simpa using e5, KeepD.refl _ _, fun _ _ _ h => h⟩ ?round ?done ?stop
  case hI =>
    rintro D s A B ⟨E, h1, h2, h3, h4, h5⟩ hit
    exact ⟨More E A B, fun g hg => hg.imp (h1 g) id, fun g hg => .inl (h2 g hg), hJ _ _ _ _ h3 (hit.mono h1), ⟨Nat.le_trans h4.1 hit.size, fun g hg hl => (hit.same g (Nat.lt_of_lt_of_le hl h4.1) (h5 g hg hl)).trans (h4.2 g hg hl)⟩, fun g hg hl hd => hd.elim (h5 g hg hl) fun h => by have := h4.1; omega⟩
  case hIx =>
    rintro c D s A B ⟨hc, E, h1, h2, h3, h4, h5⟩ hit
    exact ⟨hc, More E A B, fun g hg => hg.imp (h1 g) id, fun g hg => .inl (h2 g hg), hJx _ _ _ _ h3 (hit.mono h1), ⟨Nat.le_trans h4.1 hit.size, fun g hg hl => (hit.same g (Nat.lt_of_lt_of_le hl h4.1) (h5 g hg hl)).trans (h4.2 g hg hl)⟩, fun g hg hl hd => hd.elim (h5 g hg hl) fun h => by have := h4.1; omega⟩
  case round =>
    rintro lr D pre x Wx hDl hDl1 hlr hlt _ ⟨E, h1, h2, h3, h4, h5⟩ ⟨r, hx⟩
    have hb : Below Wx.heap.size Wx (Wx.alloc (.cells (spC x) 52)) := (Below.refl _ _).alloc (Nat.le_refl _) _
    have hk8 : Blk (Wx.alloc (.cells (spC x) 52)) Wx.heap.size 52 (spC x) := Blk.new _ _ _
    have hout : ∃ r, preS p gr ac m cN n = (preS p gr ac m cN i ++ pre.map fun s => ((i : Int), s)) ++ ((i : Int), x) :: r := by
      obtain ⟨r2, hr2⟩ := preS_le (p := p) (gr := gr) (ac := ac) (m := m) (cN := cN) (show i + 1 ≤ n by omega)
      refine ⟨(r.map fun s => ((i : Int), s)) ++ r2, ?_⟩
      rw [hr2, preS_succ, hx]
      simp [List.append_assoc]
    have hkx5 : Blk Wx b5 _ _ := h4.blk (.inl e2) k5
    have hkx6 : Blk Wx b6 _ _ := h4.blk (.inl e3) k6
    have HOUT := Lib.hid hout; have HH := Lib.hid (show (∀ g, D g → E g) ∧ (∀ g, E0 g → E g) ∧ J E (preS p gr ac m cN i ++ pre.map fun s => ((i : Int), s)) Wx ∧ KeepD (fun g => E0 g ∨ Gs g) wc Wx ∧ ∀ g, (E0 g ∨ Gs g) → g < wc.heap.size → ¬ D g from ⟨h1, h2, h3, h4, h5⟩)
    have HB := Lib.hid hb; have HK8 := Lib.hid hk8; have HX5 := Lib.hid hkx5; have HX6 := Lib.hid hkx6
    clear hx hout h1 h2 h3 h4 h5 hb hk8 hkx5 hkx6
    simp only [← fr_in]
    simp only [spE, spC, List.zip_toArray, List.zip_cons_cons, List.zip_nil_left, List.zip_nil_right, List.foldl_toArray, List.size_toArray, List.length_cons, List.length_nil, List.foldl_cons, List.foldl_nil, List.setIfInBounds_toArray, List.set_cons_zero, List.set_cons_succ]
    gi_wp2
    refine ⟨KeepD.of_below HB.out, KeepD.of_below HB.out, fun o o' hl ho ho' => ?_⟩
    obtain ⟨Wy, hWy⟩ : ∃ z, z = (Wx.alloc (.cells (spC x) 52)).putObj lr o' := ⟨_, rfl⟩
    have hky8 : Blk Wy Wx.heap.size 52 (spC x) := by rw [hWy]; exact HK8.out.putObj hl ho _
    have hky5 : Blk Wy b5 71 #[.func (.yield l) #[] #[]] := by rw [hWy]; exact (HX5.out.bel HB.out).putObj hl ho _
    have hky6 : Blk Wy b6 3 #[.int .i64 i] := by rw [hWy]; exact (HX6.out.bel HB.out).putObj hl ho _
    have hsz : Wy.heap.size = (Wx.alloc (.cells (spC x) 52)).heap.size := by rw [hWy]; simp
    have hit : It (More E Wx Wy) (Wx.alloc (.cells (spC x) 52)) Wy := by rw [hWy]; exact It.putObj _ (.inl (HH.out.1 _ hDl))
    have hmore : More E Wx (Wx.alloc (.cells (spC x) 52)) = More E Wx Wy := by unfold More; rw [hsz]
    have hJy : J (More E Wx Wy) (preS p gr ac m cN i ++ pre.map fun s => ((i : Int), s)) Wy := by
      have h1 := hJ.bel HH.out.2.2.1 HB.out
      rw [hmore] at h1
      have h2 := hJ _ _ _ _ h1 hit
      rwa [more_self hsz] at h2
    have hkeep : KeepD (fun g => E0 g ∨ Gs g) wc Wy := ⟨by rw [hsz]; exact Nat.le_trans HH.out.2.2.2.1.1 HB.out.size, fun g hg hgl => by
      have hne : g ≠ lr := fun e => HH.out.2.2.2.2 g hg hgl (e ▸ hDl)
      have hgx : g < Wx.heap.size := Nat.lt_of_lt_of_le hgl HH.out.2.2.2.1.1
      rw [hWy, World.putObj_heap_other hne, HB.out.block g hgx]
      exact HH.out.2.2.2.1.2 g hg hgl⟩
    obtain ⟨fn, tm, asg, bd, hy1, hy2⟩ := hy (More E Wx Wy) _ ((i : Int), x) Wy hJy HOUT.out (fun g hg => .inl (HH.out.2.1 g (e1 g hg)))
    replace hy1 : (Instr.yield l #[.int .i64 i, .agg #[.int .i64 x.c, .int .i64 x.r, .int .i64 x.k]]).run Try.prog Wy = .ok (.round l fn tm asg bd) Wy := hy1
    have c5 : Wy.cell? ⟨b5, 0, none⟩ = some (.func (.yield l) #[] #[]) := hky5.cell 0
    have c6 : Wy.cell? ⟨b6, 0, none⟩ = some (.int .i64 i) := hky6.cell 0
    have c80 : Wy.cell? ⟨Wx.heap.size, 0, none⟩ = some (.int .i64 x.c) := hky8.cell 0
    have c81 : Wy.cell? ⟨Wx.heap.size, 1, none⟩ = some (.int .i64 x.r) := hky8.cell 1
    have c82 : Wy.cell? ⟨Wx.heap.size, 2, none⟩ = some (.int .i64 x.k) := hky8.cell 2
    have HKE := Lib.hid hkeep; have HY2 := Lib.hid (hy2.to (some lr) 7)
    have HDE := Lib.hid (fun g (hg : D g) => (Or.inl (HH.out.1 g hg) : More E Wx Wy g))
    unfold spC at hWy
    rw [← hWy]
    clear hWy hky8 hky5 hky6 hit hmore hJy hkeep hy2 hl ho ho'
    gi_wp2
    refine RoundIn.mono HY2.out ?_
    rintro ex W' (⟨rfl, hj, hg, hd⟩ | ⟨rfl, hjx, hd⟩)
    · have hfin : KeepD D Wy W' ∧ KeepD Gi Wy W' ∧ ∃ E, (∀ g, D g → E g) ∧ (∀ g, E0 g → E g) ∧ J E (preS p gr ac m cN i ++ (pre ++ [x]).map fun s => ((i : Int), s)) W' ∧ KeepD (fun g => E0 g ∨ Gs g) wc W' ∧ ∀ g, (E0 g ∨ Gs g) → g < wc.heap.size → ¬ D g := by
        have hu : KeepD (fun g => E0 g ∨ Gs g) Wy W' := ⟨hd.1, fun g hg0 hgl => hg0.elim (fun h => hd.2 g (.inl (HH.out.2.1 g h)) hgl) fun h => hg.2 g h hgl⟩
        exact ⟨⟨hd.1, fun g hg0 hgl => hd.2 g (HDE.out g hg0) hgl⟩, ⟨hd.1, fun g hg0 hgl => hu.2 g ((g1 g hg0).symm) hgl⟩, More E Wx Wy, HDE.out, fun g h => .inl (HH.out.2.1 g h), by simpa [List.append_assoc] using hj, HKE.out.trans hu, HH.out.2.2.2.2⟩
      have HFIN := Lib.hid hfin
      clear hj hg hd hfin c5 c6 c80 c81 c82 hy1
      gi_wp2
      exact HFIN.out
    · have hfin : KeepD D Wy W' ∧ ∃ E, (∀ g, D g → E g) ∧ (∀ g, E0 g → E g) ∧ Jx E (preS p gr ac m cN i ++ (pre ++ [x]).map fun s => ((i : Int), s)) W' ∧ KeepD E0 wc W' ∧ ∀ g, E0 g → g < wc.heap.size → ¬ D g := by
        have hu : KeepD E0 Wy W' := ⟨hd.1, fun g hg0 hgl => hd.2 g (.inl (HH.out.2.1 g hg0)) hgl⟩
        have hu0 : KeepD E0 wc Wy := ⟨HKE.out.1, fun g hg0 hgl => HKE.out.2 g (.inl hg0) hgl⟩
        exact ⟨⟨hd.1, fun g hg0 hgl => hd.2 g (HDE.out g hg0) hgl⟩, More E Wx Wy, HDE.out, fun g h => .inl (HH.out.2.1 g h), by simpa [List.append_assoc] using hjx, hu0.trans hu, fun g hg => HH.out.2.2.2.2 g (.inl hg)⟩
      have HFIN := Lib.hid hfin
      clear hjx hd hfin c5 c6 c80 c81 c82 hy1
      gi_wp2
      exact ⟨HFIN.out.1, rfl, HFIN.out.2⟩
  case done =>
    rintro d D W' hd hDd _ ⟨E, h1, h2, h3, h4, h5⟩ hdef
    have hn : Hid (ScI J D0 Gs W l b5 (preS p gr ac m cN (i + 1)) (d :: ks) W') := Lib.hid ⟨⟨E, fun g hg => h2 g (e1 g hg), h2 _ e2, fun k hk => by
        rcases List.mem_cons.1 hk with rfl | hk
        · exact ⟨h1 _ hDd, hdef⟩
        · exact ⟨h2 k (e4 k hk).1, (h4.2 k (.inl (e4 k hk).1) (Array.getElem?_eq_some_iff.1 (e4 k hk).2).1).trans (e4 k hk).2⟩, by rw [preS_succ]; exact h3⟩,
      List.nodup_cons.2 ⟨fun hk => by have := (Array.getElem?_eq_some_iff.1 (e4 d hk).2).1; omega, hnd⟩, h4.blk (.inl e2) k5, hkp.trans ⟨h4.1, fun g hg hgl => h4.2 g (.inr hg) hgl⟩⟩
    clear h1 h2 h3 h4 h5 hdef hDd hd e1 e2 e3 e4 e5 g1 g2 hseq k5 k6 hnd hkp
    go_wp2_with fail
    refine ⟨?_, by simp [ScM, intOf]; omega⟩
    unfold ScW
    rw [HDS.out]
    exact ⟨i + 1, d :: ks, _, _, _, _, _, _, _, _, _, _, _, _, _, _, _, _, _, _, _, _, _, _, _, _, _, _, _, _, by omega, hn.out, rfl⟩
  case stop =>
    rintro d c D pre W' hd hDd _ ⟨r, hpre⟩ ⟨rfl, E, h1, h2, h3, h4, h5⟩ hdef
    have hpx : preS p gr ac m cN i ++ pre.map (fun s => ((i : Int), s)) <+: preS p gr ac m cN n := by
      obtain ⟨r2, hr2⟩ := preS_le (p := p) (gr := gr) (ac := ac) (m := m) (cN := cN) (show i + 1 ≤ n by omega)
      refine ⟨(r.map fun s => ((i : Int), s)) ++ r2, ?_⟩
      rw [hr2, preS_succ, ← hpre]
      simp [List.append_assoc]
    have hks : ∀ k ∈ d :: ks, W'.heap[k]? = some (.deferred (some [])) ∧ E k := fun k hk => by
      rcases List.mem_cons.1 hk with rfl | hk
      · exact ⟨hdef, h1 _ hDd⟩
      · exact ⟨(h4.2 k (e4 k hk).1 (Array.getElem?_eq_some_iff.1 (e4 k hk).2).1).trans (e4 k hk).2, h2 k (e4 k hk).1⟩
    have hnd2 : (d :: ks).Nodup := List.nodup_cons.2 ⟨fun hk => by have := (Array.getElem?_eq_some_iff.1 (e4 d hk).2).1; omega, hnd⟩
    have HKS := Lib.hid hks; have HPX := Lib.hid hpx; have H3 := Lib.hid h3; have HE0 := Lib.hid (fun g hg => h2 g (e1 g hg))
    clear hpre hks hpx h1 h2 h3 h4 h5 hdef hDd hd e1 e2 e3 e4 e5 g1 g2 hseq k5 k6 hnd hkp
    go_wp2_with fail
    show LeavesInM (FR none) 9 _ _ _ _ (mkD d :: ds) .returning W'
    rw [HDS.out]
    refine leaves_marks (d :: ks) W' hnd2 (fun k hk => (HKS.out k hk).1) fun W'' hit hsz => ⟨_, results_none rfl _ _ _, ⟨_, rfl⟩, .inr ⟨E, _, HE0.out, HPX.out, ?_⟩⟩
    have := hJx E _ W' W'' H3.out (hit.mono fun g hg => (HKS.out g hg).2)
    rwa [more_self hsz] at this
end Go.Proofs.Ytjfnlgmllhjonaa

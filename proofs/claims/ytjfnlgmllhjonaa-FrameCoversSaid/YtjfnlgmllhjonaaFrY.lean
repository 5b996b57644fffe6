/- FrameScans, up to its loop and behind (gen_fry.py). No condition. -/
import Derived.Test.YtjfnlgmllhjonaaFrX
import Derived.Test.YtjfnlgmllhjonaaRgC
import Derived.Sort.CutIn
namespace Go.Proofs.Ytjfnlgmllhjonaa
open Go.RowKit
set_option linter.unusedSimpArgs false
set_option linter.unusedVariables false
set_option maxRecDepth 100000
attribute [local go_sem] Oper.semAt_some
theorem wpList_load_midG {P : Program} {ops : Array Oper} {rest : List Oper} {op : Oper} {a : Act} {w : World} {Q : Exit → Act → World → Prop} (hw : Region.wanted op (yielded ops a.tmps) = true) (ty : TypeId) (x : Operand) (ho : op.op = .load ty x)
    (b o : Nat) (hx : a.eval x = .pointer (some ⟨b, o, none⟩)) (cs : List Value) (d : TypeDesc) (hc : w.rangeAt b o cs) (hu : P.underlying ty = some d) (hd : d.isRow = true) (hi : (P.info? ty).map (·.size) = some cs.length)
    (h : wpList P ops Q rest (a.put op.dst (.agg cs.toArray)) w) : wpList P ops Q (op :: rest) a w :=
  wpList_step fun K hK => by
    simp only [hw, if_true]
    exact wp_load_mid ty x ho b o hx cs d hc hu hd hi (hK _ _ h)
theorem exec_neq {P : Program} {ρ : Operand → Value} {o : Oper} {w : World} {t u : TypeId} {x y : Operand} {X Y : Array Value} {v : Value} (ho : o.op = .binOp .neq t x y u) (hx : ρ x = .agg X) (hy : ρ y = .agg Y) (hg : P.eqGuardType P.depth t = false)
    (h : (binOp .neq t (.agg X) (.agg Y)).run P w = .ok v w) : (execOp ρ o).run P w = .ok (.value v) w := by
  unfold execOp
  simp only [ho, hx, hy]
  have e : (Go.eqGuard .neq t x y (.agg X) (.agg Y)).run P w = .ok () w := by
    unfold Go.eqGuard
    simp [Sem.run_bind, hg, go_sem]
  rw [Sem.run_bind, Sem.run_bind, e]
  simp only [Result.andThen_ok, h]
  rfl
theorem neq_spot (w : World) (x y z u : Int) : (binOp .neq 59 (.agg #[.int .i64 x, .int .i64 y, .int .i64 z, .int .i64 u]) (.agg #[.int .i64 x, .int .i64 y, .int .i64 z, .int .i64 u])).run Try.prog w = .ok (.bool false) w := by
  go_simp
theorem leave_true {w W : World} {fn : Func} {tmps : Array Value} {d r10 : Nat} {p : Tmp} (hd : W.heap[d]? = some (.deferred (some []))) (hb : Below w.heap.size w W) (hle : w.heap.size ≤ d) (h10 : Blk W r10 4 #[.bool true]) (hne : r10 ≠ d) (hf : fn.results = #[.cell p 4]) (hp : tmps.getD p undef = .pointer (some ⟨r10, 0, none⟩)) :
    LeavesInM (FR none) 9 Try.prog fn tmps (fun e w' => e = .returned (.bool true) ∧ Below w.heap.size w w') [mkD d] .returning W := by
  refine leaves_marks [d] W (by simp) (fun k hk => by simp at hk; subst hk; exact hd) fun W' hit hsz => ?_
  have h10' : Blk W' r10 4 #[.bool true] := (hit.same r10 h10.lt (by simpa using hne)).trans h10
  exact ⟨_, results_cellB hf _ _ r10 _ hp (h10'.cell 0) (aggB _), rfl, hb.trans ⟨hit.os, hit.tape, hit.output, hit.size, fun g hg => hit.same g (Nat.lt_of_lt_of_le hg hb.size) (by simp; omega)⟩⟩
theorem RdZ.toN {w : World} {C : Option Addr} {n m : Nat} {fc : Nat → Int} {p gr : Nat → Nat → Int} {ac dn : Int} {cN : Nat → Nat} {nN oc ow acN dnN : Nat} (h : RdZ w C m fc) (hs : ScP n m fc p gr ac dn cN nN oc ow acN dnN) : RdN w C m cN := fun j hj => by
  obtain ⟨g, off, h1, h2, h3⟩ := h j hj
  exact ⟨g, off, h1, h2, by rw [h3, (hs.fce j hj).1]⟩
theorem rscan_all (w : World) (uw uh : Int) (Ap Ag C : Option Addr) (cp cg cc : Nat) {n m : Nat} {fc : Nat → Int} {p gr : Nat → Nat → Int} {ac dn : Int} {cN : Nat → Nat} {nN oc ow acN dnN : Nat} (h : ScP n m fc p gr ac dn cN nN oc ow acN dnN) (hr : risesB n m fc = true) (hC : RdZ w C m fc) (hP : RdS w Ap n 2 p) (hG : RdS w Ag n 4 gr) :
    Calls Try.prog 18 #[.agg (rfC uw uh ac dn (.slice Ap n cp) (.slice Ag n cg)), .slice C m cc] w fun e w' => ∃ v, e = .returned v ∧ OwnC rsC 4 w' w.heap.size 59 v (preS p gr ac m cN nN) ∧ Below w.heap.size w w' := by
  by_cases hm1 : m = 1
  · subst hm1
    have e : preS p gr ac 1 cN nN = refL1 (cN 0) oc ow := by
      have := h.nn
      rw [if_pos rfl] at this
      rw [this]
      exact preS_one (by have := h.ocr; omega) h.oca
    rw [e]
    exact rscan_one w uw uh ac dn (.slice Ap n cp) Ag C n cg cc fc (cN 0) oc ow gr hC (h.fce 0 (by decide)).1 hr hG h.oca h.owa (by have := h.ocr; omega) (by have := h.owr; omega) (h.fce 0 (by decide)).2
  · have e : preS p gr ac m cN nN = refLn p cN m acN dnN := by
      have := h.nn
      rw [if_neg hm1] at this
      rw [this, h.aca]
      exact preS_many (by have := h.acr; omega) hm1 fun j hj => by have := h.hp j hj; omega
    rw [e, h.aca, h.dna]
    exact rscan_many w uw uh acN dnN Ap Ag C n cp n cg m cc fc cN p hC h.fce hr hm1 h.m4 hP h.hp (by have := h.acr; omega) (by have := h.dnr; omega)
theorem scp_nm {n m : Nat} {fc : Nat → Int} {p gr : Nat → Nat → Int} {ac dn : Int} {cN : Nat → Nat} {nN oc ow acN dnN : Nat} (h : ScP n m fc p gr ac dn cN nN oc ow acN dnN) :
    (0 ≤ ac ∧ ac ≤ 1000000) ∧ (0 ≤ dn ∧ dn ≤ 1000000) ∧ (0 ≤ gr (cN 0) 2 ∧ gr (cN 0) 2 ≤ 1000000 ∧ 0 ≤ gr (cN 0) 3 ∧ gr (cN 0) 3 ≤ 1000000) ∧ (if m = 1 then gr (cN 0) 2 * gr (cN 0) 3 else ac * dn) = (nN : Int) := by
  have h1 := h.acr; have h2 := h.dnr; have h3 := h.ocr; have h4 := h.owr
  rw [h.aca, h.dna, h.oca, h.owa, h.nn]
  refine ⟨by omega, by omega, by omega, ?_⟩
  by_cases e : m = 1
  · rw [if_pos e, if_pos e, ← Int.natCast_mul, Nat.mul_comm]
  · rw [if_neg e, if_neg e, ← Int.natCast_mul, Nat.mul_comm]
theorem OwnS.rd {w : World} {base : Nat} {e : TypeId} {q n n2 c : Nat} {A : Option Addr} {f : Nat → Nat → Int} (h : OwnS w base e q (.slice A n2 c) n f) : RdS w A n q f := by
  obtain ⟨A', c', e1, _, h2⟩ := h.form
  injection e1 with e1 _ _
  subst e1
  exact h2
set_option maxHeartbeats 4000000 in
theorem scans_go (a b : Int) (A C : Option Addr) (n c m cc : Nat) (f : Nat → Nat → Int) (fc : Nat → Int) (st : Int) (hst : 0 ≤ st ∧ st ≤ 255) (hn : n ≤ 100) (hm : m ≤ 20) (w : World) (hR : RdS w A n 2 f) (hC : RdZ w C m fc) (h0 : faultV a b n f = 0) (h6 : ¬ 600 < sumU (gridU a b (pF n f) n) n) (hri : risesB n m fc = true) : Calls Try.prog 6 #[.int .i64 a, .int .i64 b, .slice A n c, .slice C m cc, .int .u8 st] w fun e w' => e = .returned (.bool true) ∧ Below w.heap.size w w' := by
  have HW0 := Lib.hid (show Below w.heap.size w ((w.alloc (.cells #[.int .u8 st] 5)).alloc (.cells #[.bool false] 4)) from ((Below.refl _ _).alloc (Nat.le_refl _) _).alloc (by simp) _)
  have HR0 : Hid (Blk ((w.alloc (.cells #[.int .u8 st] 5)).alloc (.cells #[.bool false] 4)) (w.heap.size + 1) 4 #[.bool false]) := Lib.hid (Blk.nw (by simp))
  have HS0 : Hid (Blk ((w.alloc (.cells #[.int .u8 st] 5)).alloc (.cells #[.bool false] 4)) w.heap.size 5 #[.int .u8 st]) := Lib.hid ((Blk.new _ _ _).alloc _)
  have hg2 : decide ((100 : Int) < (n : Int)) = false := by simp; omega
  have hg3 : decide ((20 : Int) < (m : Int)) = false := by simp; omega
  have HR := Lib.hid hR; have H0 := Lib.hid h0; have H6 := Lib.hid h6; have HC := Lib.hid hC; have HRI := Lib.hid hri
  clear hR h0 h6 hC hri
  refine calls_marks Try.func6 rfl ?_
  simp only [Try.ntmps6, List.size_toArray, List.length_cons, List.length_nil, Nat.reduceAdd, Nat.reduceSub, Array.replicate_succ, Array.replicate_zero, List.push_toArray, List.append_toArray, List.nil_append, List.cons_append]
  go_upto_region 7 with (first | (go_at_call 7; refine (awake_walk _).mono ?_; rintro e w1 ⟨rfl, hb1⟩; have HB1 := Lib.hid (HW0.out.trans (hb1.mono (by simp; omega))); have HR1 := Lib.hid (HR0.out.bel hb1); have HS1 := Lib.hid (HS0.out.bel hb1); clear hb1) | (go_at_call 9; refine (parts_walk A n c f w1 (by omega) (HR.out.bel HB1.out)).mono ?_; intro e w2 hp; obtain ⟨v2, rfl, hO2, hb2⟩ := hp.out; obtain ⟨A2, c2, rfl, _, hR2⟩ := hO2.form; have HO2 := Lib.hid hR2; have HB2 := Lib.hid (HB1.out.trans (hb2.mono HB1.out.size)); have HR2 := Lib.hid (HR1.out.bel hb2); have HS2 := Lib.hid (HS1.out.bel hb2); clear hp hO2 hb2 hR2) | (go_at_call 8; refine (new_walk a b A2 n c2 f w2 (by omega) HO2.out).mono ?_; intro e w3 hp; obtain ⟨G, pv, gs, p, gr, ac, dn, uw, uh, tot, iu, rfl, hI, hb3, hp', hg', hac, hdn, huw, huh, htot, hG⟩ := (NewPost.letters hp H0.out).out; have HOF := Lib.hid (owns_fact H0.out hp' hg' hac hdn huw huh); have HEQ := Lib.hid (And.intro hp' (And.intro hg' (And.intro hac (And.intro hdn (And.intro huw huh))))); have HTOT := Lib.hid htot; have HI := Lib.hid hI; have HB3 := Lib.hid (HB2.out.trans (hb3.mono HB2.out.size)); have HR3 := Lib.hid (HR2.out.bel hb3); have HS3 := Lib.hid (HS2.out.bel hb3); clear hp hb3 hI hp' hg' hac hdn huw huh htot))
  obtain ⟨cN, nN, oc, ow, acN, dnN, hsp⟩ := scp_of H0.out HEQ.out.1 HEQ.out.2.1 HEQ.out.2.2.1 HEQ.out.2.2.2.1 HOF.out (by have h6 := H6.out; have e2 := HEQ.out.1; have e3 := HEQ.out.2.1; rw [e3, e2]; omega) HRI.out
  have HSP := Lib.hid hsp; have HNM := Lib.hid (scp_nm hsp)
  obtain ⟨A3, c3, rfl, _, _⟩ := HI.out.po.form
  obtain ⟨A4, c4, rfl, _, _⟩ := HI.out.go.form
  clear hsp
  go_upto_region 14 with (first | (go_at_call 14; refine (blocks_walk w3 G _ _ _ _ _ _ _ _ HI.out.fr).mono ?_; rintro e w' ⟨rfl, hw'⟩; rw [hw']; clear hw'; have d6 : decide (600 < tot) = false := (by have h6 := H6.out; have e1 := HTOT.out; have e2 := HEQ.out.1; have e3 := HEQ.out.2.1; rw [e1, e3, e2]; simpa using h6)) | (go_at_call 13; refine (rnew_walk a b A n c f w3 (by omega) (HR.out.bel HB3.out)).mono ?_; intro e w5 hp; obtain ⟨pv2, gs2, rfl, hpo, hgo, hb5⟩ := (RefPost.get hp H0.out HEQ.out).out; obtain ⟨A5, c5, rfl, _, hR5⟩ := hgo.form; obtain ⟨A6, c6, rfl, _, hR6⟩ := hpo.form; have HB5 := Lib.hid (HB3.out.trans (hb5.mono HB3.out.size)); have HB6 := Lib.hid (HB5.out.alloc HB5.out.size (.cells #[.int .i64 uw, .int .i64 uh, .int .i64 ac, .int .i64 dn, .slice A6 n c6, .slice A5 n c5] 39)); have HM6 := Lib.hid (Blk.new w5 39 #[.int .i64 uw, .int .i64 uh, .int .i64 ac, .int .i64 dn, .slice A6 n c6, .slice A5 n c5]); have ha6 : Below w5.heap.size w5 (w5.alloc (.cells #[.int .i64 uw, .int .i64 uh, .int .i64 ac, .int .i64 dn, .slice A6 n c6, .slice A5 n c5] 39)) := (Below.refl _ _).alloc (Nat.le_refl _) _; have HI6 := Lib.hid ((HI.out.bel hb5).bel ha6); have HG6 := Lib.hid (hR5.bel ha6); have HP6 := Lib.hid (hR6.bel ha6); have HR6 := Lib.hid ((HR3.out.bel hb5).bel ha6); have HS6 := Lib.hid ((HS3.out.bel hb5).bel ha6); clear hp hb5 hgo hpo hR5 hR6 ha6) | (go_at_call 18; obtain ⟨lst, hlst⟩ : ∃ z, z = preS p gr ac m cN nN := ⟨_, rfl⟩; (have hrs := rscan_all _ uw uh A6 A5 C c6 c5 cc HSP.out HRI.out (HC.out.bel HB6.out) HP6.out HG6.out); unfold rfC at hrs; rw [← hlst] at hrs; refine hrs.mono ?_; clear hrs; rintro e w7 ⟨v7, rfl, hO7, hb7⟩; obtain ⟨A7, c7, rfl, hc7⟩ := hO7.form; obtain ⟨N, hN⟩ : ∃ z, z = lst.length := ⟨_, rfl⟩; rw [← hN] at hO7 hc7 ⊢; have HNL := Lib.hid hN; have HLS := Lib.hid hlst; clear hN hlst; have hl7 := ((Below.refl w7.heap.size w7).alloc (Nat.le_refl _) (.cells #[.slice A7 N c7] 55)); have HB7 := Lib.hid ((HB6.out.trans (hb7.mono HB6.out.size)).alloc (HB6.out.trans (hb7.mono HB6.out.size)).size (.cells #[.slice A7 N c7] 55)); have HI7 := Lib.hid ((HI6.out.bel hb7).bel hl7); have HM7 := Lib.hid ((HM6.out.bel hb7).bel hl7); have HR7 := Lib.hid ((HR6.out.bel hb7).bel hl7); have HS7 := Lib.hid ((HS6.out.bel hb7).bel hl7); have HT7 := Lib.hid (Blk.new w7 55 #[.slice A7 N c7]); have HO7 := Lib.hid (hO7.bel hl7); clear hb7 hl7 hO7) | (go_at_call 17; (have hct := count_ok _ G _ A4 C n c4 m cc gr cN ac dn uw uh tot iu HI7.out.fr HI7.out.go.rd (RdZ.toN (HC.out.bel HB7.out) HSP.out) HSP.out.ri (by omega) (by omega) HNM.out.1 HNM.out.2.1 HNM.out.2.2.1); rw [HNM.out.2.2.2] at hct; refine hct.mono ?_; clear hct; rintro e w8 ⟨rfl, hb8⟩; have HB8 := Lib.hid (HB7.out.trans (hb8.mono HB7.out.size)); have HM8 := Lib.hid (HM7.out.bel hb8); have HR8 := Lib.hid (HR7.out.bel hb8); have HS8 := Lib.hid (HS7.out.bel hb8); have HT8 := Lib.hid (HT7.out.bel hb8); have HO8 := Lib.hid (HO7.out.bel hb8); have HI8 := Lib.hid (HI7.out.bel hb8); clear hb8) | (refine wpList_load_row rfl 39 (.tmp 15) rfl w5.heap.size rfl 39 _ (0, 0) _ HM8.out Try.underlying39 rfl (by kernel_rfl) ?_) | (go_at_call 19; (have hrw := rises_walk w8 uw uh ac dn (.slice A6 n c6) A5 C n c5 m cc fc (HC.out.bel HB8.out) (by omega)); rw [HRI.out] at hrw; unfold rfC at hrw; refine hrw.mono ?_; clear hrw; rintro e w9 ⟨rfl, hb9⟩; have HB9 := Lib.hid (HB8.out.trans (hb9.mono HB8.out.size)); have HR9 := Lib.hid (HR8.out.bel hb9); have HS9 := Lib.hid (HS8.out.bel hb9); have HT9 := Lib.hid (HT8.out.bel hb9); have HO9 := Lib.hid (HO8.out.bel hb9); have HI9 := Lib.hid (HI8.out.bel hb9); clear hb9))
  have hlen : (0 : Nat) < N ∧ N ≤ 23040000 := by
    rw [HNL.out, HLS.out]
    obtain ⟨l, s, e⟩ := preS_last HSP.out
    have h1 := preS_len HSP.out nN
    have h2 := HSP.out.nnr
    exact ⟨by rw [e]; simp, by omega⟩
  obtain ⟨k1, rfl⟩ : ∃ k, N = k + 1 := ⟨N - 1, by omega⟩
  have hk1 : k1 < lst.length := by have := HNL.out; omega
  have hlast : ∃ s, lst[k1] = ((nN : Int) - 1, s) := by
    obtain ⟨l, s, e⟩ := preS_last HSP.out
    have e2 : lst = l ++ [((nN : Int) - 1, s)] := HLS.out.trans e
    have h3 : l.length = k1 := by have := HNL.out; rw [e2] at this; simp at this; omega
    exact ⟨s, by simp only [e2]; subst h3; simp⟩
  obtain ⟨sl, hsl⟩ := hlast
  obtain ⟨gl, rfl, hgl, hgl2, hcl⟩ := HO9.out.at_ rsC_ok hk1
  have q17 : w9.cell? ⟨w7.heap.size, 0, none⟩ = some (.slice (some ⟨gl, 0, none⟩) (k1 + 1) c7) := HT9.out.cell 0
  have ql : w9.cell? ⟨gl, k1 * 4, none⟩ = some (.int .i64 ((nN : Int) - 1)) := by
    have := hcl 0 (by decide)
    rw [Nat.add_zero] at this
    rw [this, hsl]; rfl
  have hnn := HSP.out.nnr
  have HGL := Lib.hid (And.intro hgl hgl2)
  clear hsl hcl hgl hgl2
  go_upto_region 17 with fail
  have HA17 : Hid (Below w9.heap.size w9 (w9.alloc (.cells #[.int .i64 0] 3)) ∧ Blk (w9.alloc (.cells #[.int .i64 0] 3)) w9.heap.size 3 #[.int .i64 0]) := Lib.hid ⟨(Below.refl _ _).alloc (Nat.le_refl _) _, Blk.new _ _ _⟩
  have HB17 := Lib.hid (HB9.out.trans (HA17.out.1.mono HB9.out.size)); have HI17 := Lib.hid (HI9.out.bel HA17.out.1); have HR17 := Lib.hid (HR9.out.bel HA17.out.1); have HS17 := Lib.hid (HS9.out.bel HA17.out.1); have HT17 := Lib.hid (HT9.out.bel HA17.out.1); have HO17 := Lib.hid (HO9.out.bel HA17.out.1)
  have HK17 := Lib.hid HA17.out.2
  have HZ17 : Hid ((w9.alloc (.cells #[.int .i64 0] 3)).heap.size = w9.heap.size + 1) := Lib.hid (by simp)
  obtain ⟨w17, hw17⟩ : ∃ z, z = w9.alloc (.cells #[.int .i64 0] 3) := ⟨_, rfl⟩
  rw [← hw17] at HB17 HI17 HR17 HS17 HT17 HO17 HK17 HZ17 ⊢
  have HLT : Hid ((w.heap.size + 1 < w2.heap.size ∧ w2.heap.size ≤ G ∧ G < w9.heap.size) ∧ w7.heap.size < w9.heap.size ∧ (∀ g off, A3 = some ⟨g, off, none⟩ → w2.heap.size ≤ g ∧ g < w9.heap.size) ∧ (∀ g off, A4 = some ⟨g, off, none⟩ → w2.heap.size ≤ g ∧ g < w9.heap.size) ∧ w.heap.size + 1 < w7.heap.size ∧ w.heap.size + 1 < gl) := Lib.hid (by
    refine ⟨⟨HR2.out.lt, HI9.out.le, HI9.out.fr.lt⟩, HT9.out.lt, fun g off e => HI9.out.po.lt g (by rw [e]; rfl), fun g off e => HI9.out.go.lt g (by rw [e]; rfl), ?_, ?_⟩
    · have h1 := HR6.out.lt; have h2 := HT7.out.lt; have h3 := HO7.out.lt gl rfl; have h4 := HR7.out.ne HT7.out (by decide); have h5 := HR7.out.lt; simp at h5; omega
    · have h1 := HR6.out.lt; have h3 := HO7.out.lt gl rfl; omega)
  clear hw17 HA17 q17 ql HB9 HI9 HR9 HS9 HT9 HO9 HB8 HI8 HR8 HS8 HT8 HO8 HM8 HM7 HM6 HR7 HS7 HT7 HO7 HI7 HR6 HS6 HI6 HG6 HP6 HB6 HB5
  go_wp2_with (go_at_call 16; refine (scan_clo w17 G A3 A4 C n c3 c4 m cc nN p gr cN ac dn uw uh tot iu HI17.out.fr HI17.out.po.rd HI17.out.go.rd (RdZ.toN (HC.out.bel HB17.out) HSP.out) HSP.out.ri (by omega) (by omega) HNM.out.1 HNM.out.2.1 HNM.out.2.2.1 HNM.out.2.2.2.symm).mono ?_; rintro ex wL ⟨be, bn, bf, bl, C2, rfl, hbe, hbn, hbf, hbl, hC2, hF, hbL⟩; have HBE := Lib.hid (And.intro hbe (And.intro hbn (And.intro hbf (And.intro hbl hC2)))); have HF := Lib.hid hF; have HBL := Lib.hid hbL; clear hbe hbn hbf hbl hC2 hF hbL)
  obtain ⟨b20, hb20⟩ : ∃ z, z = w9.heap.size := ⟨_, rfl⟩
  obtain ⟨b17, hb17⟩ : ∃ z, z = w7.heap.size := ⟨_, rfl⟩
  obtain ⟨r10, hr10⟩ : ∃ z, z = w.heap.size + 1 := ⟨_, rfl⟩
  have HBw := Lib.hid (HB17.out.trans (HBL.out.mono HB17.out.size))
  have HKL := Lib.hid (HK17.out.bel HBL.out); have HRL := Lib.hid (HR17.out.bel HBL.out); have HSL := Lib.hid (HS17.out.bel HBL.out); have HTL := Lib.hid (HT17.out.bel HBL.out); have HOL := Lib.hid (HO17.out.bel HBL.out); have HIL := Lib.hid (HI17.out.bel HBL.out)
  have HW := Lib.hid (show w.heap.size ≤ w17.heap.size from HB17.out.size)
  rw [← hb20] at HKL HLT HZ17 ⊢
  rw [← hb17] at HTL HLT ⊢
  rw [← hr10] at HRL HLT ⊢
  have HWL := Lib.hid (show w.heap.size < r10 by omega)
  clear hr10 hb20 hb17 HK17 HR17 HS17 HT17 HO17 HI17 HB17
  have HSQ : Hid (SqX Try.prog 25 #[.pointer (some ⟨be, 0, none⟩), .pointer (some ⟨bn, 0, none⟩), .pointer (some ⟨bf, 0, none⟩), .pointer (some ⟨bl, 0, none⟩)] spE2 (KeepD fun g => g < wL.heap.size ∧ ¬ (g = b20 ∨ g = r10)) lst wL) := Lib.hid (by
    rw [HLS.out]
    have hbe := HBE.out; have hlt := HLT.out; have hz := HZ17.out; have hbl := HBL.out.size
    have hk0 := HF.out.k0.lt; have hk1 := HF.out.k1.lt; have hk2 := HF.out.k2.lt
    obtain ⟨cc2, hk3⟩ := HF.out.k3
    have hk3 := hk3.lt
    have hnr := HSP.out.nnr; have hacr := HSP.out.acr; have haca := HSP.out.aca; have hm4 := HSP.out.m4; have hm0 := HSP.out.ri.m0; have hoca := HSP.out.oca; have hocr := HSP.out.ocr
    refine scan1_seq _ wL be bn bf bl G nN ac m C2 A3 A4 p gr cN (by omega) (by omega) (by omega) (by omega) hm0 HSP.out.hp (by omega) HF.out ⟨⟨hk0, by omega⟩, ⟨hk1, by omega⟩, ⟨hk2, by omega⟩, ⟨hk3, by omega⟩, ⟨HIL.out.fr.lt, by omega⟩, fun g off e => ?_, fun g off e => ?_, fun g off e => ?_⟩
    · obtain ⟨g', off', e', hl, _⟩ := HF.out.kc 0 hm0
      have := hbe.2.2.2.2 g off e
      rw [e] at e'
      cases e'
      exact ⟨hl, by omega⟩
    · have := hlt.2.2.1 g off e
      exact ⟨by omega, by omega⟩
    · have := hlt.2.2.2.1 g off e
      exact ⟨by omega, by omega⟩)
  have HQ9 : Hid (¬ (w.heap.size = b20 ∨ w.heap.size = r10) ∧ ¬ (b17 = b20 ∨ b17 = r10) ∧ ¬ (gl = b20 ∨ gl = r10) ∧ w.heap.size ≤ b20 ∧ w.heap.size ≤ r10 ∧ b20 < wL.heap.size ∧ r10 < wL.heap.size ∧ b20 ≠ r10) := Lib.hid (by
    have h1 := HKL.out.ne HSL.out (by decide); have h2 := HRL.out.ne HSL.out (by decide); have h3 := HTL.out.ne HKL.out (by decide); have h4 := HTL.out.ne HRL.out (by decide); have h5 := HKL.out.ne HRL.out (by decide)
    have h6 := HOL.out.neT HKL.out (by decide); have h7 := HOL.out.neT HRL.out (by decide)
    have h8 := HLT.out; have h9 := HWL.out; have h10 := HKL.out.lt; have h11 := HRL.out.lt; have hz := HZ17.out
    simp [Value.ownBlock] at h6 h7
    omega)
  clear HLT HZ17 HBE HF HIL
  have HLP := Lib.hid (LpI.refl (Wr := fun g => g = b20 ∨ g = r10) HBw.out (by have := HBL.out.size; have := HW.out; omega))
  refine rangeX (gf := 25) (lb := #[.pointer (some ⟨be, 0, none⟩), .pointer (some ⟨bn, 0, none⟩), .pointer (some ⟨bf, 0, none⟩), .pointer (some ⟨bl, 0, none⟩)]) rfl (eg_of Try.func25 (by kernel_rfl) rfl) HSQ.out (fun W hb => KeepD.of_below hb) (fun h k => KeepD.trans h k) (fun W' lk o o' hl _ _ _ => ⟨by simp, fun g hg _ => World.putObj_heap_other (fun e => by have := hg.1; omega)⟩) (fun _ => rfl)
    (fun D pre Wx => LpI w.heap.size w wL (fun g => g = b20 ∨ g = r10) D Wx ∧ Blk Wx b20 3 #[.int .i64 (pre.length : Int)] ∧ Blk Wx r10 4 #[.bool false])
    (fun c D pre Wx => c = .ret ∧ LpI w.heap.size w wL (fun g => g = b20 ∨ g = r10) D Wx ∧ Blk Wx r10 4 #[.bool true])
    ?hI ?hIx (fun _ => False) (fun _ h => h.elim) ⟨HLP.out, HKL.out, HRL.out⟩ ?round ?done ?stop
  case hI =>
    rintro D s A' B' ⟨h1, h2, h3⟩ hit
    exact ⟨h1.step hit, h1.stepBlk hit HQ9.out.2.2.2.2.2.1 h2, h1.stepBlk hit HQ9.out.2.2.2.2.2.2.1 h3⟩
  case hIx =>
    rintro cx D s A' B' ⟨hc, h1, h2⟩ hit
    exact ⟨hc, h1.step hit, h1.stepBlk hit HQ9.out.2.2.2.2.2.2.1 h2⟩
  case round =>
    rintro lr D pre ⟨xi, ⟨xc, xr, xk⟩⟩ Wx hDl hDl1 hlr hlt _ ⟨hL, h20, h10⟩ ⟨r, hx⟩
    have hb : Below Wx.heap.size Wx (Wx.alloc (.cells #[.int .i64 xc, .int .i64 xr, .int .i64 xk] 52)) := (Below.refl _ _).alloc (Nat.le_refl _) _
    have hk8 : Blk (Wx.alloc (.cells #[.int .i64 xc, .int .i64 xr, .int .i64 xk] 52)) Wx.heap.size 52 #[.int .i64 xc, .int .i64 xr, .int .i64 xk] := Blk.new _ _ _
    obtain ⟨k, hk⟩ : ∃ z, z = pre.length := ⟨_, rfl⟩
    have hkl : k < lst.length := by rw [hx, hk]; simp
    have hxk : lst[k] = (xi, ⟨xc, xr, xk⟩) := by simp only [hx, hk]; simp
    have hnx : (pre ++ [((xi, ⟨xc, xr, xk⟩) : Int × Spt)]).length = k + 1 := by simp [hk]
    obtain ⟨ga, ega, _, hga, hcl⟩ := HOL.out.at_ rsC_ok hkl
    cases ega
    rw [hxk] at hcl
    have HCL := Lib.hid hcl; have HKL2 := Lib.hid hkl; have HNX := Lib.hid hnx; have HHL := Lib.hid hL; have H20 := Lib.hid (hk ▸ h20); have H10 := Lib.hid h10; have HB := Lib.hid hb; have HK8 := Lib.hid hk8; have HD1 := Lib.hid hDl; have HLR := Lib.hid hlr; have HGA := Lib.hid hga
    clear hx hxk hnx hcl hL h20 h10 hb hk8 hDl hDl1 hlr hk hga
    simp only [← fr_in]
    simp only [spE2, spC, List.zip_toArray, List.zip_cons_cons, List.zip_nil_left, List.zip_nil_right, List.foldl_toArray, List.size_toArray, List.length_cons, List.length_nil, List.foldl_cons, List.foldl_nil, List.setIfInBounds_toArray, List.set_cons_zero, List.set_cons_succ]
    gi_wp2
    refine ⟨KeepD.of_below HB.out, KeepD.of_below HB.out, fun o o' hl ho ho' => ?_⟩
    obtain ⟨Wy, hWy⟩ : ∃ z, z = (Wx.alloc (.cells #[.int .i64 xc, .int .i64 xr, .int .i64 xk] 52)).putObj lr o' := ⟨_, rfl⟩
    have hly : LpI w.heap.size w wL (fun g => g = b20 ∨ g = r10) D Wy := by rw [hWy]; exact (HHL.out.alloc _).put (by have := HLR.out; omega) _
    have h20 : Blk Wy b20 3 #[.int .i64 k] := by rw [hWy]; exact (H20.out.alloc _).putObj hl ho _
    have h10 : Blk Wy r10 4 #[.bool false] := by rw [hWy]; exact (H10.out.alloc _).putObj hl ho _
    have h8 : Blk Wy Wx.heap.size 52 #[.int .i64 xc, .int .i64 xr, .int .i64 xk] := by rw [hWy]; exact HK8.out.putObj hl ho _
    have HLY := Lib.hid hly; have H20 := Lib.hid h20; have H10 := Lib.hid h10; have H8 := Lib.hid h8
    have H9 := Lib.hid (hly.blk HQ9.out.1 HSL.out); have H17 := Lib.hid (hly.blk HQ9.out.2.1 HTL.out)
    have hrg : Wy.rangeAt gl (k * 4) [.int .i64 xi, .int .i64 xc, .int .i64 xr, .int .i64 xk] := fun j v hv => by
      have hj : j < 4 := by have := (List.getElem?_eq_some_iff.1 hv).1; simpa using this
      rw [heap_cell (hly.kp gl HGA.out HQ9.out.2.2.1), HCL.out j hj]
      exact hv
    have HRG := Lib.hid hrg
    rw [← hWy]
    clear hWy hly h20 h10 h8 hrg hl ho ho' HHL HK8 HB HGA HCL
    gi_upto_region 20 with fail
    have hkn : k < k1 + 1 := by have := HKL2.out; have := HNL.out; omega
    have d1 : decide (k1 + 1 ≤ k) = false := by simp; omega
    have d2 : decide ((k1 : Int) + 1 ≤ (k : Int)) = false := by simp; omega
    refine region_planX (ro := some lr) (.run [0, 1, 2, 3, 4, 5, 6, 7, 8, 9, 10, 11, 12, 13, 14, 15, 16] (.held 17 (.run [18] .fin))) (fun w' => True) (by kernel_rfl) trivial ?_
    intro wd hwd
    have H20 := Lib.hid (H20.out.drewE hwd); have H10 := Lib.hid (H10.out.drewE hwd); have H8 := Lib.hid (H8.out.drewE hwd); have H9 := Lib.hid (H9.out.drewE hwd); have H17 := Lib.hid (H17.out.drewE hwd); have HLY2 := Lib.hid (HLY.out.drewE hwd); have HKD := Lib.hid (fun D => KeepD.drewE (D := D) hwd)
    have HRG : Hid (wd.rangeAt gl (k * 4) [.int .i64 xi, .int .i64 xc, .int .i64 xr, .int .i64 xk]) := Lib.hid (by rw [hwd]; exact HRG.out)
    have e0 : wd.cell? ⟨gl, k * 4, none⟩ = some (.int .i64 xi) := HRG.out 0 _ rfl; have e1 : wd.cell? ⟨gl, k * 4 + 1, none⟩ = some (.int .i64 xc) := HRG.out 1 _ rfl; have e2 : wd.cell? ⟨gl, k * 4 + 2, none⟩ = some (.int .i64 xr) := HRG.out 2 _ rfl; have e3 : wd.cell? ⟨gl, k * 4 + 3, none⟩ = some (.int .i64 xk) := HRG.out 3 _ rfl
    have q20 : wd.cell? ⟨b20, 0, none⟩ = some (.int .i64 k) := H20.out.cell 0
    have q17 : wd.cell? ⟨b17, 0, none⟩ = some (.slice (some ⟨gl, 0, none⟩) (k1 + 1) c7) := H17.out.cell 0
    have q80 : wd.cell? ⟨Wx.heap.size, 0, none⟩ = some (.int .i64 xc) := H8.out.cell 0
    have q81 : wd.cell? ⟨Wx.heap.size, 1, none⟩ = some (.int .i64 xr) := H8.out.cell 1
    have q82 : wd.cell? ⟨Wx.heap.size, 2, none⟩ = some (.int .i64 xk) := H8.out.cell 2
    clear hwd
    refine planX_run fun m hm => ?_
    simp only [pickO, List.filterMap_cons, List.filterMap_nil, List.getElem?_toArray, List.getElem?_cons_zero, List.getElem?_cons_succ] at hm
    subst hm
    go_wp2_with fail
    refine ⟨rfl, by rfl, ?_⟩
    refine planX_held (o := ⟨some 128, _, _, _, _, _⟩) (v := .bool false) rfl (by rfl) (fun w' hS => ?_) ?_
    · exact exec_neq rfl rfl rfl (by kernel_rfl) (neq_spot _ _ _ _ _)
    try simp only [Act.put, List.setIfInBounds_toArray, List.set_cons_zero, List.set_cons_succ]
    refine planX_run fun m hm => ?_
    simp only [pickO, List.filterMap_cons, List.filterMap_nil, List.getElem?_toArray, List.getElem?_cons_zero, List.getElem?_cons_succ] at hm
    subst hm
    go_wp2_with fail
    refine ⟨rfl, by rfl, ?_⟩
    refine planX_fin ?_
    go_wp2_with fail
    clear q20 q17 q80 q81 q82 e0 e1 e2 e3
    have c20 : wd.cell? ⟨b20, 0, none⟩ = some (.int .i64 k) := H20.out.cell 0
    have z20 : wd.frozen? ⟨b20, 0, none⟩ = false := H20.out.frozen 0
    have hkb : k < 23040000 := by omega
    gi_upto_region 23 with fail
    obtain ⟨Wz, hWz⟩ : ∃ z, z = wd.setCell ⟨b20, 0, none⟩ (.int .i64 ((k : Int) + 1)) := ⟨_, rfl⟩
    have hnb : ¬ D b20 := fun h => by have := HLY2.out.dg _ h; have := HQ9.out.2.2.2.2.2.1; omega
    have hnr : ¬ D r10 := fun h => by have := HLY2.out.dg _ h; have := HQ9.out.2.2.2.2.2.2.1; omega
    have Z20 : Hid (Blk Wz b20 3 #[.int .i64 ((k : Int) + 1)]) := Lib.hid (by rw [hWz]; exact H20.out.set_ 0 _)
    have Z10 : Hid (Blk Wz r10 4 #[.bool false]) := Lib.hid (by rw [hWz]; exact H10.out.far (by have := HQ9.out.2.2.2.2.2.2.2; simp; omega) _)
    have Z9 : Hid (Blk Wz w.heap.size 5 #[.int .u8 st]) := Lib.hid (by rw [hWz]; exact H9.out.far (by have := HQ9.out.1; simp; omega) _)
    have ZL : Hid (LpI w.heap.size w wL (fun g => g = b20 ∨ g = r10) D Wz) := Lib.hid (by rw [hWz]; exact HLY2.out.set (.inl rfl) HQ9.out.2.2.2.1 _)
    have ZD : Hid (KeepD D Wy Wz) := Lib.hid (by rw [hWz]; exact (HKD.out D).trans (KeepD.set hnb _))
    have ZG : Hid (KeepD (fun g => g < wL.heap.size ∧ ¬ (g = b20 ∨ g = r10)) Wy Wz) := Lib.hid (by rw [hWz]; exact (HKD.out _).trans (KeepD.set (fun h => h.2 (.inl rfl)) _))
    have HNR := Lib.hid hnr
    rw [← hWz]
    clear hWz c20 z20 HLY2 HKD H20 H10 H9 H17 H8 HRG hnb hnr
    have c20 : Wz.cell? ⟨b20, 0, none⟩ = some (.int .i64 ((k : Int) + 1)) := Z20.out.cell 0
    have c9 : Wz.cell? ⟨w.heap.size, 0, none⟩ = some (.int .u8 st) := Z9.out.cell 0
    have c10 : Wz.cell? ⟨r10, 0, none⟩ = some (.bool false) := Z10.out.cell 0
    have z10 : Wz.frozen? ⟨r10, 0, none⟩ = false := Z10.out.frozen 0
    by_cases hs1 : st ≤ (k : Int) + 1
    case neg =>
      have d3 : decide (st ≤ (k : Int) + 1) = false := by simpa using hs1
      clear hs1
      gi_wp2
      exact ⟨ZD.out, ZG.out, ZL.out, by rw [HNX.out]; exact Z20.out, Z10.out⟩
    case pos =>
    have d3 : decide (st ≤ (k : Int) + 1) = true := by simpa using hs1
    clear hs1
    by_cases hs2 : 0 < st
    case neg =>
      have d4 : decide (0 < st) = false := by simpa using hs2
      clear hs2
      gi_wp2
      exact ⟨ZD.out, ZG.out, ZL.out, by rw [HNX.out]; exact Z20.out, Z10.out⟩
    case pos =>
      have d4 : decide (0 < st) = true := by simpa using hs2
      clear hs2
      gi_wp2
      exact ⟨ZD.out.trans (KeepD.set HNR.out _), rfl, ZL.out.set (.inr rfl) HQ9.out.2.2.2.2.1 _, Z10.out.set_ 0 _⟩
  case done =>
    rintro d D W' hd hDd _ ⟨hL, h20, h10⟩ hdef
    have c20 : W'.cell? ⟨b20, 0, none⟩ = some (.int .i64 lst.length) := h20.cell 0
    have c17 : W'.cell? ⟨b17, 0, none⟩ = some (.slice (some ⟨gl, 0, none⟩) (k1 + 1) c7) := (hL.blk HQ9.out.2.1 HTL.out).cell 0
    have c10 : W'.cell? ⟨r10, 0, none⟩ = some (.bool false) := h10.cell 0
    have z10 : W'.frozen? ⟨r10, 0, none⟩ = false := h10.frozen 0
    rw [← HNL.out] at c20
    have HL := Lib.hid hL; have H10 := Lib.hid h10; have HDEF := Lib.hid hdef; have HDN := Lib.hid (And.intro hd hDd)
    clear hL h20 h10 hdef hd hDd
    go_wp2_with fail
    show LeavesInM (FR none) 9 _ _ _ _ [mkD d] .returning _
    exact leave_true ((Below.heap_setCell _ _ _ _ (by have := HDN.out.1; have := HQ9.out.2.2.2.2.2.2.1; simp; omega)).trans HDEF.out) (HL.out.be.setCell HQ9.out.2.2.2.2.1 _) (by have := HDN.out.1; have := HL.out.le; omega) (H10.out.set_ 0 _) (by have := HDN.out.1; have := HQ9.out.2.2.2.2.2.2.1; omega) rfl rfl
  case stop =>
    rintro d cx D pre W' hd hDd _ _ ⟨rfl, hL, h10⟩ hdef
    have HL := Lib.hid hL; have H10 := Lib.hid h10; have HDEF := Lib.hid hdef; have HDN := Lib.hid (And.intro hd hDd)
    clear hL h10 hdef hd hDd
    go_wp2_with fail
    show LeavesInM (FR none) 9 _ _ _ _ [mkD d] .returning _
    exact leave_true HDEF.out HL.out.be (by have := HDN.out.1; have := HL.out.le; omega) H10.out (by have := HDN.out.1; have := HQ9.out.2.2.2.2.2.2.1; omega) rfl rfl
end Go.Proofs.Ytjfnlgmllhjonaa

/- Rows of bits that are made and met; what New says of a scan of all. No condition. -/
import Derived.Test.YtjfnlgmllhjonaaCvA
import Derived.Deep.OwnRows
namespace Go.Proofs.Ytjfnlgmllhjonaa
open Go.RowKit
set_option linter.unusedSimpArgs false
set_option linter.unusedVariables false
theorem upQ_one (x : Int) : upQ x 1 = x := by unfold upQ; rw [Int.ediv_one]; omega
theorem cvp_new {a b ac dn uw uh : Int} {n : Nat} {f p gr : Nat → Nat → Int} (h0 : faultV a b n f = 0) (hp : p = pF n f) (hg : gr = gridU a b p n) (hac : ac = acU a p n 0) (hdn : dn = acU b p n 1) (hO : OwnsF a b ac dn uw uh n gr) (h6 : sumU gr n ≤ 600) :
    ∃ nN oc ow acN dnN, ScP n n (fun j => (j : Int)) p gr ac dn (fun j => j) nN oc ow acN dnN ∧ CvP gr n nN (preS p gr ac n (fun j => j) nN) := by
  have hrt := fault_right h0
  obtain ⟨a0, a1, b0, b1, n0, n4, _⟩ := right_zero hrt
  have hr : risesB n n (fun j => (j : Int)) = true := by
    unfold risesB
    refine decide_eq_true ⟨n0, fun i hi => ⟨by dsimp only; omega, by dsimp only; omega, fun hi0 => by dsimp only; omega⟩⟩
  obtain ⟨cN, nN, oc, ow, acN, dnN, h⟩ := scp_of h0 hp hg hac hdn hO h6 hr
  have hcN : ∀ j, j < n → cN j = j := fun j hj => by have := (h.fce j hj).1; omega
  have hc0 := hcN 0 (by omega)
  have hoca := h.oca; have howa := h.owa
  rw [hc0] at hoca howa
  have h' : ScP n n (fun j => (j : Int)) p gr ac dn (fun j => j) nN oc ow acN dnN :=
    ⟨fun j hj => ⟨rfl, hj⟩, ⟨n0, fun j hj => hj, fun j _ => Nat.lt_succ_self j⟩, h.m4, h.n4, h.aca, h.dna, h.acr, h.dnr, fun j hj => by have := h.hp j hj; rwa [hcN j hj] at this, hoca, howa, h.ocr, h.owr, h.nn, h.nnr⟩
  have hs : n = 1 → gr 0 2 = ac ∧ p 0 0 = 1 ∧ p 0 1 = 1 ∧ gr 0 3 = dn := fun e => by
    subst e
    have hp1 : ∀ i j, p i j = 1 := fun i j => by rw [hp]; simp [pF]
    have e0 : maxU p 0 1 = 1 := by simp only [maxU, hp1]; rfl
    have e1 : maxU p 1 1 = 1 := by simp only [maxU, hp1]; rfl
    have g2 : gr 0 2 = upQ (upQ (a * p 0 0) (maxU p 0 1)) 8 := by rw [hg]; rfl
    have g3 : gr 0 3 = upQ (upQ (b * p 0 1) (maxU p 1 1)) 8 := by rw [hg]; rfl
    have c1 : ac = upQ a (8 * maxU p 0 1) := by rw [hac]; rfl
    have c2 : dn = upQ b (8 * maxU p 1 1) := by rw [hdn]; rfl
    rw [e0, hp1, Int.mul_one, upQ_one] at g2
    rw [e1, hp1, Int.mul_one, upQ_one] at g3
    rw [e0] at c1
    rw [e1] at c2
    exact ⟨by rw [g2, c1]; rfl, hp1 0 0, hp1 0 1, by rw [g3, c2]; rfl⟩
  have hnn : nN = dnN * acN := by
    have := h.nn
    by_cases e : n = 1
    · rw [if_pos e] at this
      obtain ⟨s1, _, _, s4⟩ := hs e
      have e1 : oc = acN := by have := h.aca; omega
      have e2 : ow = dnN := by have := h.dna; omega
      rw [this, e1, e2]
    · rw [if_neg e] at this; exact this
  have hpr := pF_rng hrt
  rw [← hp] at hpr
  exact ⟨nN, oc, ow, acN, dnN, h', cvp_of h.aca h.dna h.acr.1 h.dnr.1 n0 hnn (fun j hj => by have := hpr j hj; omega) (fun j => by rw [hg, hac]; rfl) (fun j => by rw [hg, hdn]; rfl) (fun e => ⟨(hs e).1, (hs e).2.1, (hs e).2.2.1⟩) (preS_last h')⟩
/-- A row of bits. -/
def bitC (k : Nat) (u : Nat → Bool) : Array Value := ((List.range k).map fun j => Value.bool (u j)).toArray
theorem bitC_get {k j : Nat} (u : Nat → Bool) (h : j < k) : (bitC k u)[j]? = some (.bool (u j)) := by simp [bitC, h]
theorem bitC_set {k j : Nat} {u v : Nat → Bool} (h : ∀ i, v i = (u i || decide (i = j))) : (bitC k u).setIfInBounds j (.bool true) = bitC k v := by
  apply Array.ext_getElem?
  intro i
  by_cases hi : i < k
  · rw [bitC_get v hi, Array.getElem?_setIfInBounds]
    by_cases e : j = i
    · subst e; simp [bitC, hi, h]
    · rw [if_neg e, bitC_get u hi, h]
      have : decide (i = j) = false := by simp; omega
      rw [this, Bool.or_false]
  · rw [Array.getElem?_eq_none (by simp [bitC]; omega), Array.getElem?_eq_none (by simp [bitC]; omega)]
theorem make_B (m : Nat) (hm : m ≤ 1000000) (W : World) : (Instr.makeSlice 47 (.int .i64 (m : Int)) (.int .i64 (m : Int))).run Try.prog W = .ok (.slice (some ⟨W.heap.size, 0, none⟩) m m) (W.alloc (.cells (bitC m fun _ => false) 4)) := by
  rw [run_make_row' 47 4 (.bool false) 1 Try.underlying47 (by kernel_rfl) rfl .i64 .i64 m (by omega) (by omega) W]
  have e : madeCells #[Value.bool false] m = bitC m fun _ => false := by
    apply Array.ext_getElem?
    intro j
    by_cases hj : j < m
    · rw [bitC_get _ hj]; simp [madeCells, hj, Nat.mod_one]
    · rw [Array.getElem?_eq_none (by simp [madeCells]; omega), Array.getElem?_eq_none (by simp [bitC]; omega)]
  rw [e]
/-- A slice of rows: its cells. -/
def mtC (x : Nat × Nat) : List Value := [.slice (some ⟨x.1, 0, none⟩) x.2 x.2]
theorem mtC_ok : CellsOf mtC 1 := ⟨fun x => rfl, fun x u hu => by simp only [mtC, List.mem_cons, List.not_mem_nil, or_false] at hu; subst hu; rfl⟩
/-- The rows: each a block of its own, of so many bits. -/
structure MtI (w : World) (base : Nat) (v : Value) (gs : List (Nat × Nat)) (ks : Nat → Nat) (M : Nat → Nat → Bool) : Prop where
  ow : OwnC mtC 1 w base 47 v gs
  bl : ∀ i (h : i < gs.length), base ≤ gs[i].1 ∧ gs[i].2 = ks i ∧ Blk w gs[i].1 4 (bitC (ks i) (M i))
  nd : gs.Pairwise fun x y => x.1 ≠ y.1
theorem MtI.nil (w : World) (base : Nat) (ks : Nat → Nat) (M : Nat → Nat → Bool) : MtI w base (.slice none 0 0) [] ks M := ⟨OwnC.nil _ _ _, fun i h => absurd h (Nat.not_lt_zero _), List.Pairwise.nil⟩
theorem MtI.keep {w w' : World} {base : Nat} {v : Value} {gs : List (Nat × Nat)} {ks : Nat → Nat} {M : Nat → Nat → Bool} (h : MtI w base v gs ks M) (h1 : ∀ g cs, Blk w g 47 cs → Blk w' g 47 cs) (h2 : ∀ g cs, Blk w g 4 cs → Blk w' g 4 cs) : MtI w' base v gs ks M :=
  ⟨h.ow.keep h1, fun i hi => ⟨(h.bl i hi).1, (h.bl i hi).2.1, h2 _ _ (h.bl i hi).2.2⟩, h.nd⟩
theorem MtI.bel {w w' : World} {base : Nat} {v : Value} {gs : List (Nat × Nat)} {ks : Nat → Nat} {M : Nat → Nat → Bool} (h : MtI w base v gs ks M) (hb : Below w.heap.size w w') : MtI w' base v gs ks M := h.keep (fun g cs hB => hB.bel hb) (fun g cs hB => hB.bel hb)
theorem MtI.drewE {w wd : World} {base : Nat} {v : Value} {gs : List (Nat × Nat)} {ks : Nat → Nat} {M : Nat → Nat → Bool} (h : MtI w base v gs ks M) (hd : wd = w.drew) : MtI wd base v gs ks M := hd ▸ h.keep (fun g cs hB => hB) (fun g cs hB => hB)
/-- One row more. -/
theorem MtI.snoc {w w' : World} {base : Nat} {v v' : Value} {gs : List (Nat × Nat)} {ks : Nat → Nat} {M : Nat → Nat → Bool} {g : Nat} (h : MtI w base v gs ks M) (hn : w.heap.size ≤ g) (hle : base ≤ g) (how : OwnC mtC 1 w' base 47 v' (gs ++ [(g, ks gs.length)]))
    (hk : ∀ g cs, Blk w g 4 cs → Blk w' g 4 cs) (hg : Blk w' g 4 (bitC (ks gs.length) (M gs.length))) : MtI w' base v' (gs ++ [(g, ks gs.length)]) ks M := by
  refine ⟨how, fun i hi => ?_, ?_⟩
  · by_cases e : i < gs.length
    · have := h.bl i e
      rw [List.getElem_append_left e]
      exact ⟨this.1, this.2.1, hk _ _ this.2.2⟩
    · have hl : i = gs.length := by simp at hi; omega
      subst hl
      simp only [List.getElem_append_right (Nat.le_refl _), Nat.sub_self, List.getElem_cons_zero]
      exact ⟨hle, trivial, hg⟩
  · rw [List.pairwise_append]
    refine ⟨h.nd, List.pairwise_singleton _ _, fun x hx y hy => ?_⟩
    simp only [List.mem_singleton] at hy
    subst hy
    obtain ⟨i, hi, rfl⟩ := List.mem_iff_getElem.1 hx
    have := (h.bl i hi).2.2.lt
    dsimp only
    omega
/-- What stands between two rounds of the law's first loop. -/
structure CvJ (w : World) (b7 b10 G : Nat) (A3 A4 : Option Addr) (n c3 c4 : Nat) (p gr : Nat → Nat → Int) (ac dn uw uh tot iu : Int) (ks : Nat → Nat) (i : Nat) (v9 : Value) (wr : World) : Prop where
  be : Below w.heap.size w wr
  r6 : Blk wr w.heap.size 4 #[.bool false]
  k7 : Blk wr b7 24 #[.pointer (some ⟨G, 0, none⟩)]
  nw : NwI (w.heap.size + 1) wr G (.slice A3 n c3) (.slice A4 n c4) n n p gr ac dn uw uh tot iu
  al : OwnS wr b10 3 1 v9 i (fun j _ => (j : Int))
  lt : w.heap.size < b10
  mt : ∃ v gs, Blk wr b10 46 #[v] ∧ MtI wr b10 v gs ks (fun _ _ => false) ∧ gs.length = i
section
variable {w : World} {b7 b10 G : Nat} {A3 A4 : Option Addr} {n c3 c4 : Nat} {p gr : Nat → Nat → Int} {ac dn uw uh tot iu : Int} {ks : Nat → Nat} {i : Nat} {v9 : Value} {wr w' wd : World}
theorem CvJ.keep (h : CvJ w b7 b10 G A3 A4 n c3 c4 p gr ac dn uw uh tot iu ks i v9 wr) (hb : Below w.heap.size w w') (hk : ∀ g t cs, Blk wr g t cs → Blk w' g t cs) : CvJ w b7 b10 G A3 A4 n c3 c4 p gr ac dn uw uh tot iu ks i v9 w' := by
  obtain ⟨v, gs, h1, h2, h3⟩ := h.mt
  exact ⟨hb, hk _ _ _ h.r6, hk _ _ _ h.k7, ⟨hk _ _ _ h.nw.fr, h.nw.po.keep (fun g cs hB => hk _ _ _ hB), h.nw.go.keep (fun g cs hB => hk _ _ _ hB), h.nw.le⟩, h.al.keep (fun g cs hB => hk _ _ _ hB), h.lt, v, gs, hk _ _ _ h1, h2.keep (fun g cs hB => hk _ _ _ hB) (fun g cs hB => hk _ _ _ hB), h3⟩
theorem CvJ.bel (h : CvJ w b7 b10 G A3 A4 n c3 c4 p gr ac dn uw uh tot iu ks i v9 wr) (hb : Below wr.heap.size wr w') : CvJ w b7 b10 G A3 A4 n c3 c4 p gr ac dn uw uh tot iu ks i v9 w' := h.keep (h.be.trans (hb.mono h.be.size)) fun g t cs hB => hB.bel hb
theorem CvJ.drewE (h : CvJ w b7 b10 G A3 A4 n c3 c4 p gr ac dn uw uh tot iu ks i v9 wr) (hd : wd = wr.drew) : CvJ w b7 b10 G A3 A4 n c3 c4 p gr ac dn uw uh tot iu ks i v9 wd := hd ▸ h.keep h.be.drew fun g t cs hB => hB
theorem CvJ.lt10 (h : CvJ w b7 b10 G A3 A4 n c3 c4 p gr ac dn uw uh tot iu ks i v9 wr) : b10 ≤ wr.heap.size := by
  obtain ⟨v, gs, h1, _⟩ := h.mt
  exact Nat.le_of_lt h1.lt
/-- 'all' has grown by one: the rest stands. -/
structure CvK (w : World) (b7 b10 G : Nat) (A3 A4 : Option Addr) (n c3 c4 : Nat) (p gr : Nat → Nat → Int) (ac dn uw uh tot iu : Int) (ks : Nat → Nat) (i : Nat) (v9 v : Value) (gs : List (Nat × Nat)) (wr : World) : Prop where
  be : Below w.heap.size w wr
  r6 : Blk wr w.heap.size 4 #[.bool false]
  k7 : Blk wr b7 24 #[.pointer (some ⟨G, 0, none⟩)]
  nw : NwI (w.heap.size + 1) wr G (.slice A3 n c3) (.slice A4 n c4) n n p gr ac dn uw uh tot iu
  al : OwnS wr b10 3 1 v9 (i + 1) (fun j _ => (j : Int))
  lt : w.heap.size < b10
  k10 : Blk wr b10 46 #[v]
  mt : MtI wr b10 v gs ks (fun _ _ => false)
  ln : gs.length = i
theorem CvK.of (h : CvJ w b7 b10 G A3 A4 n c3 c4 p gr ac dn uw uh tot iu ks i v9 wr) {v9' : Value} (hb : Below b10 wr w') (hk : ∀ g t cs, t ≠ 3 → Blk wr g t cs → Blk w' g t cs) (ha : OwnS w' b10 3 1 v9' (i + 1) (fun j _ => (j : Int))) : ∃ v gs, CvK w b7 b10 G A3 A4 n c3 c4 p gr ac dn uw uh tot iu ks i v9' v gs w' := by
  obtain ⟨v, gs, h1, h2, h3⟩ := h.mt
  have hl := h.lt
  exact ⟨v, gs, h.be.trans (hb.mono (by omega)), hk _ _ _ (by decide) h.r6, hk _ _ _ (by decide) h.k7, ⟨hk _ _ _ (by decide) h.nw.fr, h.nw.po.keep (fun g cs hB => hk _ _ _ (by decide) hB), h.nw.go.keep (fun g cs hB => hk _ _ _ (by decide) hB), h.nw.le⟩, ha, h.lt, hk _ _ _ (by decide) h1, h2.keep (fun g cs hB => hk _ _ _ (by decide) hB) (fun g cs hB => hk _ _ _ (by decide) hB), h3⟩
variable {v : Value} {gs : List (Nat × Nat)}
theorem CvK.bel (h : CvK w b7 b10 G A3 A4 n c3 c4 p gr ac dn uw uh tot iu ks i v9 v gs wr) (hb : Below wr.heap.size wr w') : CvK w b7 b10 G A3 A4 n c3 c4 p gr ac dn uw uh tot iu ks i v9 v gs w' :=
  ⟨h.be.trans (hb.mono h.be.size), h.r6.bel hb, h.k7.bel hb, h.nw.bel hb, h.al.bel hb, h.lt, h.k10.bel hb, h.mt.bel hb, h.ln⟩
theorem CvK.drewE (h : CvK w b7 b10 G A3 A4 n c3 c4 p gr ac dn uw uh tot iu ks i v9 v gs wr) (hd : wd = wr.drew) : CvK w b7 b10 G A3 A4 n c3 c4 p gr ac dn uw uh tot iu ks i v9 v gs wd :=
  ⟨hd ▸ h.be.drew, h.r6.drewE hd, h.k7.drewE hd, h.nw.drewE hd, h.al.drewE hd, h.lt, h.k10.drewE hd, h.mt.drewE hd, h.ln⟩
/-- A row was made, appended, and the slice laid back. -/
theorem CvK.next {g : Nat} {v' : Value} (h : CvK w b7 b10 G A3 A4 n c3 c4 p gr ac dn uw uh tot iu ks i v9 v gs wr) {wm : World} (hm : Below wr.heap.size wr wm) (hg : Blk wm g 4 (bitC (ks i) fun _ => false)) (hgl : wr.heap.size ≤ g)
    (hb : Below b10 wm w') (hk : ∀ g t cs, t ≠ 47 → Blk wm g t cs → Blk w' g t cs) (ho : OwnC mtC 1 w' b10 47 v' (gs ++ [(g, ks i)])) : CvJ w b7 b10 G A3 A4 n c3 c4 p gr ac dn uw uh tot iu ks (i + 1) v9 (w'.setCell ⟨b10, 0, none⟩ v') := by
  have hh := h.bel hm
  have hl := h.lt
  have h10 := hk _ _ _ (by decide) hh.k10
  have far : ∀ {q : Nat} {t : TypeId} {cs : Array Value}, t ≠ 46 → Blk w' q t cs → Blk (w'.setCell ⟨b10, 0, none⟩ v') q t cs := fun ht hB => hB.far (hB.ne h10 ht) _
  have hln := h.ln
  subst hln
  have hlt := h.k10.lt
  have hmt : MtI w' b10 v' (gs ++ [(g, ks gs.length)]) ks (fun _ _ => false) := h.mt.snoc hgl (by omega) ho (fun q cs hB => hk _ _ _ (by decide) (hB.bel hm)) (hk _ _ _ (by decide) hg)
  exact ⟨(hh.be.trans (hb.mono (by omega))).setCell (by simp; omega) _, far (by decide) (hk _ _ _ (by decide) hh.r6), far (by decide) (hk _ _ _ (by decide) hh.k7),
    ⟨far (by decide) (hk _ _ _ (by decide) hh.nw.fr), hh.nw.po.keep (fun q cs hB => far (by decide) (hk _ _ _ (by decide) hB)), hh.nw.go.keep (fun q cs hB => far (by decide) (hk _ _ _ (by decide) hB)), hh.nw.le⟩,
    hh.al.keep (fun q cs hB => far (by decide) (hk _ _ _ (by decide) hB)), h.lt, v', _, h10.set_ 0 _, hmt.keep (fun q cs hB => far (by decide) hB) (fun q cs hB => far (by decide) hB), by simp⟩
end
theorem OwnS.neT {g : Nat} {t : TypeId} {cs : Array Value} {w : World} {base : Nat} {e : TypeId} {q n : Nat} {v : Value} {f : Nat → Nat → Int} (h : OwnS w base e q v n f) (hB : Blk w g t cs) (ht : t ≠ e) : v.ownBlock ≠ some g := fun e' => by
  rcases h.2 with ⟨rfl, _⟩ | ⟨g', cap, cur, rfl, _, hc, _⟩
  · simp [Value.ownBlock] at e'
  · simp [Value.ownBlock] at e'
    subst e'
    unfold Blk at hB
    rw [hB] at hc
    simp at hc
    exact ht hc.2
/-- The unit of the last block that was met. -/
def lastI (pre : List (Int × Spt)) : Int := match pre.getLast? with | none => 0 | some x => x.1
theorem lastI_snoc (pre : List (Int × Spt)) (x : Int × Spt) : lastI (pre ++ [x]) = x.1 := by simp [lastI]
/-- Whether the i-th place of component j was met. -/
def metF (gr : Nat → Nat → Int) (pre : List (Int × Spt)) (j : Nat) : Nat → Bool := fun i => decide (((j : Int), (i : Int)) ∈ pre.map fun x => keyS gr x.2)
theorem metF_nil (gr : Nat → Nat → Int) (j : Nat) : metF gr [] j = fun _ => false := by funext i; simp [metF]
theorem metF_same {gr : Nat → Nat → Int} {pre : List (Int × Spt)} {x : Int × Spt} {c pos : Nat} (h : keyS gr x.2 = ((c : Int), (pos : Int))) (i : Nat) : metF gr (pre ++ [x]) c i = (metF gr pre c i || decide (i = pos)) := by
  unfold metF
  rw [List.map_append, Bool.eq_iff_iff]
  simp only [Bool.or_eq_true, decide_eq_true_eq, List.mem_append, List.map_cons, List.map_nil, List.mem_singleton, h, Prod.mk.injEq]
  constructor
  · rintro (h1 | h1)
    · exact .inl h1
    · exact .inr (by omega)
  · rintro (h1 | h1)
    · exact .inl h1
    · subst h1; simp
theorem metF_other {gr : Nat → Nat → Int} {pre : List (Int × Spt)} {x : Int × Spt} {c j : Nat} {q : Int} (h : keyS gr x.2 = ((c : Int), q)) (hj : j ≠ c) : metF gr (pre ++ [x]) j = metF gr pre j := by
  funext i
  unfold metF
  rw [List.map_append, Bool.eq_iff_iff]
  simp only [decide_eq_true_eq, List.mem_append, List.map_cons, List.map_nil, List.mem_singleton, h, Prod.mk.injEq]
  constructor
  · rintro (h1 | h1)
    · exact h1
    · exfalso; omega
  · exact .inl
/-- What a block that comes next is. -/
structure CvN (gr : Nat → Nat → Int) (n nN : Nat) (pre : List (Int × Spt)) (x : Int × Spt) (c pos : Nat) : Prop where
  ce : x.2.c = c
  cn : c < n
  r0 : 0 ≤ x.2.r
  r1 : x.2.r < gr c 1
  k0 : 0 ≤ x.2.k
  k1 : x.2.k < gr c 0
  po : (pos : Int) = x.2.r * gr c 0 + x.2.k
  pl : pos < (gr c 0 * gr c 1).toNat
  key : keyS gr x.2 = ((c : Int), (pos : Int))
  nw : metF gr pre c pos = false
  la : lastI pre ≤ x.1
  x0 : 0 ≤ x.1
  xn : x.1 < nN
theorem CvP.next {gr : Nat → Nat → Int} {n nN : Nat} {lst pre r : List (Int × Spt)} {x : Int × Spt} (h : CvP gr n nN lst) (hx : lst = pre ++ x :: r) : ∃ c pos, CvN gr n nN pre x c pos := by
  have hm : x ∈ lst := by rw [hx]; simp
  obtain ⟨c, ce, cn, r0, r1, k0, k1⟩ := h.rng x hm
  have hml := mul_lt9 r0 r1 k0 k1
  have hz : gr c 0 * gr c 1 = gr c 1 * gr c 0 := Int.mul_comm _ _
  have hkey : keyS gr x.2 = ((c : Int), (((x.2.r * gr c 0 + x.2.k).toNat : Nat) : Int)) := by
    unfold keyS
    rw [ce, Int.toNat_natCast, Int.toNat_of_nonneg hml.1]
  have hp := h.pw
  rw [hx, List.pairwise_append] at hp
  obtain ⟨_, _, hp⟩ := hp
  refine ⟨c, (x.2.r * gr c 0 + x.2.k).toNat, ce, cn, r0, r1, k0, k1, Int.toNat_of_nonneg hml.1, by omega, hkey, ?_, ?_, (h.pos x hm).1, (h.pos x hm).2⟩
  · unfold metF
    rw [decide_eq_false_iff_not, ← hkey]
    intro hmem
    obtain ⟨y, hy, e⟩ := List.mem_map.1 hmem
    exact (hp y hy x (by simp)).1 e
  · unfold lastI
    cases e : pre.getLast? with
    | none => exact (h.pos x hm).1
    | some y => exact (hp y (List.mem_of_getLast? e) x (by simp)).2
end Go.Proofs.Ytjfnlgmllhjonaa

/- Plain: pieces of segments that were read, with any data (gen_mkl4.py). No program in sight. -/
import Derived.Test.YthibnhgbgmpjoaaDoorHMkP
namespace Go.Proofs.YthibnhgbgmpjoaaDoor
open Go.RowKit
set_option linter.unusedSimpArgs false
set_option linter.unusedVariables false
set_option maxRecDepth 100000
/-- A piece of a segment that was read. -/
structure Ps (p : Pc) : Prop where
  e : prE (sgC p.x) p.body = 0
  x : p.x = prG (sgC p.x) p.body
theorem Gd.ps {p : Pc} (h : Gd p) : Ps p := ⟨h.e, h.x⟩
theorem ps_mk {c : Int} {b d : ByteArray} (h : prE c b = 0) : Ps ⟨0, prG c b, b, d⟩ := by
  have h1 := (parse_back h).1
  exact ⟨by dsimp only; rw [h1]; exact h, by dsimp only; rw [h1]⟩
theorem Ps.code {p : Pc} (h : Ps p) : 192 ≤ sgC p.x ∧ sgC p.x ≤ 254 ∧ p.body.size ≤ 65533 := by
  have h1 := prE_may h.e
  have h2 := mayC_zero h1.1
  exact ⟨by omega, by omega, h1.2⟩
theorem ps_ok {m : List Pc} (h : ∀ p ∈ m, Ps p) : ∀ p ∈ m, p.x.ok ∧ byE p.x = 0 := fun p hp => by
  have hb := parse_back (h p hp).e
  rw [← (h p hp).x] at hb
  exact ⟨hb.2.2.2.1, hb.2.2.2.2⟩
theorem u8c_inj {a b : Int} (ha : 192 ≤ a ∧ a ≤ 254) (hb : 192 ≤ b ∧ b ≤ 254) (h : UInt8.ofNat a.toNat = UInt8.ofNat b.toNat) : a = b := by
  have h1 := congrArg UInt8.toNat h
  simp only [UInt8.toNat_ofNat'] at h1
  omega
theorem byS_code {p q : Pc} (hp : Ps p) (hq : Ps q) : byS p.x = byS q.x ↔ sgC p.x = sgC q.x ∧ p.body = q.body := by
  constructor
  · intro h
    have h1 := byS_eq hp.e hp.x
    rw [h, byS_eq hq.e hq.x] at h1
    simp only [List.cons_append, List.nil_append, List.cons.injEq, true_and] at h1
    have hc1 := hp.code; have hc2 := hq.code
    exact ⟨(u8c_inj ⟨hc2.1, hc2.2.1⟩ ⟨hc1.1, hc1.2.1⟩ h1.1).symm, (ByteArray.ext (Array.toList_inj.1 h1.2.2.2)).symm⟩
  · intro h
    have : p.x = q.x := by rw [hp.x, hq.x, h.1, h.2]
    rw [this]
/-- The document's answer is the pieces that were put. -/
def rfOk (R : List Pc × Nat × Int) (m : List Pc) : Prop := R.2.2 = 0 ∧ R.1.length = m.length ∧ ∀ i (h1 : i < R.1.length) (h2 : i < m.length), sgC R.1[i].x = sgC m[i].x ∧ R.1[i].body = m[i].body ∧ R.1[i].data = m[i].data
theorem rf_jn {m : List Pc} (hm : ∀ p ∈ m, Ps p) : jnOk m ↔ rfOk (spF (jnS m)) m := by
  unfold jnOk rfOk jnSame
  obtain ⟨R, hR⟩ : ∃ R, R = spF (jnS m) := ⟨_, rfl⟩
  rw [← hR]
  obtain ⟨a, b, e⟩ := R
  dsimp only
  by_cases he : e = 0
  · subst he
    have hg := (spF_good hR.symm).2.1
    constructor
    · intro ⟨_, h1, h2⟩
      exact ⟨rfl, h1, fun i i1 i2 => ⟨((byS_code (hg _ (List.getElem_mem i1)).ps (hm _ (List.getElem_mem i2))).1 (h2 i i1 i2).1).1, ((byS_code (hg _ (List.getElem_mem i1)).ps (hm _ (List.getElem_mem i2))).1 (h2 i i1 i2).1).2, (h2 i i1 i2).2⟩⟩
    · intro ⟨_, h1, h2⟩
      exact ⟨rfl, h1, fun i i1 i2 => ⟨(byS_code (hg _ (List.getElem_mem i1)).ps (hm _ (List.getElem_mem i2))).2 ⟨(h2 i i1 i2).1, (h2 i i1 i2).2.1⟩, (h2 i i1 i2).2.2⟩⟩
  · exact ⟨fun h => absurd h.1 he, fun h => absurd h.1 he⟩
theorem pcB_ps {p : Pc} (h : Ps p) : pcB p = pcW p := by
  unfold pcB pcW pcL
  rw [byS_eq h.e h.x]
theorem jnL_ps {m : List Pc} (h : ∀ p ∈ m, Ps p) : jnL m = joinL m := by
  have e : catW pcB m = catW pcW m := by
    unfold catW
    rw [List.map_congr_left fun p hp => pcB_ps (h p hp)]
  unfold jnL joinL
  rw [e]
theorem lenP_snoc (m : List Pc) (p : Pc) : lenP (m ++ [p]) = lenP m + (4 + p.body.size + p.data.size) := by
  unfold lenP
  rw [List.map_append, List.sum_append, List.map_singleton, List.sum_singleton, pcW_len]
theorem joinL_len (m : List Pc) : (joinL m).length = 4 + lenP m := by unfold joinL; rw [List.length_append, List.length_append, catW_sum]; simp; omega
theorem lenP_take (m : List Pc) (k : Nat) : lenP (m.take k) ≤ lenP m := by
  have : lenP m = lenP (m.take k) + lenP (m.drop k) := by unfold lenP; rw [← List.sum_append, ← List.map_append, List.take_append_drop]
  omega
end Go.Proofs.YthibnhgbgmpjoaaDoor

/- right: may a frame be so. No condition. -/
import Derived.Test.YthibnhgbgmpjoaaDoorHGF
import Derived.Test.YthibnhgbgmpjoaaDoorHSegY
import Derived.Test.YthibnhgbgmpjoaaDoorHRsF
import Derived.Test.YthibnhgbgmpjoaaDoorHGG
import Derived.Test.YthibnhgbgmpjoaaDoorHMkH
import Derived.Test.YthibnhgbgmpjoaaDoorHGI
namespace Go.Proofs.YthibnhgbgmpjoaaDoor
open Go.RowKit
set_option linter.unusedSimpArgs false
set_option linter.unusedVariables false
set_option maxRecDepth 100000
theorem pw_ne {l : List Pt} (h : l.Pairwise (fun a b => a.id ≠ b.id)) {m k : Nat} (hm : m < k) (hk : k < l.length) : l[m].id ≠ l[k].id := List.pairwise_iff_getElem.1 h m k (by omega) hk hm
end Go.Proofs.YthibnhgbgmpjoaaDoor
namespace Go.Proofs.YthibnhgbgmpjoaaDoor
open Go.RowKit
set_option linter.unusedSimpArgs false
set_option linter.unusedVariables false
set_option maxRecDepth 100000
theorem blk_range {w : World} {g : Nat} {t : TypeId} {cs : Array Value} (h : Blk w g t cs) : w.rangeAt g 0 cs.toList := fun j v hv => by rw [Nat.zero_add, h.cell]; simpa using hv
theorem RgV.r {w : World} {base : Nat} {cs : Array Value} {x : Sg} (h : RgV w base cs x) : RgR w cs x := by
  cases x with
  | plain c b => exact h
  | quants l => obtain ⟨u, rfl, h2⟩ := h; obtain ⟨A, cp, rfl, _⟩ := h2.form; exact ⟨A, cp, rfl, h2.rd Qt.is⟩
  | huffs l => obtain ⟨u, rfl, h2⟩ := h; obtain ⟨A, cp, rfl, _⟩ := h2.form; exact ⟨A, cp, rfl, h2.rd Hf.is⟩
  | frame c hh ww l => obtain ⟨u, rfl, h2⟩ := h; obtain ⟨A, cp, rfl, _⟩ := h2.form; exact ⟨A, cp, rfl, h2.rd Pt.is⟩
  | scan l a b hi lo => obtain ⟨u, rfl, h2⟩ := h; obtain ⟨A, cp, rfl, _⟩ := h2.form; exact ⟨A, cp, rfl, h2.rd Pk.is⟩
  | rst n => exact h
theorem RgR.one {w : World} {cs : Array Value} {x : Sg} (h : RgR w cs x) : cs.all (·.oneCell') = true := by
  cases x with
  | plain c b => subst h; exact sc_one _ _ _ _ _ _ _ _ _ _ _ _ _ rfl rfl rfl rfl
  | quants l => obtain ⟨A, cp, rfl, _⟩ := h; exact sc_one _ _ _ _ _ _ _ _ _ _ _ _ _ rfl rfl rfl rfl
  | huffs l => obtain ⟨A, cp, rfl, _⟩ := h; exact sc_one _ _ _ _ _ _ _ _ _ _ _ _ _ rfl rfl rfl rfl
  | frame c hh ww l => obtain ⟨A, cp, rfl, _⟩ := h; exact sc_one _ _ _ _ _ _ _ _ _ _ _ _ _ rfl rfl rfl rfl
  | scan l a b hi lo => obtain ⟨A, cp, rfl, _⟩ := h; exact sc_one _ _ _ _ _ _ _ _ _ _ _ _ _ rfl rfl rfl rfl
  | rst n => subst h; exact sc_one _ _ _ _ _ _ _ _ _ _ _ _ _ rfl rfl rfl rfl
theorem code_len (c : Int) (h0 : 192 ≤ c) (h1 : c ≤ 254) : (putL (bits .or .i64 65280 c) 2).length = 2 := by
  obtain ⟨k, rfl⟩ := Int.eq_ofNat_of_zero_le (show 0 ≤ c by omega)
  have h : ∀ k : Fin 255, (putL (bits .or .i64 65280 ((k.val : Nat) : Int)) 2).length = 2 := by decide +kernel
  exact h ⟨k, by omega⟩
theorem byS_tail {x : Sg} (h : byE x = 0) : (byS x).size = 4 + (sgW x).length ∧ (byS x).extract 4 (byS x).size = ⟨(sgW x).toArray⟩ := by
  obtain ⟨h1, h2⟩ := byE_zero h
  have hm := prE_may h2
  have hr : 192 ≤ sgC x ∧ sgC x ≤ 254 := by have := mayC_zero hm.1; omega
  have hz : (sgW x).length ≤ 65533 := hm.2
  have l1 := code_len (sgC x) hr.1 hr.2
  have l2 : (putL (((sgW x).length + 2 : Nat) : Int) 2).length = 2 := by rw [putL_ok (decide_eq_false (by simp; omega)), byL_length]
  have e : byS x = ⟨(putL (bits .or .i64 65280 (sgC x)) 2 ++ putL (((sgW x).length + 2 : Nat) : Int) 2 ++ sgW x).toArray⟩ := by
    unfold byS; rw [if_pos h]
    apply ByteArray.ext
    simp [ByteArray.data_append]
  have hsz : (byS x).size = 4 + (sgW x).length := by
    rw [e]
    show (putL (bits .or .i64 65280 (sgC x)) 2 ++ putL (((sgW x).length + 2 : Nat) : Int) 2 ++ sgW x).toArray.size = _
    rw [List.size_toArray, List.length_append, List.length_append, l1, l2]
  refine ⟨hsz, ?_⟩
  apply ByteArray.ext
  apply Array.toList_inj.1
  have hb := bs_ext (byS x) 4 (byS x).size
  rw [hb, hsz]
  unfold bs
  rw [e]
  show List.drop 4 (List.take (4 + (sgW x).length) (putL (bits .or .i64 65280 (sgC x)) 2 ++ putL (((sgW x).length + 2 : Nat) : Int) 2 ++ sgW x)) = sgW x
  rw [List.take_of_length_le (by rw [List.length_append, List.length_append, l1, l2]; omega)]
  rw [show (4 : Nat) = (putL (bits .or .i64 65280 (sgC x)) 2 ++ putL (((sgW x).length + 2 : Nat) : Int) 2).length by rw [List.length_append, l1, l2], List.drop_left]
end Go.Proofs.YthibnhgbgmpjoaaDoor
namespace Go.Proofs.YthibnhgbgmpjoaaDoor
open Go.RowKit
set_option linter.unusedSimpArgs false
set_option linter.unusedVariables false
set_option maxRecDepth 100000
theorem gd_bytes {p : Pc} (h : Gd p) : p.x.ok ∧ byE p.x = 0 ∧ 4 ≤ (byS p.x).size ∧ (byS p.x).extract 4 (byS p.x).size = p.body := by
  have hb := parse_back h.e
  rw [← h.x] at hb
  obtain ⟨_, h2, _, h4, h5⟩ := hb
  obtain ⟨t1, t2⟩ := byS_tail h5
  refine ⟨h4, h5, by omega, ?_⟩
  rw [t2, h2]
/-- Code of whatever segment, through the interface. -/
theorem wpList_code {ops : Array Oper} {rest : List Oper} {o : Oper} {a : Act} {w : World} {Q : Exit → Act → World → Prop} {base : Nat} {v : Value} {x : Sg} (hw : Region.wanted o (yielded ops a.tmps) = true) (r : Operand)
    (ho : o.op = .call { callee := .invoke r "Code", args := #[], argTypes := #[] }) (hr : a.eval r = v) (hV : SgV w base v x)
    (h : ∀ w', Below w.heap.size w w' → wpList Tryd.prog ops Q rest (a.put o.dst (.int .i64 (sgC x))) w') : wpList Tryd.prog ops Q (o :: rest) a w :=
  wpList_step fun K hK => by
    have hs : ∀ (f : FuncId) (y : Value), (execOp a.eval o).run Tryd.prog w = .ok (.enter f #[y]) w → Calls Tryd.prog f #[y] w (fun e w' => e = .returned (.int .i64 (sgC x)) ∧ Below w.heap.size w w') → o.wp Tryd.prog a w K Q := fun f y h1 h2 => by
      unfold Oper.wp
      rw [h1, Oper.upon_enter]
      exact h2.mono fun e w' ⟨he, hb⟩ => by subst he; exact hK _ _ (h w' hb)
    rw [if_pos hw]
    cases x with
    | plain c b =>
      obtain rfl := hV
      exact hs 84 (.agg #[.int .i64 c, .string b]) (by unfold execOp; simp only [ho, resolve, hr]; kernel_rfl) (codePlain _ _ _)
    | quants l =>
      obtain ⟨u, rfl, hO⟩ := hV; obtain ⟨A, cp, rfl⟩ := own_len hO
      exact hs 86 (.agg #[.slice A l.length cp]) (by unfold execOp; simp only [ho, resolve, hr]; kernel_rfl) (codeQuants _ _ _ _)
    | huffs l =>
      obtain ⟨u, rfl, hO⟩ := hV; obtain ⟨A, cp, rfl⟩ := own_len hO
      exact hs 87 (.agg #[.slice A l.length cp]) (by unfold execOp; simp only [ho, resolve, hr]; kernel_rfl) (codeHuffs _ _ _ _)
    | frame c hh ww l =>
      obtain ⟨u, rfl, hO⟩ := hV; obtain ⟨A, cp, rfl⟩ := own_len hO
      exact hs 88 (.agg #[.int .i64 c, .int .i64 hh, .int .i64 ww, .slice A l.length cp]) (by unfold execOp; simp only [ho, resolve, hr]; kernel_rfl) (codeFrame _ _ _ _ _ _ _)
    | scan l x1 x2 x3 x4 =>
      obtain ⟨u, rfl, hO⟩ := hV; obtain ⟨A, cp, rfl⟩ := own_len hO
      exact hs 85 (.agg #[.slice A l.length cp, .int .i64 x1, .int .i64 x2, .int .i64 x3, .int .i64 x4]) (by unfold execOp; simp only [ho, resolve, hr]; kernel_rfl) (codeScan _ _ _ _ _ _ _ _)
    | rst n =>
      obtain rfl := hV
      exact hs 83 (.agg #[.int .i64 n]) (by unfold execOp; simp only [ho, resolve, hr]; kernel_rfl) (codeRestart _ _)
end Go.Proofs.YthibnhgbgmpjoaaDoor
namespace Go.Proofs.YthibnhgbgmpjoaaDoor
open Go.RowKit
set_option linter.unusedSimpArgs false
set_option linter.unusedVariables false
set_option maxRecDepth 100000
theorem ex1 : (spF ⟨#[255, 216, 255, 254, 0, 4, 104, 105, 255, 217]⟩).2 = (0, 0) ∧ ((spF ⟨#[255, 216, 255, 254, 0, 4, 104, 105, 255, 217]⟩).1.map Pc.at_) = [2] := by constructor <;> kernel_rfl
theorem ex2 : (spF ⟨#[255, 216, 255, 217, 0]⟩).2 = (4, 4) := by kernel_rfl
set_option maxHeartbeats 1000000 in
theorem awake8 (w : World) (hL : Laid w) : Calls Tryd.prog 7 #[] w fun e w' => e = .returned (.bool true) ∧ Below w.heap.size w w' := by
  have h1 := splitF_walk ⟨#[255, 216, 255, 254, 0, 4, 104, 105, 255, 217]⟩ w hL
  have h2 := fun W hL => splitF_walk ⟨#[255, 216, 255, 217, 0]⟩ W hL
  unfold SplitFPost at h1 h2
  rw [ex1.1] at h1
  rw [ex2] at h2
  have hl : (spF ⟨#[255, 216, 255, 254, 0, 4, 104, 105, 255, 217]⟩).1.length = 1 := by have := congrArg List.length ex1.2; simpa using this
  obtain ⟨m, hm⟩ : ∃ m, m = (spF ⟨#[255, 216, 255, 254, 0, 4, 104, 105, 255, 217]⟩).1 := ⟨_, rfl⟩
  have hat : m.map Pc.at_ = [2] := by rw [hm]; exact ex1.2
  rw [← hm] at h1 hl
  have HS1 := Lib.hid h1; have HS2 := Lib.hid h2; have HL := Lib.hid hL
  clear h1 h2 hm hL
  go_enter Tryd.func7, Tryd.ntmps7
  go_upto_region 3 with (first | (go_at_call 8; refine (HS1.out).mono ?_; rintro ex w1 ⟨v, l, rfl, hO, hP, hb1⟩; have HO1 := Lib.hid hO; have HP1 := Lib.hid hP; have HB1 := Lib.hid hb1; clear hO hP hb1 HS1) | (go_at_call 8; refine (HS2.out _ (HL.out.below HB1.out)).mono ?_; rintro ex w2 ⟨v2, l2, rfl, _, _, hb2⟩; have HB2 := Lib.hid hb2; clear hb2))
  obtain ⟨A, cp, hv, _⟩ := HO1.out.form
  have hll : l.length = 1 := by rw [HP1.out.1]; exact hl
  rw [hll] at hv
  subst hv
  have h2 := HO1.out.bel HB2.out
  rw [← hll] at h2
  obtain ⟨g, rfl, hg1, hg2, hcl⟩ := h2.at_ Pv.is (show 0 < l.length by omega)
  have q0 : w2.cell? ⟨g, 0, none⟩ = some (.int .i64 2) := by
    have h3 := hcl 0 (by decide)
    have h4 := (HP1.out.2 0 (by omega) (by omega)).1
    have h5 : m[0].at_ = 2 := by
      have := congrArg (fun z => z[0]?) hat
      simp only [List.getElem?_map] at this
      rw [List.getElem?_eq_getElem (by omega)] at this
      simpa using this
    rw [Nat.zero_mul] at h3
    rw [h3]
    simp only [Pv.cells]
    rw [h4, h5]
    rfl
  clear h2 hcl hg1 hg2
  go_wp2_with fail
  go_ret
  exact ⟨rfl, HB1.out.trans (HB2.out.mono HB1.out.size)⟩
theorem rp_c1 {p : Rp} {c : Int} (h : p.cs[0]? = some (.int .i64 c)) : (Rp.cells p)[1]? = some (.int .i64 c) := by
  obtain ⟨a, cs, hz, h1, body, data⟩ := p
  obtain ⟨v0, v1, v2, v3, v4, v5, v6, v7, v8, v9, v10, v11, v12, rfl⟩ := arr13 hz
  exact h
theorem rp_c14 (p : Rp) : (Rp.cells p)[14]? = some (.string p.body) := by
  obtain ⟨a, cs, hz, h1, body, data⟩ := p
  obtain ⟨v0, v1, v2, v3, v4, v5, v6, v7, v8, v9, v10, v11, v12, rfl⟩ := arr13 hz
  rfl
theorem rp_c0 (p : Rp) : (Rp.cells p)[0]? = some (.int .i64 p.at_) := by
  obtain ⟨a, cs, hz, h1, body, data⟩ := p
  obtain ⟨v0, v1, v2, v3, v4, v5, v6, v7, v8, v9, v10, v11, v12, rfl⟩ := arr13 hz
  rfl
theorem rp_c15' (p : Rp) : (Rp.cells p)[15]? = some (.string p.data) := by
  obtain ⟨a, cs, hz, h1, body, data⟩ := p
  obtain ⟨v0, v1, v2, v3, v4, v5, v6, v7, v8, v9, v10, v11, v12, rfl⟩ := arr13 hz
  rfl
end Go.Proofs.YthibnhgbgmpjoaaDoor

/- The order of any scan is the document's, however soon one stops. No condition. -/
import Derived.Test.YtjfnlgmllhjonaaFrY
import Derived.Test.YtjfnlgmllhjonaaInI
import Derived.ShutString
import Derived.ChangeOld
import Derived.SizedLaws
namespace Go.Proofs.Ytjfnlgmllhjonaa
open Go.RowKit
set_option linter.unusedSimpArgs false
set_option linter.unusedVariables false
theorem InI.rdZ {w : World} {A : Option Addr} {n : Nat} {f : Nat → Int} (h : InI w A n f) : RdZ w A n f := fun j hj => by
  obtain ⟨b, off, h1, h2, h3, _⟩ := h j hj
  exact ⟨b, off, h1, h2, h3⟩
theorem frameScans_walk (a b : Int) (A C : Option Addr) (n c m cc : Nat) (f : Nat → Nat → Int) (fc : Nat → Int) (st : Int) (hst : (Lit.int .u8 st).wf = true) (w : World) (hR : RdS w A n 2 f) (hC : RdZ w C m fc) : Calls Try.prog 6 #[.int .i64 a, .int .i64 b, .slice A n c, .slice C m cc, .int .u8 st] w fun e w' => e = .returned (.bool true) ∧ Below w.heap.size w w' := by
  have hs : 0 ≤ st ∧ st ≤ 255 := by
    have h1 : IntKind.u8.min = 0 := rfl
    have h2 : IntKind.u8.max = 255 := rfl
    simp [Lit.wf] at hst
    omega
  by_cases hl : 100 < n ∨ 20 < m
  · exact scans_long a b A C n c m cc st hl w
  · by_cases h0 : faultV a b n f = 0
    · by_cases h6 : 600 < sumU (gridU a b (pF n f) n) n
      · exact scans_big a b A C n c m cc f st (by omega) (by omega) w hR h0 h6
      · cases hr : risesB n m fc with
        | false => exact scans_still a b A C n c m cc f fc st (by omega) (by omega) w hR hC h0 h6 hr
        | true => exact scans_go a b A C n c m cc f fc st hs (by omega) (by omega) w hR hC h0 h6 hr
    · exact scans_no a b A C n c m cc f st (by omega) (by omega) w hR h0
namespace lawFrameScans
open Go.ChangeShapes Go.WideShapes Go.ChangeAt Go.RowKit
open Go.ChangeMaps (open_string shut_string)
theorem own : ownKnob Try.prog.godebug = none := by kernel_rfl
theorem laidOut : laidOutB Try.prog = true := by kernel_rfl

set_option maxRecDepth 100000 in
theorem lifted (os : Os) (started : os.Started) (H : Type) (enc : TypeId × Value → H) :
    ReturnsInHanded {} Try.checked os 6 .any (Rows.frameScansSpec.pre6 enc Try.prog Try.f6 Rows.frameScansRow.domain false) (Rows.frameScansSpec.post enc Try.prog Try.f6 false true false false) := by
  refine returnsInHanded_of_change_sized (C := Try.checked) own started (by kernel_rfl) Try.func6
    (ChangeSpec.witness6 (enc := enc) (C := Try.checked) false ⟨#[], #[.int .i64 0, .int .i64 0, .slice none 0 0, .slice none 0 0, .int .u8 0], []⟩ 8 (by kernel_rfl) (by kernel_rfl) (by kernel_rfl) (by kernel_rfl)) ?_
  intro W base args ds gs before hval0 hW hcnd hsz0 _
  have hsz : (DataW.weightsEach Try.prog (Try.f6.params.toList ++ Rows.frameScansSpec.plain.varTypes Try.prog) (ds ++ gs)).all (· ≤ reachBytes) = true := hsz0
  have hval : ∀ (j : Nat) t v, Try.f6.params[j]? = some t → args[j]? = some v → Value.okWide Try.prog W .any base t v := hval0
  have hW' := hW
  obtain ⟨p, q, hA0, hV, hbefore, hfz, hnd⟩ := hW
  obtain ⟨rfl, rfl⟩ := trodVars_none hV
  have hA : DataW.TrodAll enc Try.prog W 0 (fun _ => true) true Try.f6.params.toList args.toList ds p := hA0
  rw [Try.params6] at hA hval hsz
  obtain ⟨v0, vs1, d0, ds1, p0, q0, hargs, rfl, hps, h0, r0⟩ := trodAll_cons hA
  obtain ⟨v1, vs2, d1, ds2, p1, q1, rfl, rfl, rfl, h1, r1⟩ := trodAll_cons r0
  obtain ⟨v2, vs3, d2, ds3, p2, q2, rfl, rfl, rfl, h2, r2⟩ := trodAll_cons r1
  obtain ⟨v3, vs4, d3, ds4, p3, q3, rfl, rfl, rfl, h3, r3⟩ := trodAll_cons r2
  obtain ⟨v4, vs5, d4, ds5, p4, q4, rfl, rfl, rfl, h4, r4⟩ := trodAll_cons r3
  obtain ⟨rfl, rfl, rfl⟩ := trodAll_nil r4
  obtain rfl : args = #[v0, v1, v2, v3, v4] := by cases args; simp_all
  have o0 := hval 0 3 v0 rfl rfl
  have o1 := hval 1 3 v1 rfl rfl
  have o2 := hval 2 22 v2 rfl rfl
  have o3 := hval 3 45 v3 rfl rfl
  have o4 := hval 4 5 v4 rfl rfl
  clear hA0 hval0
  obtain ⟨a, rfl, rfl, rfl, wa⟩ := open_int Try.underlying3 o0 h0
  obtain ⟨b, rfl, rfl, rfl, wb⟩ := open_int Try.underlying3 o1 h1
  obtain ⟨A, n, c, f, rfl, hnc, hI⟩ := openInS Try.underlying22 Try.underlying69 (by kernel_rfl) (by kernel_rfl) (by decide) (fun _ => IntKind.i64) (by intro j f h; match j, h with | 0, h => (cases h; exact Try.underlying3) | 1, h => (cases h; exact Try.underlying3) | j + 2, h => simp at h) o2 h2
  obtain ⟨C, m, cc, fc, rfl, hmc, hJ⟩ := openInI o3 h3
  obtain ⟨st, rfl, rfl, rfl, ws⟩ := open_int Try.underlying5 o4 h4
  refine (frameScans_walk a b A C n c m cc f fc st ws W hI.rd hJ.rdZ).mono fun e W' ⟨he, hb⟩ => ?_
  subst he
  exact ⟨_, rfl, law_post laidOut (by rw [Try.params6]; intro t ht; simp only [List.mem_cons, List.not_mem_nil, or_false] at ht; rcases ht with rfl | rfl | rfl | rfl | rfl <;> exact ⟨by kernel_rfl, of_decide_eq_true (by kernel_rfl)⟩) (by kernel_rfl) Try.underlying4 hW' rfl rfl hb⟩
theorem said : Rows.FrameScansSaid :=
  OpenClaim.holds_of_wide 6 Try.f6 rfl rfl rfl rfl rfl rfl rfl ⟨rfl, rfl, rfl, rfl, rfl⟩ rfl rfl rfl rfl rfl (by kernel_rfl) Try.func6 (by kernel_rfl)
    (of_decide_eq_true (by kernel_rfl)) (by unfold Func.isWrapper; first | (rw [if_pos (by decide +kernel)]; kernel_rfl) | (rw [if_neg (by decide +kernel)]; exact ⟨rfl, rfl⟩))
    (fun os started H enc _ => lifted os started H enc)
#print axioms said
end lawFrameScans
end Go.Proofs.Ytjfnlgmllhjonaa

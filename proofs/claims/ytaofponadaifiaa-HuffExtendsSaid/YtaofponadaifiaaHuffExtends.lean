/- What bits stand for, and by which a number is written, is the document's; the one undoes the other. No condition. -/
import Derived.Test.YtaofponadaifiaaHuD
import Derived.ShutString
import Derived.ChangeOld
import Derived.SizedLaws
namespace Go.Proofs.Ytaofponadaifiaa
open Go.RowKit
set_option linter.unusedSimpArgs false
set_option linter.unusedVariables false
set_option maxHeartbeats 0 in
set_option maxRecDepth 20000 in
theorem huffExtends_walk (v n : Int) (hv : -9223372036854775808 ≤ v ∧ v ≤ 9223372036854775807) (w : World) : Calls Try.prog 5 #[.int .i64 v, .int .i64 n] w fun e w' => e = .returned (.bool true) ∧ Below w.heap.size w w' := by
  obtain ⟨r, hX, hX2⟩ := ext_both v n
  obtain ⟨k, b, hS, hR, hB⟩ := shor_both v hv
  have HX := Lib.hid hX; have HX2 := Lib.hid hX2; have HS_ := Lib.hid hS; have HR := Lib.hid hR; have HBK := Lib.hid hB
  clear hX hX2 hS hR hB
  by_cases hk : k = 0
  · have g0 : ((k : Int) == 0) = true := by simpa using hk
    have HK := Lib.hid hk; clear hk
    go_enter Try.func5, Try.ntmps5
    go_wp2_with (first | (go_at_call 14; refine (HS_.out _).mono ?_; rintro e w1 ⟨rfl, hb1⟩; have HB1 := Lib.hid hb1; clear hb1) | (go_at_call 15; refine (HR.out _).mono ?_; rintro e w2 ⟨rfl, rfl⟩) | (go_at_call 16; refine (HX.out _).mono ?_; rintro e w3 ⟨rfl, rfl⟩) | (go_at_call 17; refine (HX2.out _).mono ?_; rintro e w4 ⟨rfl, rfl⟩) | (go_at_call 9; refine (awake_walk _).mono ?_; rintro e w5 ⟨rfl, hb5⟩; have HB5 := Lib.hid (HB1.out.trans (hb5.mono HB1.out.size)); clear hb5))
    go_ret
    exact ⟨rfl, HB5.out⟩
  · have g0 : ((k : Int) == 0) = false := by simpa using hk
    have hB := HBK.out hk
    have HB := Lib.hid hB; clear hB
    have HK := Lib.hid hk; clear hk
    go_enter Try.func5, Try.ntmps5
    go_wp2_with (first | (go_at_call 14; refine (HS_.out _).mono ?_; rintro e w1 ⟨rfl, hb1⟩; have HB1 := Lib.hid hb1; clear hb1) | (go_at_call 15; refine (HR.out _).mono ?_; rintro e w2 ⟨rfl, rfl⟩) | (go_at_call 16; (with_reducible refine (HX.out _).mono ?_); rintro e w3 ⟨rfl, rfl⟩) | (go_at_call 16; (with_reducible refine (HB.out _).mono ?_); rintro e w3 ⟨rfl, rfl⟩) | (go_at_call 17; refine (HX2.out _).mono ?_; rintro e w4 ⟨rfl, rfl⟩) | (go_at_call 9; refine (awake_walk _).mono ?_; rintro e w5 ⟨rfl, hb5⟩; have HB5 := Lib.hid (HB1.out.trans (hb5.mono HB1.out.size)); clear hb5))
    go_ret
    exact ⟨rfl, HB5.out⟩

namespace lawHuffExtends
open Go.ChangeShapes Go.WideShapes Go.ChangeAt Go.RowKit
open Go.ChangeMaps (open_string shut_string)
theorem own : ownKnob Try.prog.godebug = none := by kernel_rfl
theorem laidOut : laidOutB Try.prog = true := by kernel_rfl

set_option maxRecDepth 100000 in
theorem lifted (os : Os) (started : os.Started) (H : Type) (enc : TypeId × Value → H) :
    ReturnsInHanded {} Try.checked os 5 .any (Rows.huffExtendsSpec.pre6 enc Try.prog Try.f5 Rows.huffExtendsRow.domain false) (Rows.huffExtendsSpec.post enc Try.prog Try.f5 false true false false) := by
  refine returnsInHanded_of_change_sized (C := Try.checked) own started (by kernel_rfl) Try.func5
    (ChangeSpec.witness6 (enc := enc) (C := Try.checked) false ⟨#[], #[.int .i64 0, .int .i64 0], []⟩ 8 (by kernel_rfl) (by kernel_rfl) (by kernel_rfl) (by kernel_rfl)) ?_
  intro W base args ds gs before hval0 hW hcnd hsz0 _
  have hsz : (DataW.weightsEach Try.prog (Try.f5.params.toList ++ Rows.huffExtendsSpec.plain.varTypes Try.prog) (ds ++ gs)).all (· ≤ reachBytes) = true := hsz0
  have hval : ∀ (j : Nat) t v, Try.f5.params[j]? = some t → args[j]? = some v → Value.okWide Try.prog W .any base t v := hval0
  have hW' := hW
  obtain ⟨p, q, hA0, hV, hbefore, hfz, hnd⟩ := hW
  obtain ⟨rfl, rfl⟩ := trodVars_none hV
  have hA : DataW.TrodAll enc Try.prog W 0 (fun _ => true) true Try.f5.params.toList args.toList ds p := hA0
  rw [Try.params5] at hA hval hsz
  obtain ⟨v0, vs1, d0, ds1, p0, q0, hargs, rfl, hps, h0, r0⟩ := trodAll_cons hA
  obtain ⟨v1, vs2, d1, ds2, p1, q1, rfl, rfl, rfl, h1, r1⟩ := trodAll_cons r0
  obtain ⟨rfl, rfl, rfl⟩ := trodAll_nil r1
  obtain rfl : args = #[v0, v1] := by cases args; simp_all
  have o0 := hval 0 3 v0 rfl rfl
  have o1 := hval 1 3 v1 rfl rfl
  clear hA0 hval0
  obtain ⟨v, rfl, rfl, rfl, wv⟩ := open_int Try.underlying3 o0 h0
  obtain ⟨n, rfl, rfl, rfl, wn⟩ := open_int Try.underlying3 o1 h1
  refine (huffExtends_walk v n (i64_rng wv) W).mono fun e W' ⟨he, hb⟩ => ?_
  subst he
  exact ⟨_, rfl, law_post laidOut (by rw [Try.params5]; intro t ht; simp only [List.mem_cons, List.not_mem_nil, or_false] at ht; rcases ht with rfl | rfl <;> exact ⟨by kernel_rfl, of_decide_eq_true (by kernel_rfl)⟩) (by kernel_rfl) Try.underlying4 hW' rfl rfl hb⟩
theorem said : Rows.HuffExtendsSaid :=
  OpenClaim.holds_of_wide 5 Try.f5 rfl rfl rfl rfl rfl rfl rfl ⟨rfl, rfl, rfl, rfl, rfl⟩ rfl rfl rfl rfl rfl (by kernel_rfl) Try.func5 (by kernel_rfl)
    (of_decide_eq_true (by kernel_rfl)) (by unfold Func.isWrapper; first | (rw [if_pos (by decide +kernel)]; kernel_rfl) | (rw [if_neg (by decide +kernel)]; exact ⟨rfl, rfl⟩))
    (fun os started H enc _ => lifted os started H enc)
#print axioms said
end lawHuffExtends
end Go.Proofs.Ytaofponadaifiaa

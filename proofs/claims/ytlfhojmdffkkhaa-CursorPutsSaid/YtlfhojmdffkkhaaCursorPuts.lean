/- Any number's bytes are the document's, or refused. No condition. -/
import Derived.Test.YtlfhojmdffkkhaaCurD
import Derived.ShutString
import Derived.ChangeOld
import Derived.SizedLaws
namespace Go.Proofs.Ytlfhojmdffkkhaa
open Go.RowKit
set_option linter.unusedSimpArgs false
set_option linter.unusedVariables false
set_option maxHeartbeats 1600000 in
theorem cursorPuts_ok (n s : Int) (t : ByteArray) (x : Int) (h1 : ∀ w, Calls Try.prog 8 #[.int .i64 n, .int .i64 s] w fun e w' => e = .returned (.tuple #[.string t, .int .i64 x]) ∧ Below w.heap.size w w')
    (h2 : ∀ w, Calls Try.prog 9 #[.int .i64 n, .int .i64 s] w fun e w' => e = .returned (.tuple #[.string t, .int .i64 x]) ∧ Below w.heap.size w w') (w : World) :
    Calls Try.prog 3 #[.int .i64 n, .int .i64 s] w fun e w' => e = .returned (.bool true) ∧ Below w.heap.size w w' := by
  have H1 := Lib.hid h1; clear h1
  have H2 := Lib.hid h2; clear h2
  go_enter Try.func3, Try.ntmps3
  go_wp2_with fail
  refine (H1.out _).mono ?_
  rintro e w1 ⟨rfl, hb1⟩
  have B1 := Lib.hid hb1; clear hb1
  go_wp2_with fail
  refine (H2.out _).mono ?_
  rintro e w2 ⟨rfl, hb2⟩
  have B2 := Lib.hid (B1.out.trans (hb2.mono B1.out.size)); clear hb2
  go_wp2_with fail
  refine (awake_true _).mono ?_
  rintro e w3 ⟨rfl, hb3⟩
  have B3 := Lib.hid (B2.out.trans (hb3.mono B2.out.size)); clear hb3
  go_wp2_with fail
  go_ret
  exact ⟨by first | rfl | simp, B3.out⟩
theorem cursorPuts_walk (n s : Int) (w : World) :
    Calls Try.prog 3 #[.int .i64 n, .int .i64 s] w fun e w' => e = .returned (.bool true) ∧ Below w.heap.size w w' := by
  by_cases hs : s < 1 ∨ 4 < s
  · exact cursorPuts_ok n s _ _ (fun w => (put_arg n s hs w).mono fun _ _ h => ⟨h.1, h.2 ▸ Below.refl _ _⟩) (fun w => (refPut_arg n s hs w).mono fun _ _ h => ⟨h.1, h.2 ▸ Below.refl _ _⟩) w
  · obtain ⟨m, rfl⟩ := Int.eq_ofNat_of_zero_le (show 0 ≤ s by omega)
    by_cases hn : n < 0 ∨ 256 ^ m ≤ n
    · exact cursorPuts_ok n m _ _ (fun w => (put_large n m (by omega) (by omega) hn w).mono fun _ _ h => ⟨h.1, h.2 ▸ Below.refl _ _⟩) (fun w => refPut_large n m (by omega) (by omega) hn w) w
    · exact cursorPuts_ok n m _ _ (fun w => put_ok n m (by omega) (by omega) (by omega) (by omega) w) (fun w => refPut_ok n m (by omega) (by omega) (by omega) (by omega) w) w

namespace lawCursorPuts
open Go.ChangeShapes Go.WideShapes Go.ChangeAt Go.RowKit
open Go.ChangeMaps (open_string shut_string)
theorem own : ownKnob Try.prog.godebug = none := by kernel_rfl
theorem laidOut : laidOutB Try.prog = true := by kernel_rfl

set_option maxRecDepth 100000 in
theorem lifted (os : Os) (started : os.Started) (H : Type) (enc : TypeId × Value → H) :
    ReturnsInHanded {} Try.checked os 3 .any (Rows.cursorPutsSpec.pre6 enc Try.prog Try.f3 Rows.cursorPutsRow.domain false) (Rows.cursorPutsSpec.post enc Try.prog Try.f3 false true false false) := by
  refine returnsInHanded_of_change_sized (C := Try.checked) own started (by kernel_rfl) Try.func3
    (ChangeSpec.witness6 (enc := enc) (C := Try.checked) false ⟨#[], #[.int .i64 0, .int .i64 0], []⟩ 8 (by kernel_rfl) (by kernel_rfl) (by kernel_rfl) (by kernel_rfl)) ?_
  intro W base args ds gs before hval0 hW hcnd hsz0 _
  have hsz : (DataW.weightsEach Try.prog (Try.f3.params.toList ++ Rows.cursorPutsSpec.plain.varTypes Try.prog) (ds ++ gs)).all (· ≤ reachBytes) = true := hsz0
  have hval : ∀ (j : Nat) t v, Try.f3.params[j]? = some t → args[j]? = some v → Value.okWide Try.prog W .any base t v := hval0
  have hW' := hW
  obtain ⟨p, q, hA0, hV, hbefore, hfz, hnd⟩ := hW
  obtain ⟨rfl, rfl⟩ := trodVars_none hV
  have hA : DataW.TrodAll enc Try.prog W 0 (fun _ => true) true Try.f3.params.toList args.toList ds p := hA0
  rw [Try.params3] at hA hval hsz
  obtain ⟨v0, vs1, d0, ds1, p0, q0, hargs, rfl, hps, h0, r0⟩ := trodAll_cons hA
  obtain ⟨v1, vs2, d1, ds2, p1, q1, rfl, rfl, rfl, h1, r1⟩ := trodAll_cons r0
  obtain ⟨rfl, rfl, rfl⟩ := trodAll_nil r1
  obtain rfl : args = #[v0, v1] := by cases args; simp_all
  have o0 := hval 0 3 v0 rfl rfl
  have o1 := hval 1 3 v1 rfl rfl
  clear hA0 hval0
  obtain ⟨n, rfl, rfl, rfl, wn⟩ := open_int Try.underlying3 o0 h0
  obtain ⟨s, rfl, rfl, rfl, ws⟩ := open_int Try.underlying3 o1 h1
  refine (cursorPuts_walk n s W).mono fun e W' ⟨he, hb⟩ => ?_
  subst he
  exact ⟨_, rfl, law_post laidOut (by rw [Try.params3]; intro t ht; simp only [List.mem_cons, List.not_mem_nil, or_false] at ht; rcases ht with rfl | rfl <;> exact ⟨by kernel_rfl, of_decide_eq_true (by kernel_rfl)⟩) (by kernel_rfl) Try.underlying4 hW' rfl rfl hb⟩
theorem said : Rows.CursorPutsSaid :=
  OpenClaim.holds_of_wide 3 Try.f3 rfl rfl rfl rfl rfl rfl rfl ⟨rfl, rfl, rfl, rfl, rfl⟩ rfl rfl rfl rfl rfl (by kernel_rfl) Try.func3 (by kernel_rfl)
    (of_decide_eq_true (by kernel_rfl)) (by unfold Func.isWrapper; first | (rw [if_pos (by decide +kernel)]; kernel_rfl) | (rw [if_neg (by decide +kernel)]; exact ⟨rfl, rfl⟩))
    (fun os started H enc _ => lifted os started H enc)
#print axioms said
end lawCursorPuts
end Go.Proofs.Ytlfhojmdffkkhaa

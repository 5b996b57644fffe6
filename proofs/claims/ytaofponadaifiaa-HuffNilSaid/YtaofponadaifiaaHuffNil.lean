/- A nil table has nothing; nil readers and writers are refused. No condition. -/
import Derived.Test.YtaofponadaifiaaHuN
import Derived.ShutString
import Derived.ChangeOld
import Derived.SizedLaws
namespace Go.Proofs.Ytaofponadaifiaa
open Go.RowKit
set_option linter.unusedSimpArgs false
set_option linter.unusedVariables false
def oneC : Nat → Int := fun j => if j = 0 then 1 else 0
theorem one_new : ∃ st, hufNew oneC ⟨#[97]⟩ = some st := ⟨_, rfl⟩
theorem oneC_rng (j : Nat) (_h : j < 16) : 0 ≤ oneC j ∧ oneC j ≤ 255 := by unfold oneC; split <;> omega
set_option maxHeartbeats 0 in
set_option maxRecDepth 20000 in
theorem huffNil_walk (x : Int) (w : World) : Calls Try.prog 7 #[.int .i64 x] w fun e w' => e = .returned (.bool true) ∧ Below w.heap.size w w' := by
  obtain ⟨st, hst⟩ := one_new
  have hN : ∀ w : World, Calls Try.prog 10 #[.agg #[.int .u8 1, .int .u8 0, .int .u8 0, .int .u8 0, .int .u8 0, .int .u8 0, .int .u8 0, .int .u8 0, .int .u8 0, .int .u8 0, .int .u8 0, .int .u8 0, .int .u8 0, .int .u8 0, .int .u8 0, .int .u8 0], .string ⟨#[97]⟩] w fun e w' => Hid (TabOf w oneC ⟨#[97]⟩ st e w') := fun w => (new_h oneC ⟨#[97]⟩ w oneC_rng (by decide)).mono fun e w' h => NewH.get h hst
  have heq : ∀ w : World, (binOp .eql 22 (.agg #[.int .u8 0, .int .u8 0, .int .u8 0, .int .u8 0, .int .u8 0, .int .u8 0, .int .u8 0, .int .u8 0, .int .u8 0, .int .u8 0, .int .u8 0, .int .u8 0, .int .u8 0, .int .u8 0, .int .u8 0, .int .u8 0]) (.agg #[.int .u8 0, .int .u8 0, .int .u8 0, .int .u8 0, .int .u8 0, .int .u8 0, .int .u8 0, .int .u8 0, .int .u8 0, .int .u8 0, .int .u8 0, .int .u8 0, .int .u8 0, .int .u8 0, .int .u8 0, .int .u8 0])).run Try.prog w = .ok (.bool true) w := fun w => by kernel_rfl
  have HN := Lib.hid hN
  clear hN hst
  go_enter Try.func7, Try.ntmps7
  go_wp2_with (first | (go_at_call 11; refine (code_nil _ _).mono ?_; rintro e w' ⟨rfl, rfl⟩) | (go_at_call 18; refine (newReader_walk ⟨#[97, 98, 99]⟩ 0 (by decide) _).mono ?_; rintro e w1 ⟨rfl, _, hb1⟩; have HB1 := Lib.hid hb1; clear hb1) | (go_at_call 20; ((with_reducible refine (next_nil _ _).mono ?_)); rintro e w' ⟨rfl, rfl⟩) | (go_at_call 23; refine (newWriter_walk _).mono ?_; rintro e w2 ⟨rfl, _, hb2⟩; have HB2 := Lib.hid (HB1.out.trans (hb2.mono HB1.out.size)); clear hb2) | (go_at_call 22; ((with_reducible refine (put_nil1 _ _ _).mono ?_)); rintro e w' ⟨rfl, rfl⟩) | (go_at_call 10; refine (HN.out _).mono ?_; intro e w3 hp; obtain ⟨g, at_, fs, rfl, _, _, _, hb3⟩ := hp.out; have HB3 := Lib.hid (HB2.out.trans (hb3.mono HB2.out.size)); clear hb3 hp) | (go_at_call 20; ((with_reducible refine (next_nilr _ _).mono ?_)); rintro e w' ⟨rfl, rfl⟩) | (go_at_call 9; refine (awake_walk _).mono ?_; rintro e w4 ⟨rfl, hb4⟩; have HB4 := Lib.hid (HB3.out.trans (hb4.mono HB3.out.size)); clear hb4) | (go_at_call 22; ((with_reducible refine (put_nil2 _ _ _).mono ?_)); rintro e w' ⟨rfl, rfl⟩) | (go_at_call 24; refine (syms_nil _).mono ?_; rintro e w' ⟨rfl, rfl⟩) | (go_at_call 25; refine (counts_nil _).mono ?_; rintro e w5 ⟨rfl, hb5⟩; have HB5 := Lib.hid (HB4.out.trans (hb5.mono HB4.out.size)); clear hb5))
  go_ret
  exact ⟨rfl, HB5.out⟩

namespace lawHuffNil
open Go.ChangeShapes Go.WideShapes Go.ChangeAt Go.RowKit
open Go.ChangeMaps (open_string shut_string)
theorem own : ownKnob Try.prog.godebug = none := by kernel_rfl
theorem laidOut : laidOutB Try.prog = true := by kernel_rfl

set_option maxRecDepth 100000 in
theorem lifted (os : Os) (started : os.Started) (H : Type) (enc : TypeId × Value → H) :
    ReturnsInHanded {} Try.checked os 7 .any (Rows.huffNilSpec.pre6 enc Try.prog Try.f7 Rows.huffNilRow.domain false) (Rows.huffNilSpec.post enc Try.prog Try.f7 false true false false) := by
  refine returnsInHanded_of_change_sized (C := Try.checked) own started (by kernel_rfl) Try.func7
    (ChangeSpec.witness6 (enc := enc) (C := Try.checked) false ⟨#[], #[.int .i64 0], []⟩ 8 (by kernel_rfl) (by kernel_rfl) (by kernel_rfl) (by kernel_rfl)) ?_
  intro W base args ds gs before hval0 hW hcnd hsz0 _
  have hsz : (DataW.weightsEach Try.prog (Try.f7.params.toList ++ Rows.huffNilSpec.plain.varTypes Try.prog) (ds ++ gs)).all (· ≤ reachBytes) = true := hsz0
  have hval : ∀ (j : Nat) t v, Try.f7.params[j]? = some t → args[j]? = some v → Value.okWide Try.prog W .any base t v := hval0
  have hW' := hW
  obtain ⟨p, q, hA0, hV, hbefore, hfz, hnd⟩ := hW
  obtain ⟨rfl, rfl⟩ := trodVars_none hV
  have hA : DataW.TrodAll enc Try.prog W 0 (fun _ => true) true Try.f7.params.toList args.toList ds p := hA0
  rw [Try.params7] at hA hval hsz
  obtain ⟨v0, vs1, d0, ds1, p0, q0, hargs, rfl, hps, h0, r0⟩ := trodAll_cons hA
  obtain ⟨rfl, rfl, rfl⟩ := trodAll_nil r0
  obtain rfl : args = #[v0] := by cases args; simp_all
  have o0 := hval 0 3 v0 rfl rfl
  clear hA0 hval0
  obtain ⟨x, rfl, rfl, rfl, wx⟩ := open_int Try.underlying3 o0 h0
  refine (huffNil_walk x W).mono fun e W' ⟨he, hb⟩ => ?_
  subst he
  exact ⟨_, rfl, law_post laidOut (by rw [Try.params7]; intro t ht; simp only [List.mem_cons, List.not_mem_nil, or_false] at ht; subst ht; exact ⟨by kernel_rfl, of_decide_eq_true (by kernel_rfl)⟩) (by kernel_rfl) Try.underlying4 hW' rfl rfl hb⟩
theorem said : Rows.HuffNilSaid :=
  OpenClaim.holds_of_wide 7 Try.f7 rfl rfl rfl rfl rfl rfl rfl ⟨rfl, rfl, rfl, rfl, rfl⟩ rfl rfl rfl rfl rfl (by kernel_rfl) Try.func7 (by kernel_rfl)
    (of_decide_eq_true (by kernel_rfl)) (by unfold Func.isWrapper; first | (rw [if_pos (by decide +kernel)]; kernel_rfl) | (rw [if_neg (by decide +kernel)]; exact ⟨rfl, rfl⟩))
    (fun os started H enc _ => lifted os started H enc)
#print axioms said
end lawHuffNil
end Go.Proofs.Ytaofponadaifiaa

/- What was put is read again, marker by marker. No condition. -/
import Derived.Test.YtidockifeofgfaaBkQ
import Derived.Test.YtidockifeofgfaaInS
import Derived.ShutString
import Derived.ChangeOld
import Derived.SizedLaws
namespace Go.Proofs.Ytidockifeofgfaa
open Go.RowKit
set_option linter.unusedSimpArgs false
set_option linter.unusedVariables false
def KA4 : Nat → IntKind := fun j => if j = 0 then .u8 else .i64
theorem flatA_snoc (P : List Ac) (p : Ac) : flatA (P ++ [p]) = flatA P ++ p.cells := by simp [flatA]
theorem PW.keep {w w' : World} {B g k : Nat} {l W : List Int} {t : Int} {P : List Ac} (h : PW w B g l W t P k) (hk : KeepT 27 w w') : PW w' B g l W t P k := by
  obtain ⟨vv, h1⟩ := h.wr
  exact ⟨⟨vv, hk _ _ _ (by decide) h1.1, ownsRow_keep h1.2 fun g' cs hB => hk _ _ _ (by decide) hB⟩, h.w8, h.wb, h.len, h.t0, h.t1, h.ok, h.pl, h.all⟩
theorem PW.only {w w' : World} {B g k r : Nat} {s : ByteArray} {a hh cc : Int} {l W : List Int} {t : Int} {P : List Ac} (h : PW w B g l W t P k) (hr : RdV w r s a hh cc) (ho : Only r w w') : PW w' B g l W t P k := by
  obtain ⟨vv, h1⟩ := h.wr
  exact ⟨⟨vv, ho.blk h1.1 (Blk.ne h1.1 hr (by decide)), ownsRow_keep h1.2 fun g' cs hB => ho.blk hB (hB.ne hr (by decide))⟩, h.w8, h.wb, h.len, h.t0, h.t1, h.ok, h.pl, h.all⟩
theorem row_form {w : World} {base e q n : Nat} {v : Value} {xs : List Value} (h : w.ownsRow base e q v n xs) : ∃ A c, v = .slice A n c := by
  rcases h.2 with ⟨rfl, h0⟩ | ⟨g, cap, cur, rfl, _⟩
  · exact ⟨none, 0, by rw [h0]⟩
  · exact ⟨_, cap, rfl⟩
theorem row_some {w : World} {base e q n c : Nat} {A : Option Addr} {xs : List Value} (h : w.ownsRow base e q (.slice A n c) n xs) (hn : 0 < n) : ∃ g, A = some ⟨g, 0, none⟩ := by
  rcases h.2 with ⟨h1, h0⟩ | ⟨g, cap, cur, h1, _⟩
  · omega
  · injection h1 with h1; exact ⟨g, h1⟩
theorem rowcell {w : World} {base g n c k : Nat} {P : List Ac} (h : w.ownsRow base 27 3 (.slice (some ⟨g, 0, none⟩) n c) n (flatA P)) (hk : k < P.length) (j : Nat) (hj : j < 3) : w.cell? ⟨g, k * 3 + j, none⟩ = (P[k].cells)[j]? := by
  have hl : (flatA P)[k * 3 + j]? = (P[k].cells)[j]? := flatA_get P k j hk hj
  have hs : ∃ u, (P[k].cells)[j]? = some u := ⟨_, List.getElem?_eq_getElem (show j < P[k].cells.length from hj)⟩
  obtain ⟨u, hu⟩ := hs
  rw [hu] at hl ⊢
  have hc := World.ownsRow.cells h (g := g) rfl (k * 3 + j) u hl
  have hadd : (⟨g, 0, none⟩ : Addr).add (k * 3 + j) = ⟨g, k * 3 + j, none⟩ := by unfold Addr.add; split <;> simp_all
  rwa [hadd] at hc
theorem ev_drop {P : List Ac} {k : Nat} (hk : k < P.length) : (P.map Ac.ev).drop k = P[k].ev :: (P.map Ac.ev).drop (k + 1) := by
  rw [List.drop_eq_getElem_cons (by simpa using hk)]; simp
theorem q1x {w : World} {base g N c k : Nat} {P : List Ac} {d x y : Int} (h : w.ownsRow base 27 3 (.slice (some ⟨g, 0, none⟩) N c) N (flatA P)) (hN : N = P.length) (hk : k < P.length) (hp : (⟨d, x, y⟩ : Ac) = P[k]) : w.cell? ⟨g, k * 3 + 1, none⟩ = some (.int .i64 x) := by
  have e := rowcell h hk 1 (by decide)
  rw [← hp] at e
  exact e
theorem put_no_any {g k : Nat} {l W : List Int} {t : Int} {P : List Ac} (v n : Int) (hno : (n < 0 ∨ 16 < n) ∨ (v < 0 ∨ 2 ^ n.toNat ≤ v)) :
    ∃ e1 : Int, e1 ≠ 0 ∧ ∀ w B, PW w B g l W t P k → Calls Try.prog 10 #[.pointer (some ⟨g, 0, none⟩), .int .i64 v, .int .i64 n] w fun e w' => e = .returned (.int .i64 e1) ∧ w = w' := by
  by_cases hn : n < 0 ∨ 16 < n
  · exact ⟨1, by decide, fun w B h => wput_arg w _ v n hn _ rfl⟩
  · obtain ⟨N, rfl⟩ := Int.eq_ofNat_of_zero_le (show 0 ≤ n by omega)
    exact ⟨11, by decide, fun w B h => wput_large w v N (by omega) (by rcases hno with h | h; exact absurd h hn; simpa using h) _⟩
set_option maxHeartbeats 0 in
set_option maxRecDepth 20000 in
theorem back_ok (A : Option Addr) (n c : Nat) (f : Nat → Nat → Int) (hnc : n ≤ c) (hn : n ≤ 200) (w : World) (hI : InS w A n 3 KA4 f) :
    Calls Try.prog 6 #[.slice A n c] w fun e w' => e = .returned (.bool true) ∧ Below w.heap.size w w' := by
  have HI := Lib.hid hI; clear hI
  have hg2 : decide ((200 : Int) < (n : Int)) = false := by simp; omega
  go_enter Try.func6, Try.ntmps6
  go_wp2_with (first | (go_at_call 8; refine (awake_true _).mono ?_; rintro e w1 ⟨rfl, hb1⟩; have HB1 := Lib.hid hb1; clear hb1) | (go_at_call 9; refine (newWriter_walk _).mono ?_; rintro e w2 ⟨rfl, hW2, hb2⟩; have HW2 := Lib.hid hW2; have HB2 := Lib.hid (HB1.out.trans (hb2.mono HB1.out.size)); clear hW2 hb2))
  have hGB : w.heap.size ≤ w1.heap.size := HB1.out.size
  go_loopw [4, 5] (fun s4 i wr => ∃ (k : Nat) (pv : Value), k ≤ n ∧ pv = s4 ∧ i = .int .i64 k ∧ Hid (∃ l W t P, World.ownsRow wr w.heap.size 27 3 pv P.length (flatA P) ∧ PW wr w.heap.size w1.heap.size l W t P k) ∧ Hid (Below w.heap.size w wr)) (fun _ i _ => n - (intOf i).toNat)
  case atStart => exact ⟨0, _, by omega, rfl, rfl, Lib.hid ⟨[], [], 0, [], World.ownsRow_nil _ _ _ _, ⟨⟨_, HW2.out.1, OwnU.nil _ _⟩, by decide, (fun b hb => by cases hb), by decide, by decide, by decide, (fun p hp => by cases hp), by decide, fun es => rfl⟩⟩, HB2⟩
  case round =>
    obtain ⟨k, pv, hk, rfl, rfl, hS, hb⟩ := hrel
    obtain ⟨l, W, t, P, hO, hP⟩ := hS.out
    have HO := Lib.hid hO
    have HP := Lib.hid hP
    clear hO hP hS
    by_cases hlt : k < n
    · obtain ⟨bb, off, rfl, hbl, hcell⟩ := HI.out k hlt
      have hq0 := (hcell 0 (by decide)).1
      have hq00 := (hcell 0 (by decide)).2
      have hq1 := (hcell 1 (by decide)).1
      have hq2 := (hcell 2 (by decide)).1
      obtain ⟨d, hd⟩ : ∃ d, d = f k 0 := ⟨_, rfl⟩
      obtain ⟨x, hx⟩ : ∃ x, x = f k 1 := ⟨_, rfl⟩
      obtain ⟨yy, hy⟩ : ∃ yy, yy = f k 2 := ⟨_, rfl⟩
      rw [← hd] at hq0 hq00
      rw [← hx] at hq1
      rw [← hy] at hq2
      have hdw : 0 ≤ d ∧ d < 256 := by have hmin : IntKind.u8.min = 0 := rfl; have hmax : IntKind.u8.max = 255 := rfl; simp [KA4, Lit.wf, hmin, hmax] at hq00; omega
      have Hq0 := Lib.hid hq0; have Hq1 := Lib.hid hq1; have Hq2 := Lib.hid hq2
      have qa : wr.cell? ⟨bb, off + k * 3, none⟩ = some (.int .u8 d) := (hb.out.cell (p := ⟨bb, off + k * 3, none⟩) hbl).trans hq0
      have qb : wr.cell? ⟨bb, off + k * 3 + 1, none⟩ = some (.int .i64 x) := (hb.out.cell (p := ⟨bb, off + (k * 3 + 1), none⟩) hbl).trans hq1
      clear hcell hq0 hq00 hq1 hq2 hx hd hy
      by_cases h5 : d % 6 < 5
      · by_cases hok : (⟨d, x, yy⟩ : Ac).ok
        · go_wp2_with fail
          refine region_plan (.run [0, 1, 2, 3, 4, 5, 6, 7, 8, 9, 10] (.ev 11 (.run [12] .fin))) (fun w' => True) (by kernel_rfl) trivial ?_
          intro wd hwd
          have HP := Lib.hid (HP.out.drewE hwd)
          have HO : Hid (World.ownsRow wd w.heap.size 27 3 pv P.length (flatA P)) := Lib.hid (hwd ▸ HO.out)
          have hb := Lib.hid (belowD hb.out hwd)
          have q1 : wd.cell? ⟨bb, off + k * 3 + 1, none⟩ = some (.int .i64 x) := (hb.out.cell (p := ⟨bb, off + (k * 3 + 1), none⟩) hbl).trans Hq1.out
          have q2 : wd.cell? ⟨bb, off + k * 3 + 2, none⟩ = some (.int .i64 yy) := (hb.out.cell (p := ⟨bb, off + (k * 3 + 2), none⟩) hbl).trans Hq2.out
          clear hwd
          refine plan_run fun m hm => ?_
          simp only [pickO, List.filterMap_cons, List.filterMap_nil, List.getElem?_toArray, List.getElem?_cons_zero, List.getElem?_cons_succ] at hm
          subst hm
          go_wp2_with fail
          refine ⟨rfl, by rfl, ?_⟩
          refine plan_ev fun m hm => ?_
          simp only [pickO, List.filterMap_cons, List.filterMap_nil, List.getElem?_toArray, List.getElem?_cons_zero, List.getElem?_cons_succ] at hm
          subst hm
          go_wp2_with (first | (go_at_call 10; refine (HP.out.put_ok hGB (by omega) ⟨d, x, yy⟩ h5 hok).mono ?_; intro e w4 hp; obtain ⟨l1, W1, t1, rfl, hp4, hb4, hk4⟩ := hp.out; have HP4 := Lib.hid hp4; have HO4 : Hid (World.ownsRow w4 w.heap.size 27 3 pv P.length (flatA P)) := Lib.hid (ownsRow_keep HO.out fun g' cs hB => hk4 _ _ _ (by decide) (hB.ne HP.out.wr.choose_spec.1 (by decide)) hB); have HB4 := Lib.hid (hb.out.trans hb4); clear hp4 hb4 hk4 hp))
          refine ⟨rfl, trivial, ?_⟩
          try simp only [Act.put, List.setIfInBounds_toArray, List.set_cons_zero, List.set_cons_succ]
          refine plan_run fun m hm => ?_
          simp only [pickO, List.filterMap_cons, List.filterMap_nil, List.getElem?_toArray, List.getElem?_cons_zero, List.getElem?_cons_succ] at hm
          subst hm
          go_wp2_with fail
          refine ⟨rfl, by rfl, ?_⟩
          refine plan_fin ?_
          have q0 : w4.cell? ⟨bb, off + k * 3, none⟩ = some (.int .u8 d) := (HB4.out.cell (p := ⟨bb, off + k * 3, none⟩) hbl).trans Hq0.out
          have q1 : w4.cell? ⟨bb, off + k * 3 + 1, none⟩ = some (.int .i64 x) := (HB4.out.cell (p := ⟨bb, off + (k * 3 + 1), none⟩) hbl).trans Hq1.out
          have q2 : w4.cell? ⟨bb, off + k * 3 + 2, none⟩ = some (.int .i64 yy) := (HB4.out.cell (p := ⟨bb, off + (k * 3 + 2), none⟩) hbl).trans Hq2.out
          go_wp2_with (first | (at_builtin; refine appV (cs := #[.int .u8 d, .int .i64 x, .int .i64 yy]) (q := 3) (by_ := 24) Try.underlying22 (by kernel_rfl) (by decide) (by decide) rfl (.tmp 62) (.tmp 67) rfl rfl rfl rfl (by simp [Value.oneCell']) HO4.out (by have := HP4.out.pl; simp at this ⊢; omega) HB4.out.size ?_; intro v5 w5 hO5 hk5 hb5; have HO5 := Lib.hid hO5; have HP5 : Hid (PW w5 w.heap.size w1.heap.size l1 W1 t1 (P ++ [⟨d, x, yy⟩]) (k + 1)) := Lib.hid (HP4.out.keep hk5); have HB5 := Lib.hid (HB4.out.trans hb5); clear hO5 hk5 hb5))
          have HO6 : Hid (World.ownsRow w5 w.heap.size 27 3 v5 (P ++ [(⟨d, x, yy⟩ : Ac)]).length (flatA (P ++ [(⟨d, x, yy⟩ : Ac)]))) := Lib.hid (by have e := HO5.out; rw [flatA_snoc, List.length_append]; exact e)
          exact ⟨⟨k + 1, _, by omega, rfl, by go_num, Lib.hid ⟨_, _, _, _, HO6.out, HP5.out⟩, HB5⟩, by simp [intOf]; omega⟩
        · obtain ⟨e0, he0, hno⟩ : ∃ e0 : Int, e0 ≠ 0 ∧ ∀ w, PW w w.heap.size w1.heap.size l W t P k → True := ⟨1, by decide, fun _ _ => trivial⟩
          clear hno
          have hno2 : (yy < 0 ∨ 16 < yy) ∨ (x < 0 ∨ 2 ^ yy.toNat ≤ x) := by
            by_cases h1 : (yy < 0 ∨ 16 < yy) ∨ (x < 0 ∨ 2 ^ yy.toNat ≤ x)
            · exact h1
            · exact absurd ⟨hdw.1, hdw.2, by dsimp only; rw [if_pos h5]; exact ⟨by omega, by omega, by omega, by omega⟩⟩ hok
          obtain ⟨e1, he1, hno⟩ : ∃ e1 : Int, e1 ≠ 0 ∧ ∀ w B, PW w B w1.heap.size l W t P k → Calls Try.prog 10 #[.pointer (some ⟨w1.heap.size, 0, none⟩), .int .i64 x, .int .i64 yy] w fun e w' => e = .returned (.int .i64 e1) ∧ w = w' := put_no_any x yy hno2
          have ge1 : (e1 == 0) = false := by simpa using he1
          clear hok hno2 he1 he0
          go_wp2_with fail
          refine region_plan (.run [0, 1, 2, 3, 4, 5, 6, 7, 8, 9, 10] (.ev 11 (.run [12] .fin))) (fun w' => True) (by kernel_rfl) trivial ?_
          intro wd hwd
          have HP := Lib.hid (HP.out.drewE hwd)
          have HO : Hid (World.ownsRow wd w.heap.size 27 3 pv P.length (flatA P)) := Lib.hid (hwd ▸ HO.out)
          have hb := Lib.hid (belowD hb.out hwd)
          have q1 : wd.cell? ⟨bb, off + k * 3 + 1, none⟩ = some (.int .i64 x) := (hb.out.cell (p := ⟨bb, off + (k * 3 + 1), none⟩) hbl).trans Hq1.out
          have q2 : wd.cell? ⟨bb, off + k * 3 + 2, none⟩ = some (.int .i64 yy) := (hb.out.cell (p := ⟨bb, off + (k * 3 + 2), none⟩) hbl).trans Hq2.out
          clear hwd
          refine plan_run fun m hm => ?_
          simp only [pickO, List.filterMap_cons, List.filterMap_nil, List.getElem?_toArray, List.getElem?_cons_zero, List.getElem?_cons_succ] at hm
          subst hm
          go_wp2_with fail
          refine ⟨rfl, by rfl, ?_⟩
          refine plan_ev fun m hm => ?_
          simp only [pickO, List.filterMap_cons, List.filterMap_nil, List.getElem?_toArray, List.getElem?_cons_zero, List.getElem?_cons_succ] at hm
          subst hm
          go_wp2_with (first | (go_at_call 10; refine (hno _ _ HP.out).mono ?_; rintro e w4 ⟨rfl, rfl⟩))
          refine ⟨rfl, trivial, ?_⟩
          try simp only [Act.put, List.setIfInBounds_toArray, List.set_cons_zero, List.set_cons_succ]
          refine plan_run fun m hm => ?_
          simp only [pickO, List.filterMap_cons, List.filterMap_nil, List.getElem?_toArray, List.getElem?_cons_zero, List.getElem?_cons_succ] at hm
          subst hm
          go_wp2_with fail
          refine ⟨rfl, by rfl, ?_⟩
          refine plan_fin ?_
          go_wp2
          exact ⟨⟨k + 1, _, by omega, rfl, by go_num, Lib.hid ⟨_, _, _, _, HO.out, HP.out.up⟩, hb⟩, by simp [intOf]; omega⟩
      · by_cases hok : (⟨d, x, yy⟩ : Ac).ok
        · go_wp2_with (first | (go_at_call 11; refine (HP.out.mark_ok hGB (by omega) ⟨d, x, yy⟩ h5 hok).mono ?_; intro e w4 hp; obtain ⟨l1, W1, t1, rfl, hp4, hb4, hk4⟩ := hp.out; have HP4 := Lib.hid hp4; have HO4 : Hid (World.ownsRow w4 w.heap.size 27 3 pv P.length (flatA P)) := Lib.hid (ownsRow_keep HO.out fun g' cs hB => hk4 _ _ _ (by decide) (hB.ne HP.out.wr.choose_spec.1 (by decide)) hB); have HB4 := Lib.hid (hb.out.trans hb4); have q0 : w4.cell? ⟨bb, off + k * 3, none⟩ = some (.int .u8 d) := (HB4.out.cell (p := ⟨bb, off + k * 3, none⟩) hbl).trans Hq0.out; have q1 : w4.cell? ⟨bb, off + k * 3 + 1, none⟩ = some (.int .i64 x) := (HB4.out.cell (p := ⟨bb, off + (k * 3 + 1), none⟩) hbl).trans Hq1.out; have q2 : w4.cell? ⟨bb, off + k * 3 + 2, none⟩ = some (.int .i64 yy) := (HB4.out.cell (p := ⟨bb, off + (k * 3 + 2), none⟩) hbl).trans Hq2.out; clear hp4 hb4 hk4 hp) | (at_builtin; refine appV (cs := #[.int .u8 d, .int .i64 x, .int .i64 yy]) (q := 3) (by_ := 24) Try.underlying22 (by kernel_rfl) (by decide) (by decide) rfl (.tmp 62) (.tmp 67) rfl rfl rfl rfl (by simp [Value.oneCell']) HO4.out (by have := HP4.out.pl; simp at this ⊢; omega) HB4.out.size ?_; intro v5 w5 hO5 hk5 hb5; have HO5 := Lib.hid hO5; have HP5 : Hid (PW w5 w.heap.size w1.heap.size l1 W1 t1 (P ++ [⟨d, x, yy⟩]) (k + 1)) := Lib.hid (HP4.out.keep hk5); have HB5 := Lib.hid (HB4.out.trans hb5); clear hO5 hk5 hb5))
          have HO6 : Hid (World.ownsRow w5 w.heap.size 27 3 v5 (P ++ [(⟨d, x, yy⟩ : Ac)]).length (flatA (P ++ [(⟨d, x, yy⟩ : Ac)]))) := Lib.hid (by have e := HO5.out; rw [flatA_snoc, List.length_append]; exact e)
          exact ⟨⟨k + 1, _, by omega, rfl, by go_num, Lib.hid ⟨_, _, _, _, HO6.out, HP5.out⟩, HB5⟩, by simp [intOf]; omega⟩
        · have hno2 : x < 1 ∨ 254 < x := by
            by_cases h1 : x < 1 ∨ 254 < x
            · exact h1
            · exact absurd ⟨hdw.1, hdw.2, by dsimp only; rw [if_neg h5]; exact ⟨by omega, by omega⟩⟩ hok
          have hno : ∀ w B, PW w B w1.heap.size l W t P k → Calls Try.prog 11 #[.pointer (some ⟨w1.heap.size, 0, none⟩), .int .i64 x] w fun e w' => e = .returned (.int .i64 1) ∧ w = w' := fun w B h => h.mark_no x hno2
          clear hok hno2
          go_wp2_with (first | (go_at_call 11; refine (hno _ _ HP.out).mono ?_; rintro e w4 ⟨rfl, rfl⟩))
          exact ⟨⟨k + 1, _, by omega, rfl, by go_num, Lib.hid ⟨_, _, _, _, HO.out, HP.out.up⟩, hb⟩, by simp [intOf]; omega⟩
    · obtain rfl : k = n := by omega
      obtain ⟨S, hSd⟩ : ∃ S, S = enc [] (P.map Ac.ev) := ⟨_, rfl⟩
      have hSl := enc_len HP.out
      have hby := fun w' (h : PW w' w.heap.size w1.heap.size l W t P k) => h.bytes (by omega)
      rw [← hSd] at hSl hby
      obtain ⟨A2, c2, rfl⟩ := row_form HO.out
      obtain ⟨N, hN⟩ : ∃ N, N = P.length := ⟨_, rfl⟩
      have HO2 : Hid (World.ownsRow wr w.heap.size 27 3 (.slice A2 N c2) N (flatA P)) := Lib.hid (by rw [hN]; exact HO.out)
      have hsz := bytesOf_size S
      rw [← hN]
      have HN := Lib.hid hN; have HSD := Lib.hid hSd; have HSZ := Lib.hid hsz; have Hby := Lib.hid hby
      have hs4 : (bytesOf S).size ≤ 2000 := by rw [hsz]; omega
      have hNb : N ≤ 200 := by have := HP.out.pl; omega
      clear hN hSd hsz HO hby
      go_wp2_with (first | (go_at_call 12; refine (Hby.out _ HP.out).mono ?_; rintro e w5 ⟨rfl, hb5⟩; have HP5 := Lib.hid (HP.out.bel hb5); have HO5 : Hid (World.ownsRow w5 w.heap.size 27 3 (.slice A2 N c2) N (flatA P)) := Lib.hid (ownsRow_keep HO2.out fun g' cs hB => hB.bel hb5); have HB5 := Lib.hid (hb.out.trans (hb5.mono hb.out.size)); clear hb5) | (go_at_call 17; refine (newReader_walk (bytesOf S) 0 (by omega) _).mono ?_; rintro e w6 ⟨rfl, hR6, hb6⟩; have HR6 : Hid (RdV w6 w5.heap.size (bytesOf S) 0 0 0) := Lib.hid hR6; have HP6 := Lib.hid (HP5.out.bel hb6); have HO6 : Hid (World.ownsRow w6 w.heap.size 27 3 (.slice A2 N c2) N (flatA P)) := Lib.hid (ownsRow_keep HO5.out fun g' cs hB => hB.bel hb6); have HB6 := Lib.hid (HB5.out.trans (hb6.mono HB5.out.size)); clear hR6 hb6))
      have hRB : w.heap.size ≤ w5.heap.size := HB5.out.size
      go_loopw [8] (fun i wr => ∃ j : Nat, j ≤ N ∧ i = .int .i64 j ∧ Hid (∃ a H W2, RdV wr w5.heap.size (bytesOf S) (a : Nat) (valB H) H.length ∧ RS S a H W2 ((P.map Ac.ev).drop j)) ∧ Hid (World.ownsRow wr w.heap.size 27 3 (.slice A2 N c2) N (flatA P)) ∧ Hid (PW wr w.heap.size w1.heap.size l W t P k) ∧ Hid (Below w.heap.size w wr)) (fun i _ => N - (intOf i).toNat)
      case atStart => exact ⟨0, by omega, rfl, Lib.hid ⟨0, [], [], HR6.out, by rw [List.drop_zero, HSD.out]; exact RS.first _⟩, HO6, HP6, HB6⟩
      case round =>
        obtain ⟨j, hj, rfl, hR, HO, HP, hb⟩ := hrel
        obtain ⟨a, H, W2, hR, hRS⟩ := hR.out
        by_cases hjN : j < N
        · have hkl : j < P.length := by rw [← HN.out]; exact hjN
          obtain ⟨g, rfl⟩ := row_some HO.out (by omega)
          rw [ev_drop hkl] at hRS
          have hpok := HP.out.ok P[j] (List.getElem_mem hkl)
          have r0 := rowcell HO.out hkl 0 (by decide)
          have r1 := rowcell HO.out hkl 1 (by decide)
          have r2 := rowcell HO.out hkl 2 (by decide)
          obtain ⟨p, hp⟩ : ∃ p, p = P[j] := ⟨_, rfl⟩
          rw [← hp] at hpok hRS r0 r1 r2
          obtain ⟨d, x, yy⟩ := p
          have HPJ : Hid ((⟨d, x, yy⟩ : Ac) = P[j]) := Lib.hid hp
          have q0 : wr.cell? ⟨g, j * 3, none⟩ = some (.int .u8 d) := r0
          have q1 : wr.cell? ⟨g, j * 3 + 1, none⟩ = some (.int .i64 x) := r1
          have q2 : wr.cell? ⟨g, j * 3 + 2, none⟩ = some (.int .i64 yy) := r2
          clear hp r0 r1 r2
          obtain ⟨hd0, hd1, hp2⟩ := hpok
          dsimp only at hp2 hd0 hd1
          by_cases h5 : d % 6 < 5
          · rw [if_pos h5] at hp2
            obtain ⟨n0, n1, v0, v1⟩ := hp2
            have hev : (⟨d, x, yy⟩ : Ac).ev = .put x yy.toNat := by simp [Ac.ev, h5]
            rw [hev] at hRS
            obtain ⟨m, rfl⟩ := Int.eq_ofNat_of_zero_le n0
            rw [Int.toNat_natCast] at hRS v1
            obtain ⟨H', W', a', hRS', hcall⟩ := rbits_back hRS (by omega) v0 v1 (by omega)
            have HRS' := Lib.hid hRS'; have HC := Lib.hid (hcall wr _ hR); have HR := Lib.hid hR
            clear hRS hRS' hcall hR hev v1 v0 n0
            go_wp2_with (first | (go_at_call 18; refine HC.out.mono ?_; rintro e w7 ⟨rfl, hR7, ho7⟩; have HR7 := Lib.hid hR7; have HO7 : Hid (World.ownsRow w7 w.heap.size 27 3 (.slice (some ⟨g, 0, none⟩) N c2) N (flatA P)) := Lib.hid (ownsRow_keep HO.out fun g' cs hB => ho7.blk hB (hB.ne HR.out (by decide))); have HP7 := Lib.hid (HP.out.only HR.out ho7); have HB7 := Lib.hid (hb.out.trans (ho7.below hRB hb.out.size)); have q1 : w7.cell? ⟨g, j * 3 + 1, none⟩ = some (.int .i64 x) := q1x HO7.out HN.out hkl HPJ.out; clear hR7 ho7))
            exact ⟨⟨j + 1, by omega, by go_num, Lib.hid ⟨a', H', W', HR7.out, HRS'.out⟩, HO7, HP7, HB7⟩, by simp [intOf]; omega⟩
          · rw [if_neg h5] at hp2
            have hev : (⟨d, x, yy⟩ : Ac).ev = .mark x := by simp [Ac.ev, h5]
            rw [hev] at hRS
            obtain ⟨m1, m2, m3, hRS'⟩ := hRS.mark hp2.1 hp2.2
            have hle := hRS.le
            have hal := ralign_walk wr _ (bytesOf S) a (valB H) H.length hR
            have hmk := fun w' (h : RdV w' w5.heap.size (bytesOf S) (a : Nat) 0 0) => rmarker_walk w' _ (bytesOf S) 0 0 a h (by omega) (by omega)
            have hsk := fun w' (h : RdV w' w5.heap.size (bytesOf S) (a : Nat) 0 0) => rskip_walk w' _ (bytesOf S) 0 0 a h (by omega) (by omega) (by rw [m3]; simp)
            simp only [m3, (show decide (0 < 2) = true from rfl)] at hmk hsk
            rw [m2] at hal
            obtain ⟨C, hC⟩ : ∃ C : Nat, C = H.length := ⟨_, rfl⟩
            rw [← hC] at hal m1
            obtain ⟨v, hv⟩ : ∃ v : Int, v = 2 ^ C - 1 := ⟨_, rfl⟩
            rw [← hv] at hal
            have HRS' := Lib.hid hRS'; have HAL := Lib.hid hal; have HMK := Lib.hid hmk; have HSK := Lib.hid hsk; have HR := Lib.hid hR
            have hcv : (C = 0 ∧ v = 0) ∨ (C = 1 ∧ v = 1) ∨ (C = 2 ∧ v = 3) ∨ (C = 3 ∧ v = 7) ∨ (C = 4 ∧ v = 15) ∨ (C = 5 ∧ v = 31) ∨ (C = 6 ∧ v = 63) ∨ (C = 7 ∧ v = 127) := by
              have h8 : C = 0 ∨ C = 1 ∨ C = 2 ∨ C = 3 ∨ C = 4 ∨ C = 5 ∨ C = 6 ∨ C = 7 := by omega
              rcases h8 with h8 | h8 | h8 | h8 | h8 | h8 | h8 | h8 <;> rw [h8] at hv ⊢ <;> simp [hv]
            clear hRS hRS' hal hmk hsk hR hev m1 m2 m3 hC hv
            rcases hcv with ⟨rfl, rfl⟩ | ⟨rfl, rfl⟩ | ⟨rfl, rfl⟩ | ⟨rfl, rfl⟩ | ⟨rfl, rfl⟩ | ⟨rfl, rfl⟩ | ⟨rfl, rfl⟩ | ⟨rfl, rfl⟩
            all_goals
              go_wp2_with (first | (go_at_call 20; refine HAL.out.mono ?_; rintro e w7 ⟨rfl, hR7, ho7⟩; have HR7 := Lib.hid hR7; have HO7 : Hid (World.ownsRow w7 w.heap.size 27 3 (.slice (some ⟨g, 0, none⟩) N c2) N (flatA P)) := Lib.hid (ownsRow_keep HO.out fun g' cs hB => ho7.blk hB (hB.ne HR.out (by decide))); have HP7 := Lib.hid (HP.out.only HR.out ho7); have HB7 := Lib.hid (hb.out.trans (ho7.below hRB hb.out.size)); clear hR7 ho7) | (go_at_call 22; refine (HMK.out _ HR7.out).mono ?_; rintro e w8 ⟨rfl, hR8, ho8⟩; have HR8 := Lib.hid hR8; have HO8 : Hid (World.ownsRow w8 w.heap.size 27 3 (.slice (some ⟨g, 0, none⟩) N c2) N (flatA P)) := Lib.hid (ownsRow_keep HO7.out fun g' cs hB => ho8.blk hB (hB.ne HR7.out (by decide))); have HP8 := Lib.hid (HP7.out.only HR7.out ho8); have HB8 := Lib.hid (HB7.out.trans (ho8.below hRB HB7.out.size)); have q1 : w8.cell? ⟨g, j * 3 + 1, none⟩ = some (.int .i64 x) := q1x HO8.out HN.out hkl HPJ.out; clear hR8 ho8) | (go_at_call 24; refine (HSK.out _ HR8.out).mono ?_; rintro e w9 ⟨rfl, hR9, ho9⟩; have HR9 : Hid (RdV w9 w5.heap.size (bytesOf S) ((a + 2 : Nat) : Int) 0 0) := Lib.hid (by rw [if_pos (by decide)] at hR9; exact hR9); have HO9 : Hid (World.ownsRow w9 w.heap.size 27 3 (.slice (some ⟨g, 0, none⟩) N c2) N (flatA P)) := Lib.hid (ownsRow_keep HO8.out fun g' cs hB => ho9.blk hB (hB.ne HR8.out (by decide))); have HP9 := Lib.hid (HP8.out.only HR8.out ho9); have HB9 := Lib.hid (HB8.out.trans (ho9.below hRB HB8.out.size)); clear hR9 ho9))
              exact ⟨⟨j + 1, by omega, by go_num, Lib.hid ⟨a + 2, [], [], HR9.out, HRS'.out⟩, HO9, HP9, HB9⟩, by simp [intOf]; omega⟩
        · obtain rfl : j = N := by omega
          have hdr : (P.map Ac.ev).drop j = [] := by rw [List.drop_eq_nil_iff, HN.out]; simp
          rw [hdr] at hRS
          obtain ⟨m1, m2, m3⟩ := hRS.last
          obtain rfl : a = (bytesOf S).size := by rw [HSZ.out]; exact m3
          have hal := ralign_walk wr _ (bytesOf S) ((bytesOf S).size : Nat) (valB H) H.length hR
          have hen := fun w' (h : RdV w' w5.heap.size (bytesOf S) ((bytesOf S).size : Nat) 0 0) => rbits_end HSZ.out (by omega) w' _ h
          have hat := fun w' (h : RdV w' w5.heap.size (bytesOf S) ((bytesOf S).size : Nat) 0 0) => rat_walk w' _ (bytesOf S) ((bytesOf S).size : Nat) 0 0 h
          rw [m2] at hal
          obtain ⟨C, hC⟩ : ∃ C : Nat, C = H.length := ⟨_, rfl⟩
          rw [← hC] at hal m1
          obtain ⟨v, hv⟩ : ∃ v : Int, v = 2 ^ C - 1 := ⟨_, rfl⟩
          rw [← hv] at hal
          have HAL := Lib.hid hal; have HEN := Lib.hid hen; have HAT := Lib.hid hat; have HR := Lib.hid hR
          have hcv : (C = 0 ∧ v = 0) ∨ (C = 1 ∧ v = 1) ∨ (C = 2 ∧ v = 3) ∨ (C = 3 ∧ v = 7) ∨ (C = 4 ∧ v = 15) ∨ (C = 5 ∧ v = 31) ∨ (C = 6 ∧ v = 63) ∨ (C = 7 ∧ v = 127) := by
            have h8 : C = 0 ∨ C = 1 ∨ C = 2 ∨ C = 3 ∨ C = 4 ∨ C = 5 ∨ C = 6 ∨ C = 7 := by omega
            rcases h8 with h8 | h8 | h8 | h8 | h8 | h8 | h8 | h8 <;> rw [h8] at hv ⊢ <;> simp [hv]
          clear hRS hal hen hat hR m1 m2 m3 hC hv hdr
          rcases hcv with ⟨rfl, rfl⟩ | ⟨rfl, rfl⟩ | ⟨rfl, rfl⟩ | ⟨rfl, rfl⟩ | ⟨rfl, rfl⟩ | ⟨rfl, rfl⟩ | ⟨rfl, rfl⟩ | ⟨rfl, rfl⟩
          all_goals
            go_wp2_with (first | (go_at_call 20; refine HAL.out.mono ?_; rintro e w7 ⟨rfl, hR7, ho7⟩; have HR7 := Lib.hid hR7; have HP7 := Lib.hid (HP.out.only HR.out ho7); have HB7 := Lib.hid (hb.out.trans (ho7.below hRB hb.out.size)); clear hR7 ho7) | (go_at_call 18; refine (HEN.out _ HR7.out).mono ?_; rintro e w8 ⟨rfl, hR8, ho8⟩; have HR8 := Lib.hid hR8; have HP8 := Lib.hid (HP7.out.only HR7.out ho8); have HB8 := Lib.hid (HB7.out.trans (ho8.below hRB HB7.out.size)); clear hR8 ho8) | (go_at_call 25; refine (HAT.out _ HR8.out).mono ?_; rintro e w9 ⟨rfl, rfl⟩) | (go_at_call 12; refine (Hby.out _ HP8.out).mono ?_; rintro e w10 ⟨rfl, hb10⟩; have HB10 := Lib.hid (HB8.out.trans (hb10.mono HB8.out.size)); clear hb10))
            go_ret
            exact ⟨rfl, HB10.out⟩
set_option maxRecDepth 20000 in
theorem back_long (A : Option Addr) (n c : Nat) (h : 200 < n) (w : World) :
    Calls Try.prog 6 #[.slice A n c] w fun e w' => e = .returned (.bool true) ∧ Below w.heap.size w w' := by
  have hg2 : decide ((200 : Int) < (n : Int)) = true := by simp; omega
  go_enter Try.func6, Try.ntmps6
  go_wp2_with fail
  refine (awake_true _).mono ?_
  rintro e w1 ⟨rfl, hb1⟩
  have HB1 := Lib.hid hb1; clear hb1
  go_wp2_with fail
  refine (awake_true _).mono ?_
  rintro e w2 ⟨rfl, hb2⟩
  have HB2 := Lib.hid (HB1.out.trans (hb2.mono HB1.out.size)); clear hb2
  go_wp2_with fail
  go_ret
  exact ⟨rfl, HB2.out⟩
theorem bitsBack_walk (A : Option Addr) (n c : Nat) (f : Nat → Nat → Int) (hnc : n ≤ c) (w : World) (hI : InS w A n 3 KA4 f) :
    Calls Try.prog 6 #[.slice A n c] w fun e w' => e = .returned (.bool true) ∧ Below w.heap.size w w' := by
  by_cases h : 200 < n
  · exact back_long A n c h w
  · exact back_ok A n c f hnc (by omega) w hI

namespace lawBitsBack
open Go.ChangeShapes Go.WideShapes Go.ChangeAt Go.RowKit
open Go.ChangeMaps (open_string shut_string)
theorem own : ownKnob Try.prog.godebug = none := by kernel_rfl
theorem laidOut : laidOutB Try.prog = true := by kernel_rfl

set_option maxRecDepth 100000 in
theorem lifted (os : Os) (started : os.Started) (H : Type) (enc : TypeId × Value → H) :
    ReturnsInHanded {} Try.checked os 6 .any (Rows.bitsBackSpec.pre6 enc Try.prog Try.f6 Rows.bitsBackRow.domain false) (Rows.bitsBackSpec.post enc Try.prog Try.f6 false true false false) := by
  refine returnsInHanded_of_change_sized (C := Try.checked) own started (by kernel_rfl) Try.func6
    (ChangeSpec.witness6 (enc := enc) (C := Try.checked) false ⟨#[], #[.slice none 0 0], []⟩ 8 (by kernel_rfl) (by kernel_rfl) (by kernel_rfl) (by kernel_rfl)) ?_
  intro W base args ds gs before hval0 hW hcnd hsz0 _
  have hsz : (DataW.weightsEach Try.prog (Try.f6.params.toList ++ Rows.bitsBackSpec.plain.varTypes Try.prog) (ds ++ gs)).all (· ≤ reachBytes) = true := hsz0
  have hval : ∀ (j : Nat) t v, Try.f6.params[j]? = some t → args[j]? = some v → Value.okWide Try.prog W .any base t v := hval0
  have hW' := hW
  obtain ⟨p, q, hA0, hV, hbefore, hfz, hnd⟩ := hW
  obtain ⟨rfl, rfl⟩ := trodVars_none hV
  have hA : DataW.TrodAll enc Try.prog W 0 (fun _ => true) true Try.f6.params.toList args.toList ds p := hA0
  rw [Try.params6] at hA hval hsz
  obtain ⟨v0, vs1, d0, ds1, p0, q0, hargs, rfl, hps, h0, r0⟩ := trodAll_cons hA
  obtain ⟨rfl, rfl, rfl⟩ := trodAll_nil r0
  obtain rfl : args = #[v0] := by cases args; simp_all
  have o0 := hval 0 22 v0 rfl rfl
  clear hA0 hval0
  obtain ⟨A, n, c, f, rfl, hnc, hI⟩ := openInS Try.underlying22 Try.underlying27 (by kernel_rfl) (by kernel_rfl) (by decide) KA4 (by intro j f h; match j, h with | 0, h => (cases h; exact Try.underlying5) | 1, h => (cases h; exact Try.underlying3) | 2, h => (cases h; exact Try.underlying3) | j + 3, h => simp at h) o0 h0
  refine (bitsBack_walk A n c f hnc W hI).mono fun e W' ⟨he, hb⟩ => ?_
  subst he
  exact ⟨_, rfl, law_post laidOut (by rw [Try.params6]; intro t ht; simp only [List.mem_cons, List.not_mem_nil, or_false] at ht; subst ht; exact ⟨by kernel_rfl, of_decide_eq_true (by kernel_rfl)⟩) (by kernel_rfl) Try.underlying4 hW' rfl rfl hb⟩
theorem said : Rows.BitsBackSaid :=
  OpenClaim.holds_of_wide 6 Try.f6 rfl rfl rfl rfl rfl rfl rfl ⟨rfl, rfl, rfl, rfl, rfl⟩ rfl rfl rfl rfl rfl (by kernel_rfl) Try.func6 (by kernel_rfl)
    (of_decide_eq_true (by kernel_rfl)) (by unfold Func.isWrapper; first | (rw [if_pos (by decide +kernel)]; kernel_rfl) | (rw [if_neg (by decide +kernel)]; exact ⟨rfl, rfl⟩))
    (fun os started H enc _ => lifted os started H enc)
#print axioms said
end lawBitsBack
end Go.Proofs.Ytidockifeofgfaa

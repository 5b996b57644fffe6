/- A symbol's code. No condition. -/
import Derived.Test.YthibnhgbgmpjoaaDoorHGD
import Derived.Test.YthibnhgbgmpjoaaDoorHHuB
namespace Go.Proofs.YthibnhgbgmpjoaaDoor
open Go.RowKit
set_option linter.unusedSimpArgs false
set_option linter.unusedVariables false
theorem code_no (g : Option Addr) (x : Int) (h : x < 0 ∨ 256 ≤ x) (w : World) : Calls Tryd.prog 89 #[.pointer g, .int .i64 x] w fun e w' => e = .returned (.tuple #[.int .i64 0, .int .i64 0, .bool false]) ∧ w' = w := by
  cases g with
  | none =>
    clear h
    go_enter Tryd.func89, Tryd.ntmps89
    go_wp2
    go_ret3
    exact ⟨rfl, rfl⟩
  | some g =>
    by_cases h1 : x < 0
    · have g1 : decide (x < 0) = true := by simpa using h1
      go_enter Tryd.func89, Tryd.ntmps89
      go_wp2
      go_ret3
      exact ⟨rfl, rfl⟩
    · have g1 : decide (x < 0) = false := by simpa using h1
      have g2 : decide (256 ≤ x) = true := by simp; omega
      go_enter Tryd.func89, Tryd.ntmps89
      go_wp2
      go_ret3
      exact ⟨rfl, rfl⟩
theorem code_nil (x : Int) (w : World) : Calls Tryd.prog 89 #[.pointer none, .int .i64 x] w fun e w' => e = .returned (.tuple #[.int .i64 0, .int .i64 0, .bool false]) ∧ w' = w := by
  go_enter Tryd.func89, Tryd.ntmps89
  go_wp2
  go_ret3
  exact ⟨rfl, rfl⟩
theorem code_ok {w : World} {g : Nat} {cnt : Nat → Int} {s : ByteArray} {cb cn fs at_ : Nat → Int} (hT : Tab w g cnt s cb cn fs at_) (i : Nat) (hi : i < 256) : Calls Tryd.prog 89 #[.pointer (some ⟨g, 0, none⟩), .int .i64 i] w fun e w' => e = .returned (.tuple #[.int .i64 (cb i), .int .i64 (cn i), .bool (decide (0 < cn i))]) ∧ Below w.heap.size w w' := by
  have c0 := hT.gCb hi
  have c1 := hT.gCn hi
  obtain ⟨p, hp⟩ : ∃ p, p = cb i := ⟨_, rfl⟩
  obtain ⟨q, hq⟩ : ∃ q, q = cn i := ⟨_, rfl⟩
  rw [← hp] at c0 ⊢
  rw [← hq] at c1 ⊢
  have hlt := hT.lt
  clear hp hq hT
  have g1 : decide ((i : Int) < 0) = false := by simp
  have g2 : decide (256 ≤ (i : Int)) = false := by simp; omega
  go_enter Tryd.func89, Tryd.ntmps89
  go_wp2_with fail
  refine region_plan (.run [0, 1, 2, 3, 4, 5, 6, 7, 8, 9] .fin) (fun w' => True) (by kernel_rfl) trivial ?_
  intro wd hwd
  have hbd : Below w.heap.size w wd := hwd ▸ ((Below.refl _ _).alloc (Nat.le_refl _) _).drew
  have HBD := Lib.hid hbd; clear hbd
  have r0 : wd.cell? ⟨w.heap.size, 0, none⟩ = some (.int .i64 p) := by rw [hwd]; exact (Blk.new w 165 #[.int .i64 p, .int .i64 q]).cell 0
  have r1 : wd.cell? ⟨w.heap.size, 1, none⟩ = some (.int .i64 q) := by rw [hwd]; exact (Blk.new w 165 #[.int .i64 p, .int .i64 q]).cell 1
  clear hwd
  refine plan_run fun m hm => ?_
  simp only [pickO, List.filterMap_cons, List.filterMap_nil, List.getElem?_toArray, List.getElem?_cons_zero, List.getElem?_cons_succ] at hm
  subst hm
  go_wp2_with fail
  refine ⟨rfl, by rfl, ?_⟩
  refine plan_fin ?_
  go_wp2_with fail
  first | go_ret2 | go_ret3 | skip
  refine ⟨?_, HBD.out⟩
  rfl
end Go.Proofs.YthibnhgbgmpjoaaDoor
namespace Go.Proofs.YthibnhgbgmpjoaaDoor
open Go.RowKit
set_option linter.unusedSimpArgs false
set_option linter.unusedVariables false
/-- Bits stand for no number. -/
def exNo (v n : Int) : Prop := n < 1 ∨ 15 < n ∨ v < 0 ∨ (2 : Int) ^ n.toNat ≤ v
theorem pow_castS (k : Nat) : ∃ Q : Nat, (2 : Int) ^ k = (Q : Int) ∧ Q = 2 ^ k ∧ 1 ≤ Q := ⟨2 ^ k, by norm_cast, rfl, Nat.one_le_two_pow⟩
theorem div_pos_iff (v : Int) (Q : Nat) (hQ : 1 ≤ Q) : 0 < v / (Q : Int) ↔ (Q : Int) ≤ v := by
  have hq : (0 : Int) < (Q : Int) := by omega
  constructor
  · intro h
    have := Int.mul_ediv_self_le (x := v) (k := (Q : Int)) (by omega)
    have h1 : (Q : Int) * 1 ≤ (Q : Int) * (v / (Q : Int)) := Int.mul_le_mul_of_nonneg_left (by omega) (by omega)
    omega
  · intro h
    have := Int.le_ediv_of_mul_le hq (show 1 * (Q : Int) ≤ v by omega)
    omega
theorem pow_le (k : Nat) (h : k ≤ 15) : (2 : Nat) ^ k ≤ 32768 := Nat.pow_le_pow_right (n := 2) (by omega) h
/-- How many bits a number takes. -/
theorem bits_of (a N : Nat) (h : a < 2 ^ N) : ∃ L, L ≤ N ∧ a < 2 ^ L ∧ ∀ k, k < L → 2 ^ k ≤ a := by
  induction N with
  | zero => exact ⟨0, by omega, h, fun k hk => by omega⟩
  | succ N ih =>
    by_cases h2 : a < 2 ^ N
    · obtain ⟨L, h3, h4, h5⟩ := ih h2
      exact ⟨L, by omega, h4, h5⟩
    · exact ⟨N + 1, by omega, h, fun k hk => by have := Nat.pow_le_pow_right (n := 2) (by omega) (show k ≤ N by omega); omega⟩
end Go.Proofs.YthibnhgbgmpjoaaDoor
namespace Go.Proofs.YthibnhgbgmpjoaaDoor
open Go.RowKit
set_option linter.unusedSimpArgs false
set_option linter.unusedVariables false
theorem i64_rng {v : Int} (h : (Lit.int .i64 v).wf = true) : -9223372036854775808 ≤ v ∧ v ≤ 9223372036854775807 := by
  have h1 : IntKind.i64.min = -9223372036854775808 := by decide
  have h2 : IntKind.i64.max = 9223372036854775807 := by decide
  have h3 : IntKind.i64.min ≤ v ∧ v ≤ IntKind.i64.max := by simpa [Lit.wf] using h
  rw [h1, h2] at h3; exact h3
theorem u8_rng {v : Int} (h : (Lit.int .u8 v).wf = true) : 0 ≤ v ∧ v ≤ 255 := by
  have h1 : IntKind.u8.min = 0 := by decide
  have h2 : IntKind.u8.max = 255 := by decide
  have h3 : IntKind.u8.min ≤ v ∧ v ≤ IntKind.u8.max := by simpa [Lit.wf] using h
  rw [h1, h2] at h3; exact h3
def exC : Nat → Int := fun j => if j = 1 then 1 else if j = 2 then 5 else if j = 3 then 1 else 0
def exS : ByteArray := ⟨#[0, 1, 2, 3, 4, 5, 6]⟩
theorem ex_new : ∃ st, hufNew exC exS = some st ∧ st.cb 5 = 6 ∧ st.cn 5 = 3 := ⟨_, rfl, rfl, rfl⟩
def TabOf (w : World) (cnt : Nat → Int) (s : ByteArray) (st : HS) (e : Ending) (w' : World) : Prop := ∃ g at_ fs, e = .returned (.tuple #[.pointer (some ⟨g, 0, none⟩), .int .i64 0]) ∧ Tab w' g cnt s st.cb st.cn fs at_ ∧ (∀ j, 1 ≤ j → j ≤ 16 → fs j = fsF cnt s j ∧ at_ j = atF cnt s j) ∧ w.heap.size ≤ g ∧ Below w.heap.size w w'
theorem NewH.get {w w' : World} {cnt : Nat → Int} {s : ByteArray} {e : Ending} {st : HS} (h : NewH w cnt s e w') (h0 : hufNew cnt s = some st) : Hid (TabOf w cnt s st e w') := by
  unfold NewH at h; rw [h0] at h; exact Lib.hid h
theorem NewH.none {w w' : World} {cnt : Nat → Int} {s : ByteArray} {e : Ending} (h : NewH w cnt s e w') (h0 : hufNew cnt s = none) : e = .returned (.tuple #[.pointer none, .int .i64 5]) ∧ Below w.heap.size w w' := by
  unfold NewH at h; rw [h0] at h; exact h
theorem exC_rng (j : Nat) (_h : j < 16) : 0 ≤ exC j ∧ exC j ≤ 255 := by unfold exC; repeat' split
                                                                        all_goals omega
end Go.Proofs.YthibnhgbgmpjoaaDoor
namespace Go.Proofs.YthibnhgbgmpjoaaDoor
open Go.RowKit
set_option linter.unusedSimpArgs false
set_option linter.unusedVariables false
/-- Symbol i has no code, or the code v of l bits. -/
def CodeIs (st : HS) (i l v : Nat) : Prop := st.cn i = l ∧ st.cb i = v ∧ 1 ≤ l ∧ v + 2 ≤ 2 ^ l
def InvC (n : Nat) (st : HS) : Prop := ∀ i, (st.cn i = 0 ∧ st.cb i = 0) ∨ ∃ l v : Nat, CodeIs st i l v ∧ l ≤ n ∧ (v + 1) * 2 ^ (n - l) ≤ st.next
def PreF (st : HS) : Prop := ∀ i j l v l' v', i ≠ j → CodeIs st i l v → CodeIs st j l' v' → l' ≤ l → v / 2 ^ (l - l') ≠ v'
theorem invC_in {s : ByteArray} {n : Nat} (hn : 1 ≤ n) : ∀ (k : Nat) (st st' : HS), hIn s n k st = some st' → InvC n st → PreF st → InvC n st' ∧ PreF st'
  | 0, st, st', h, h1, h2 => by simp [hIn] at h; subst h; exact ⟨h1, h2⟩
  | k + 1, st, st', h, h1, h2 => by
    rw [hIn] at h
    cases hk : hIn s n k st with
    | none => rw [hk] at h; cases h
    | some st2 =>
      rw [hk] at h
      obtain ⟨i1, i2⟩ := invC_in hn k st st2 hk h1 h2
      simp only at h
      split at h
      · cases h
      · rename_i hc
        injection h with h
        obtain ⟨x, hx⟩ : ∃ x, x = symN s st2.at_ := ⟨_, rfl⟩
        rw [← hx] at h hc
        have hcx : ¬ 0 < st2.cn x := fun e => hc (Or.inr (Or.inr e))
        have hnx : st2.next + 2 ≤ 2 ^ n := by
          have : 2 ≤ 2 ^ n := by
            have := Nat.pow_le_pow_right (n := 2) (by omega) hn
            omega
          have : ¬ 2 ^ n - 1 ≤ st2.next := fun e => hc (Or.inr (Or.inl e))
          omega
        have old : ∀ i, i ≠ x → st'.cn i = st2.cn i ∧ st'.cb i = st2.cb i := fun i hi => by
          subst h; simp [upd, hi]
        have new : st'.cn x = n ∧ st'.cb x = st2.next := by subst h; simp [upd]
        have nxt : st'.next = st2.next + 1 := by subst h; rfl
        have oldC : ∀ i l v, i ≠ x → CodeIs st' i l v → CodeIs st2 i l v := fun i l v hi hC => by
          obtain ⟨e1, e2⟩ := old i hi
          unfold CodeIs at *; rw [e1, e2] at hC; exact hC
        have newC : ∀ l v, CodeIs st' x l v → l = n ∧ v = st2.next := fun l v hC => by
          obtain ⟨e1, e2, _⟩ := hC
          rw [new.1] at e1; rw [new.2] at e2; omega
        have bound : ∀ i l v, i ≠ x → CodeIs st' i l v → l ≤ n ∧ (v + 1) * 2 ^ (n - l) ≤ st2.next := fun i l v hi hC => by
          have hC2 := oldC i l v hi hC
          rcases i1 i with ⟨z, _⟩ | ⟨l2, v2, hD, h3, h4⟩
          · have := hC2.1; have := hC2.2.2.1; omega
          · have e1 := hC2.1; have e2 := hC2.2.1; rw [hD.1] at e1; rw [hD.2.1] at e2
            obtain rfl : l2 = l := by omega
            obtain rfl : v2 = v := by omega
            exact ⟨h3, h4⟩
        refine ⟨fun i => ?_, fun i j l v l' v' hij hi hj hl => ?_⟩
        · by_cases hi : i = x
          · subst hi
            refine Or.inr ⟨n, st2.next, ⟨new.1, new.2, hn, hnx⟩, Nat.le_refl _, ?_⟩
            rw [Nat.sub_self, nxt]; simp
          · obtain ⟨e1, e2⟩ := old i hi
            rcases i1 i with h0 | ⟨l, v, hC, h3, h4⟩
            · exact Or.inl ⟨e1 ▸ h0.1, e2 ▸ h0.2⟩
            · exact Or.inr ⟨l, v, by unfold CodeIs at *; rw [e1, e2]; exact hC, h3, by rw [nxt]; omega⟩
        · by_cases hix : i = x
          · subst hix
            obtain ⟨rfl, rfl⟩ := newC l v hi
            obtain ⟨b1, b2⟩ := bound j l' v' (fun e => hij e.symm) hj
            have h5 : v' + 1 ≤ st2.next / 2 ^ (l - l') := (Nat.le_div_iff_mul_le (Nat.two_pow_pos _)).2 b2
            omega
          · by_cases hjx : j = x
            · subst hjx
              obtain ⟨rfl, rfl⟩ := newC l' v' hj
              obtain ⟨b1, b2⟩ := bound i l v hix hi
              obtain rfl : l' = l := by omega
              rw [Nat.sub_self] at *
              simp at b2 ⊢
              omega
            · exact i2 i j l v l' v' hij (oldC i l v hix hi) (oldC j l' v' hjx hj) hl
theorem invC_out {cnt : Nat → Int} {s : ByteArray} : ∀ (n : Nat) (st : HS), hOut cnt s n = some st → InvC n st ∧ PreF st
  | 0, st, h => by
    simp [hOut] at h; subst h
    exact ⟨fun i => Or.inl ⟨rfl, rfl⟩, fun i j l v l' v' _ hi => by have := hi.1; have := hi.2.2.1; simp [zf] at *; omega⟩
  | n + 1, st, h => by
    rw [hOut] at h
    cases hk : hOut cnt s n with
    | none => rw [hk] at h; cases h
    | some st2 =>
      rw [hk] at h
      obtain ⟨i1, i2⟩ := invC_out n st2 hk
      refine invC_in (by omega) _ _ _ h (fun i => ?_) i2
      rcases i1 i with h0 | ⟨l, v, hC, h3, h4⟩
      · exact Or.inl h0
      · refine Or.inr ⟨l, v, hC, by omega, ?_⟩
        show (v + 1) * 2 ^ (n + 1 - l) ≤ 2 * st2.next
        rw [show n + 1 - l = (n - l) + 1 by omega, Nat.pow_succ, ← Nat.mul_assoc]
        omega
theorem hufNew_hOut {cnt : Nat → Int} {s : ByteArray} {st : HS} (h : hufNew cnt s = some st) : hOut cnt s 16 = some st ∧ st.at_ = s.size ∧ 0 < s.size := by
  unfold hufNew at h
  cases hk : hOut cnt s 16 with
  | none => rw [hk] at h; cases h
  | some st2 =>
    rw [hk] at h
    simp only at h
    split at h
    · cases h
    · rename_i hc
      injection h with h
      subst h
      exact ⟨rfl, by omega, by omega⟩
theorem codes_of {cnt : Nat → Int} {s : ByteArray} {st : HS} (h : hufNew cnt s = some st) (i : Nat) : (st.cn i = 0 ∧ st.cb i = 0) ∨ ∃ l v : Nat, CodeIs st i l v ∧ l ≤ 16 := by
  rcases (invC_out 16 st (hufNew_hOut h).1).1 i with h0 | ⟨l, v, hC, h3, _⟩
  · exact Or.inl h0
  · exact Or.inr ⟨l, v, hC, h3⟩
theorem prefix_free {cnt : Nat → Int} {s : ByteArray} {st : HS} (h : hufNew cnt s = some st) : PreF st := (invC_out 16 st (hufNew_hOut h).1).2
end Go.Proofs.YthibnhgbgmpjoaaDoor
namespace Go.Proofs.YthibnhgbgmpjoaaDoor
open Go.RowKit
set_option linter.unusedSimpArgs false
set_option linter.unusedVariables false
/-- What the document's Codes has listed: how long, and the bits and the length of each. -/
structure GS where
  next : Nat
  at_ : Nat
  bi : Nat → Nat
  ni : Nat → Nat
def updN (f : Nat → Nat) (i x : Nat) : Nat → Nat := fun j => if j = i then x else f j
def gIn (s : ByteArray) (n : Nat) : Nat → GS → Option GS
  | 0, g => some g
  | k + 1, g => match gIn s n k g with
    | none => none
    | some g => if g.at_ = s.size then none else some ⟨g.next + 1, g.at_ + 1, updN g.bi g.at_ g.next, updN g.ni g.at_ n⟩
def gOut (cnt : Nat → Int) (s : ByteArray) : Nat → Option GS
  | 0 => some ⟨0, 0, fun _ => 0, fun _ => 0⟩
  | n + 1 => match gOut cnt s n with
    | none => none
    | some g => gIn s (n + 1) (cnt n).toNat { g with next := g.next * 2 }
/-- Entry i stands: it isn't 1s alone, and no symbol comes twice. -/
def okG (s : ByteArray) (g : GS) (i : Nat) : Prop := g.bi i + 2 ≤ 2 ^ g.ni i ∧ ∀ k, k < i → symN s k ≠ symN s i
def allG (s : ByteArray) (g : GS) : Prop := ∀ i, i < g.at_ → okG s g i
structure Sim (s : ByteArray) (st : HS) (g : GS) : Prop where
  nx : st.next = g.next
  at_ : st.at_ = g.at_
  le : g.at_ ≤ s.size
  cell : ∀ i, i < g.at_ → st.cb (symN s i) = g.bi i ∧ st.cn (symN s i) = g.ni i ∧ 1 ≤ g.ni i
  ok : allG s g
  sup : ∀ x, 0 < st.cn x → ∃ i, i < g.at_ ∧ symN s i = x
theorem sim_in {s : ByteArray} {n : Nat} (hn : 1 ≤ n) : ∀ (k : Nat) (st st' : HS) (g : GS), hIn s n k st = some st' → Sim s st g → ∃ g', gIn s n k g = some g' ∧ Sim s st' g'
  | 0, st, st', g, h, hS => by simp [hIn] at h; subst h; exact ⟨g, rfl, hS⟩
  | k + 1, st, st', g, h, hS => by
    rw [hIn] at h
    cases hk : hIn s n k st with
    | none => rw [hk] at h; cases h
    | some st2 =>
      rw [hk] at h
      obtain ⟨g2, hg2, S2⟩ := sim_in hn k st st2 g hk hS
      simp only at h
      split at h
      · cases h
      · rename_i hc
        injection h with h
        have h1 : st2.at_ < s.size := Nat.lt_of_not_le fun e => hc (Or.inl e)
        have h2 : ¬ 2 ^ n - 1 ≤ st2.next := fun e => hc (Or.inr (Or.inl e))
        have h3 : ¬ 0 < st2.cn (symN s st2.at_) := fun e => hc (Or.inr (Or.inr e))
        have ha := S2.at_
        refine ⟨⟨g2.next + 1, g2.at_ + 1, updN g2.bi g2.at_ g2.next, updN g2.ni g2.at_ n⟩, ?_, ?_⟩
        · rw [gIn, hg2]; simp only; rw [if_neg (by omega)]
        · have fresh : ∀ i, i < g2.at_ → symN s i ≠ symN s g2.at_ := fun i hi e => by
            have h4 := S2.cell i hi
            rw [e, ← ha] at h4
            omega
          subst h
          refine ⟨by simp only; rw [S2.nx], by simp only; rw [ha], by simp only; omega, fun i hi => ?_, fun i hi => ?_, fun x hx => ?_⟩
          · simp only at hi
            by_cases e : i = g2.at_
            · subst e; simp only [upd, updN, ha, if_pos]; exact ⟨by rw [S2.nx], trivial, hn⟩
            · have h5 := fresh i (by omega)
              have h4 := S2.cell i (by omega)
              simp only [upd, updN, ha, if_neg h5, if_neg e]
              exact h4
          · simp only at hi
            by_cases e : i = g2.at_
            · subst e
              refine ⟨?_, fun k hk => fresh k hk⟩
              simp only [updN, if_pos]
              have := S2.nx
              have : 2 ≤ 2 ^ n := Nat.pow_le_pow_right (n := 2) (by omega) hn
              omega
            · have h4 := S2.ok i (by omega)
              unfold okG at *
              simp only [updN, if_neg e]
              exact h4
          · simp only [upd, ha] at hx
            by_cases e : x = symN s g2.at_
            · exact ⟨g2.at_, by simp only; omega, e.symm⟩
            · rw [if_neg e] at hx
              obtain ⟨i, hi, hi2⟩ := S2.sup x hx
              exact ⟨i, by simp only; omega, hi2⟩
/-- An entry that doesn't stand. -/
def badG (s : ByteArray) (g : GS) : Prop := ∃ i, i < g.at_ ∧ i < s.size ∧ ¬ okG s g i
theorem bad_in {s : ByteArray} {n : Nat} : ∀ (k : Nat) (g g' : GS), gIn s n k g = some g' → badG s g → badG s g'
  | 0, g, g', h, hB => by simp [gIn] at h; subst h; exact hB
  | k + 1, g, g', h, hB => by
    rw [gIn] at h
    cases hk : gIn s n k g with
    | none => rw [hk] at h; cases h
    | some g2 =>
      rw [hk] at h
      obtain ⟨i, h1, h3, h2⟩ := bad_in k g g2 hk hB
      simp only at h
      split at h
      · cases h
      · injection h with h
        subst h
        refine ⟨i, by simp only; omega, h3, fun ho => h2 ?_⟩
        unfold okG at *
        simp only [updN, if_neg (show ¬ i = g2.at_ by omega)] at ho
        exact ho
theorem bad_out {cnt : Nat → Int} {s : ByteArray} {m : Nat} {g : GS} (h : gOut cnt s m = some g) (hB : badG s g) : ∀ (n : Nat) (g' : GS), m ≤ n → gOut cnt s n = some g' → badG s g'
  | 0, g', hm, h' => by
    obtain rfl : m = 0 := by omega
    rw [h] at h'; injection h' with h'; subst h'; exact hB
  | n + 1, g', hm, h' => by
    by_cases e : m = n + 1
    · subst e; rw [h] at h'; injection h' with h'; subst h'; exact hB
    · rw [gOut] at h'
      cases hk : gOut cnt s n with
      | none => rw [hk] at h'; cases h'
      | some g2 =>
        rw [hk] at h'
        obtain ⟨i, h1, h3, h2⟩ := bad_out h hB n g2 (by omega) hk
        exact bad_in _ _ _ h' ⟨i, h1, h3, h2⟩
theorem gIn_more {s : ByteArray} {n : Nat} (k : Nat) (g : GS) : ∀ K, k ≤ K → gIn s n k g = none → gIn s n K g = none := by
  intro K
  induction K with
  | zero => intro h1 h2; obtain rfl : k = 0 := by omega
            exact h2
  | succ K ih =>
    intro h1 h2
    by_cases e : k = K + 1
    · subst e; exact h2
    · rw [gIn, ih (by omega) h2]
theorem gOut_more {cnt : Nat → Int} {s : ByteArray} {k : Nat} (h : gOut cnt s k = none) : ∀ K, k ≤ K → gOut cnt s K = none := by
  intro K
  induction K with
  | zero => intro h1; obtain rfl : k = 0 := by omega
            exact h
  | succ K ih =>
    intro h1
    by_cases e : k = K + 1
    · subst e; exact h
    · rw [gOut, ih (by omega)]
/-- New fails in a round: the document's list ends too, or has an entry that doesn't stand. -/
theorem fail_in {s : ByteArray} {n : Nat} (hn : 1 ≤ n) : ∀ (k : Nat) (st : HS) (g : GS), hIn s n k st = none → Sim s st g → gIn s n k g = none ∨ ∃ g', gIn s n k g = some g' ∧ badG s g'
  | 0, st, g, h, hS => by simp [hIn] at h
  | k + 1, st, g, h, hS => by
    cases hk : hIn s n k st with
    | none =>
      rcases fail_in hn k st g hk hS with h1 | ⟨g', h1, h2⟩
      · exact Or.inl (gIn_more k g _ (by omega) h1)
      · cases hg : gIn s n (k + 1) g with
        | none => exact Or.inl rfl
        | some g2 =>
          refine Or.inr ⟨g2, rfl, ?_⟩
          rw [gIn, h1] at hg
          simp only at hg
          split at hg
          · cases hg
          · injection hg with hg
            obtain ⟨i, a1, a3, a2⟩ := h2
            subst hg
            refine ⟨i, by simp only; omega, a3, fun ho => a2 ?_⟩
            unfold okG at *
            simp only [updN, if_neg (show ¬ i = g'.at_ by omega)] at ho
            exact ho
    | some st2 =>
      obtain ⟨g2, hg2, S2⟩ := sim_in hn k st st2 g hk hS
      rw [hIn, hk] at h
      simp only at h
      split at h
      · rename_i hc
        have ha := S2.at_
        have hle := S2.le
        by_cases hz : g2.at_ = s.size
        · left; rw [gIn, hg2]; simp only; rw [if_pos hz]
        · right
          refine ⟨⟨g2.next + 1, g2.at_ + 1, updN g2.bi g2.at_ g2.next, updN g2.ni g2.at_ n⟩, by rw [gIn, hg2]; simp only; rw [if_neg hz], g2.at_, by simp only; omega, by omega, fun ho => ?_⟩
          unfold okG at ho
          simp only [updN, if_pos] at ho
          rcases hc with hc | hc | hc
          · omega
          · have := S2.nx
            have : 2 ≤ 2 ^ n := Nat.pow_le_pow_right (n := 2) (by omega) hn
            omega
          · obtain ⟨i, hi, hi2⟩ := S2.sup _ hc
            rw [ha] at hi2
            exact ho.2 i hi hi2
      · cases h
theorem sim_out {cnt : Nat → Int} {s : ByteArray} : ∀ (n : Nat) (st : HS), hOut cnt s n = some st → ∃ g, gOut cnt s n = some g ∧ Sim s st g
  | 0, st, h => by
    simp [hOut] at h; subst h
    exact ⟨_, rfl, ⟨rfl, rfl, Nat.zero_le _, fun i hi => absurd hi (Nat.not_lt_zero _), fun i hi => absurd hi (Nat.not_lt_zero _), fun x hx => by simp [zf] at hx⟩⟩
  | n + 1, st, h => by
    rw [hOut] at h
    cases hk : hOut cnt s n with
    | none => rw [hk] at h; cases h
    | some st2 =>
      rw [hk] at h
      obtain ⟨g, hg, S⟩ := sim_out n st2 hk
      rw [gOut, hg]
      exact sim_in (by omega) _ _ _ _ h ⟨by simp only; rw [S.nx]; omega, S.at_, S.le, S.cell, S.ok, S.sup⟩
theorem fail_out {cnt : Nat → Int} {s : ByteArray} : ∀ (n : Nat), hOut cnt s n = none → gOut cnt s n = none ∨ ∃ g, gOut cnt s n = some g ∧ badG s g
  | 0, h => by simp [hOut] at h
  | n + 1, h => by
    cases hk : hOut cnt s n with
    | none =>
      rcases fail_out n hk with h1 | ⟨g, h1, h2⟩
      · exact Or.inl (gOut_more h1 _ (by omega))
      · cases hg : gOut cnt s (n + 1) with
        | none => exact Or.inl rfl
        | some g2 => exact Or.inr ⟨g2, rfl, bad_out h1 h2 (n + 1) g2 (by omega) hg⟩
    | some st2 =>
      obtain ⟨g, hg, S⟩ := sim_out n st2 hk
      rw [hOut, hk] at h
      rw [gOut, hg]
      exact fail_in (by omega) _ _ _ h ⟨by simp only; rw [S.nx]; omega, S.at_, S.le, S.cell, S.ok, S.sup⟩
/-- How many of the first N symbols have a code. -/
def posN (c : Nat → Int) : Nat → Nat
  | 0 => 0
  | N + 1 => posN c N + (if 0 < c N then 1 else 0)
theorem posN_le (c : Nat → Int) (N : Nat) : posN c N ≤ N := by
  induction N with
  | zero => exact Nat.le_refl _
  | succ N ih => simp only [posN]; split <;> omega
theorem posN_upd (c : Nat → Int) (x : Nat) (v : Int) (h0 : ¬ 0 < c x) (hv : 0 < v) (N : Nat) : posN (upd c x v) N = posN c N + (if x < N then 1 else 0) := by
  induction N with
  | zero => simp [posN]
  | succ N ih =>
    simp only [posN, ih]
    by_cases e : N = x
    · subst e; simp [upd, hv, h0]
    · simp only [upd, if_neg e]
      by_cases h1 : x < N
      · rw [if_pos h1, if_pos (show x < N + 1 by omega)]; omega
      · rw [if_neg h1, if_neg (show ¬ x < N + 1 by omega)]; omega
theorem symN_lt (s : ByteArray) (i : Nat) : symN s i < 256 := by unfold symN; exact UInt8.toNat_lt _
theorem pos_in {s : ByteArray} {n : Nat} (hn : 1 ≤ n) : ∀ (k : Nat) (st st' : HS), hIn s n k st = some st' → st.at_ = posN st.cn 256 → st'.at_ = posN st'.cn 256
  | 0, st, st', h, hS => by simp [hIn] at h; subst h; exact hS
  | k + 1, st, st', h, hS => by
    rw [hIn] at h
    cases hk : hIn s n k st with
    | none => rw [hk] at h; cases h
    | some st2 =>
      rw [hk] at h
      have h2 := pos_in hn k st st2 hk hS
      simp only at h
      split at h
      · cases h
      · rename_i hc
        injection h with h
        subst h
        simp only
        rw [posN_upd _ _ _ (fun e => hc (Or.inr (Or.inr e))) (by omega), if_pos (symN_lt _ _), h2]
theorem posN_zf (N : Nat) : posN zf N = 0 := by
  induction N with
  | zero => rfl
  | succ N ih => simp [posN, ih, zf]
theorem pos_out {cnt : Nat → Int} {s : ByteArray} : ∀ (n : Nat) (st : HS), hOut cnt s n = some st → st.at_ = posN st.cn 256
  | 0, st, h => by simp [hOut] at h; subst h; exact (posN_zf 256).symm
  | n + 1, st, h => by
    rw [hOut] at h
    cases hk : hOut cnt s n with
    | none => rw [hk] at h; cases h
    | some st2 => rw [hk] at h; exact pos_in (by omega) _ _ _ h (pos_out n st2 hk)
/-- The document's Codes. -/
def GoodG (s : ByteArray) (g : GS) : Prop := g.at_ = s.size ∧ 0 < g.at_ ∧ g.at_ ≤ 256 ∧ allG s g
theorem codes_yes {cnt : Nat → Int} {s : ByteArray} {st : HS} (h : hufNew cnt s = some st) : ∃ g, gOut cnt s 16 = some g ∧ GoodG s g ∧ Sim s st g := by
  obtain ⟨h1, h2, h3⟩ := hufNew_hOut h
  obtain ⟨g, hg, S⟩ := sim_out 16 st h1
  have h4 := pos_out 16 st h1
  have h5 := posN_le st.cn 256
  have h6 := S.at_
  exact ⟨g, hg, ⟨by omega, by omega, by omega, S.ok⟩, S⟩
theorem codes_no {cnt : Nat → Int} {s : ByteArray} (h : hufNew cnt s = none) : gOut cnt s 16 = none ∨ ∃ g, gOut cnt s 16 = some g ∧ ¬ GoodG s g := by
  cases hk : hOut cnt s 16 with
  | none =>
    rcases fail_out 16 hk with h1 | ⟨g, h1, i, h2, h4, h3⟩
    · exact Or.inl h1
    · exact Or.inr ⟨g, h1, fun hG => h3 (hG.2.2.2 i h2)⟩
  | some st =>
    obtain ⟨g, hg, S⟩ := sim_out 16 st hk
    refine Or.inr ⟨g, hg, fun hG => ?_⟩
    unfold hufNew at h
    rw [hk] at h
    simp only at h
    split at h
    · rename_i hc
      have := S.at_
      have := hG.1
      have := hG.2.1
      omega
    · cases h
theorem gIn_bd {s : ByteArray} {n : Nat} : ∀ (k : Nat) (g g' : GS), gIn s n k g = some g' → g.at_ ≤ s.size → g'.next = g.next + k ∧ g'.at_ ≤ s.size
  | 0, g, g', h, h0 => by simp [gIn] at h; subst h; exact ⟨rfl, h0⟩
  | k + 1, g, g', h, h0 => by
    rw [gIn] at h
    cases hk : gIn s n k g with
    | none => rw [hk] at h; cases h
    | some g2 =>
      rw [hk] at h
      have := gIn_bd k g g2 hk h0
      simp only at h
      split at h
      · cases h
      · injection h with h; subst h; simp only; omega
theorem gOut_bd {cnt : Nat → Int} {s : ByteArray} (hc : ∀ j, j < 16 → 0 ≤ cnt j ∧ cnt j ≤ 255) : ∀ (n : Nat) (g : GS), n ≤ 16 → gOut cnt s n = some g → g.next + 255 ≤ 255 * 2 ^ n ∧ g.at_ ≤ s.size
  | 0, g, _, h => by simp [gOut] at h; subst h; simp
  | n + 1, g, hn, h => by
    rw [gOut] at h
    cases hk : gOut cnt s n with
    | none => rw [hk] at h; cases h
    | some g2 =>
      rw [hk] at h
      obtain ⟨h1, h2⟩ := gOut_bd hc n g2 (by omega) hk
      obtain ⟨h3, h4⟩ := gIn_bd _ _ _ h h2
      have h5 := hc n (by omega)
      simp only at h3
      rw [Nat.pow_succ]
      omega
end Go.Proofs.YthibnhgbgmpjoaaDoor

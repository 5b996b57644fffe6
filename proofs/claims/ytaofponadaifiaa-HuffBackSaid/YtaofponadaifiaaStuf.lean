/- Plain laws: what a writer makes is stuffed. No condition. -/
import Derived.Test.YtaofponadaifiaaWriG
import Derived.Test.YtaofponadaifiaaRfE
namespace Go.Proofs.Ytaofponadaifiaa
open Go.RowKit
set_option linter.unusedSimpArgs false
set_option linter.unusedVariables false
def uOk (u : List Int) : Prop := (∃ b, u = [b] ∧ b ≠ 255 ∧ 0 ≤ b ∧ b < 256) ∨ (∃ x, u = [255, x] ∧ 0 ≤ x ∧ x < 255)
def uMark (u : List Int) : Nat := match u with
  | [_, x] => if x = 0 then 0 else 1
  | _ => 0
/-- Units one behind the other, m of them markers. -/
def Str (l : List Int) (m : Nat) : Prop := ∃ us : List (List Int), (∀ u ∈ us, uOk u) ∧ us.flatten = l ∧ (us.map uMark).sum = m
theorem Str.nil : Str [] 0 := ⟨[], by simp, rfl, rfl⟩
theorem Str.snoc {l : List Int} {m : Nat} {u : List Int} (h : Str l m) (hu : uOk u) : Str (l ++ u) (m + uMark u) := by
  obtain ⟨us, h1, h2, h3⟩ := h
  refine ⟨us ++ [u], ?_, by simp [h2], by simp [h3]⟩
  intro x hx
  rcases List.mem_append.1 hx with hx | hx
  · exact h1 x hx
  · simp at hx; subst hx; exact hu
theorem Str.pt {l : List Int} {m : Nat} (h : Str l m) {b : Int} (h0 : 0 ≤ b) (h1 : b < 256) : Str (pt l b) m := by
  unfold Go.Proofs.Ytaofponadaifiaa.pt
  by_cases hb : b = 255
  · rw [if_pos hb]
    exact h.snoc (u := [255, 0]) (Or.inr ⟨0, rfl, by omega, by omega⟩)
  · rw [if_neg hb]
    exact h.snoc (u := [b]) (Or.inl ⟨b, rfl, hb, h0, h1⟩)
theorem Str.last {l : List Int} {m : Nat} (h : Str l m) {x c : Int} (c0 : 0 ≤ c) (c1 : c < 8) (h0 : 0 ≤ x) (h1 : x < 2 ^ c.toNat) : Str (lastL l x c) m := by
  unfold lastL
  split
  · have r := lastB_range x c c0 c1 h0 h1
    exact h.pt r.1 r.2
  · exact h
theorem drn_ok (k : Nat) : ∀ (l : List Int) (H C : Int), 0 ≤ C → C < 8 * k + 8 → 0 ≤ H → H < 2 ^ C.toNat →
    0 ≤ (drn k l H C).2.2 ∧ (drn k l H C).2.2 < 8 ∧ 0 ≤ (drn k l H C).2.1 ∧ (drn k l H C).2.1 < 2 ^ (drn k l H C).2.2.toNat ∧ (drn k l H C).1.length ≤ l.length + 2 * k ∧ ∀ m, Str l m → Str (drn k l H C).1 m := by
  induction k with
  | zero => intro l H C c0 c1 h0 h1; exact ⟨c0, by show C < 8; simp at c1; omega, h0, h1, by simp [drn], fun m h => h⟩
  | succ k ih =>
    intro l H C c0 c1 h0 h1
    rw [drn]
    by_cases hc : 8 ≤ C
    · rw [if_pos hc]
      have hp := two_pos (C - 8).toNat
      obtain ⟨e1, e2, e3, e4, e5, e6⟩ := ih (Go.Proofs.Ytaofponadaifiaa.pt l (H / 2 ^ (C - 8).toNat % 256)) (H % 2 ^ (C - 8).toNat) (C - 8) (by omega) (by omega) (Int.emod_nonneg _ (by omega)) (Int.emod_lt_of_pos _ (by omega))
      have := pt_len l (H / 2 ^ (C - 8).toNat % 256)
      exact ⟨e1, e2, e3, e4, by omega, fun m h => e6 m (h.pt (by omega) (by omega))⟩
    · rw [if_neg hc]
      exact ⟨c0, by show C < 8; omega, h0, h1, by show l.length ≤ _; omega, fun m h => h⟩
/-- A writer behind k calls, m markers put. -/
def WS (w : World) (base g k m : Nat) : Prop := ∃ (vv : Value) (l : List Int) (h c t : Int), WrV w base g vv l h c t ∧ Str l m ∧ l.length ≤ 6 * k ∧ 0 ≤ c ∧ c < 8 ∧ 0 ≤ h ∧ h < 2 ^ c.toNat ∧ 0 ≤ t ∧ t ≤ 16 * k
theorem WS.up {w : World} {base g k m : Nat} (H : WS w base g k m) : WS w base g (k + 1) m := by
  obtain ⟨vv, l, h, c, t, a1, a2, a3, a4, a5, a6, a7, a8, a9⟩ := H
  exact ⟨vv, l, h, c, t, a1, a2, by omega, a4, a5, a6, a7, a8, by omega⟩
theorem put_any (w : World) (base g k m : Nat) (H : WS w base g k m) (hbg : base ≤ g) (hk : k ≤ 200) (v n : Int) :
    Calls Try.prog 29 #[.pointer (some ⟨g, 0, none⟩), .int .i64 v, .int .i64 n] w fun e w' => Hid (∃ e0, e = .returned (.int .i64 e0) ∧ WS w' base g (k + 1) m ∧ Below base w w') := by
  have hgl : g < w.heap.size := by obtain ⟨_, _, _, _, _, a1, _⟩ := H; exact a1.1.lt
  by_cases hn : n < 0 ∨ 16 < n
  · refine (wput_arg w _ v n hn _ rfl).mono ?_
    rintro e w' ⟨rfl, rfl⟩
    exact Lib.hid ⟨_, rfl, H.up, Below.refl _ _⟩
  · obtain ⟨N, rfl⟩ := Int.eq_ofNat_of_zero_le (show 0 ≤ n by omega)
    by_cases hv : v < 0 ∨ 2 ^ N ≤ v
    · refine (wput_large w v N (by omega) hv _).mono ?_
      rintro e w' ⟨rfl, rfl⟩
      exact Lib.hid ⟨_, rfl, H.up, Below.refl _ _⟩
    · obtain ⟨vv, l, h, c, t, a1, a2, a3, a4, a5, a6, a7, a8, a9⟩ := H
      refine (wput_ok w base g vv l h c t a1 hbg (by omega) a4 a5 a6 a7 a8 (by omega) v N (by omega) (by omega) (by omega)).mono ?_
      intro e w' hp
      obtain ⟨v', rfl, b1, b2, b3⟩ := hp.out
      have r := put_range h v c N (by omega) a4 a5 a6 a7 (by omega) (by omega)
      have hcn : (c + (N : Int)).toNat = c.toNat + N := by omega
      obtain ⟨e1, e2, e3, e4, e5, e6⟩ := drn_ok 3 l (h * 2 ^ N + v) (c + N) (by omega) (by omega) r.1 (by rw [hcn]; exact r.2.1)
      exact Lib.hid ⟨_, rfl, ⟨v', _, _, _, _, b1, e6 m a2, by omega, e1, e2, e3, e4, by omega, by omega⟩, b2⟩
theorem bytes_any (w : World) (base g k m : Nat) (H : WS w base g k m) (hk : k ≤ 200) :
    ∃ l, Str l m ∧ l.length ≤ 1300 ∧ Calls Try.prog 26 #[.pointer (some ⟨g, 0, none⟩)] w fun e w' => e = .returned (.string (bytesOf l)) ∧ Below w.heap.size w w' := by
  obtain ⟨vv, l, h, c, t, a1, a2, a3, a4, a5, a6, a7, a8, a9⟩ := H
  have hl := lastL_len l h c
  exact ⟨_, a2.last a4 a5 a6 a7, by omega, bytes_walk w base g vv l h c t a1 (by omega) a4 a5 a6 a7⟩
/-! ### read from the left -/

def posOf (us : List (List Int)) (j : Nat) : Nat := (us.take j).flatten.length
def marksOf (us : List (List Int)) (j : Nat) : Nat := ((us.take j).map uMark).sum
theorem posOf_succ (us : List (List Int)) (j : Nat) (h : j < us.length) : posOf us (j + 1) = posOf us j + us[j].length := by
  unfold posOf; rw [List.take_succ_eq_append_getElem h]; simp only [List.flatten_append, List.flatten_cons, List.flatten_nil, List.append_nil, List.length_append]
theorem marksOf_succ (us : List (List Int)) (j : Nat) (h : j < us.length) : marksOf us (j + 1) = marksOf us j + uMark us[j] := by
  unfold marksOf; rw [List.take_succ_eq_append_getElem h]; simp only [List.map_append, List.map_cons, List.map_nil, List.sum_append, List.sum_cons, List.sum_nil, Nat.add_zero]
theorem posOf_all (us : List (List Int)) : posOf us us.length = us.flatten.length := by unfold posOf; rw [List.take_length]
theorem marksOf_all (us : List (List Int)) : marksOf us us.length = (us.map uMark).sum := by unfold marksOf; rw [List.take_length]
theorem flat_at (us : List (List Int)) (j i : Nat) (h : j < us.length) (hi : i < us[j].length) : posOf us j + i < us.flatten.length ∧ us.flatten[posOf us j + i]? = us[j][i]? := by
  have e : us = us.take j ++ us[j] :: us.drop (j + 1) := by rw [← List.drop_eq_getElem_cons h, List.take_append_drop]
  have e2 : us.flatten = (us.take j).flatten ++ (us[j] ++ (us.drop (j + 1)).flatten) := by
    conv => lhs; rw [e]
    rw [List.flatten_append, List.flatten_cons]
  rw [e2]
  unfold posOf
  refine ⟨by simp; omega, ?_⟩
  rw [List.getElem?_append_right (by omega), Nat.add_sub_cancel_left, List.getElem?_append_left hi]
theorem bytesOf_at (l : List Int) (i : Nat) (x : Int) (h : l[i]? = some x) (h0 : 0 ≤ x) (h1 : x < 256) (hi : i < (bytesOf l).size) : (((bytesOf l)[i]'hi).toNat : Int) = x := by
  obtain ⟨hl, rfl⟩ := List.getElem?_eq_some_iff.1 h
  have e : (bytesOf l)[i]'hi = UInt8.ofNat l[i].toNat := by
    show (bytesOf l).data[i] = _
    simp [bytesOf]
  rw [e, UInt8.toNat_ofNat']
  omega
end Go.Proofs.Ytaofponadaifiaa

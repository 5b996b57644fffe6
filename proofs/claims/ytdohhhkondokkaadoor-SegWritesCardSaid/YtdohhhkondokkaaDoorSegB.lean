/- The reader's halves and text; which codes may be. -/
import Derived.Test.YtdohhhkondokkaaDoorSegA
namespace Go.Proofs.YtdohhhkondokkaaDoor
open Go.RowKit
set_option linter.unusedSimpArgs false
set_option linter.unusedVariables false
theorem nxV_bd (s : ByteArray) (a : Nat) (e : Int) : 0 ≤ nxV s 1 a e ∧ nxV s 1 a e < 256 := by
  unfold nxV
  split
  · refine ⟨(numL_bd _).1, ?_⟩
    exact numL_lt _ 1 (by simp; omega)
  · omega
theorem and15 (y : Int) (h0 : 0 ≤ y) (h1 : y < 256) : bits .and .i64 y 15 = y % 16 := by
  obtain ⟨k, rfl⟩ : ∃ k : Nat, y = k := ⟨y.toNat, by omega⟩
  have hk : k < 256 := by omega
  have h : ∀ k : Fin 256, bits .and .i64 ((k.val : Nat) : Int) 15 = ((k.val : Nat) : Int) % 16 := by decide +kernel
  exact h ⟨k, hk⟩
theorem halves_walk (w : World) (r g a : Nat) (s : ByteArray) (e : Int) (hs : s.size ≤ 140737488351232) (ha : a ≤ s.size) (hne : r ≠ g) (hr : Rdr w r g e) (hc : Cur w g s a) :
    Calls Tryd.prog 38 #[.pointer (some ⟨r, 0, none⟩)] w fun ex w' => ex = .returned (.tuple #[.int .i64 (nxV s 1 a e / 16), .int .i64 (nxV s 1 a e % 16)]) ∧ Rdr w' r g (nxE s 1 a e) ∧ Cur w' g s (nxA s 1 a) ∧ Two g r w w' := by
  have HN := Lib.hid (num_walkR 1 (by decide) (by decide) w r g a s e hs ha hne hr hc)
  clear hr hc
  go_enter Tryd.func38, Tryd.ntmps38
  go_wp2_with (first | (go_at_call 25; refine HN.out.mono ?_; rintro ex w1 ⟨rfl, hr1, hc1, ht1⟩; have HR := Lib.hid hr1; have HC := Lib.hid hc1; have HT := Lib.hid ht1; clear hr1 hc1 ht1))
  go_ret2
  exact ⟨by rw [and15 _ (nxV_bd s a e).1 (nxV_bd s a e).2]; rfl, HR.out, HC.out, HT.out⟩
/-- Bytes read: where the cursor then is, what was met, the bytes. -/
def txA (s : ByteArray) (n : Int) (a : Nat) : Nat := if 0 ≤ n ∧ n ≤ (s.size : Int) - a then a + n.toNat else a
def txE (s : ByteArray) (n : Int) (a : Nat) (e : Int) : Int := if 0 ≤ n ∧ n ≤ (s.size : Int) - a then e else if e = 0 then 4 else e
def txV (s : ByteArray) (n : Int) (a : Nat) : ByteArray := if 0 ≤ n ∧ n ≤ (s.size : Int) - a then s.extract a (a + n.toNat) else ⟨#[]⟩
theorem text_walk (n : Nat) (w : World) (r g a : Nat) (s : ByteArray) (e : Int) (hs : s.size ≤ 140737488351232) (ha : a ≤ s.size) (hne : r ≠ g) (hr : Rdr w r g e) (hc : Cur w g s a) :
    Calls Tryd.prog 40 #[.pointer (some ⟨r, 0, none⟩), .int .i64 n] w fun ex w' => ex = .returned (.string (txV s n a)) ∧ Rdr w' r g (txE s n a e) ∧ Cur w' g s (txA s n a) ∧ Two g r w w' := by
  have c0 := hr.g_
  have HR := Lib.hid hr
  have HC := Lib.hid hc
  clear hr hc
  by_cases hn : a + n ≤ s.size
  · have hN := take_ok n w g a s hs HC.out hn
    have hq : 0 ≤ (n : Int) ∧ (n : Int) ≤ (s.size : Int) - a := by omega
    have hV : txV s n a = s.extract a (a + n) := by simp [txV, hq]
    have hE : txE s n a e = e := by simp [txE, hq]
    have hA : txA s n a = a + n := by simp [txA, hq]
    rw [hV, hE, hA]
    obtain ⟨y, hy⟩ : ∃ y, y = s.extract a (a + n) := ⟨_, rfl⟩
    rw [← hy] at hN ⊢
    have HN := Lib.hid hN; clear hN
    clear hV hE hA hn hq hy
    have hst : stp e true 4 = e := by simp [stp]
    go_enter Tryd.func40, Tryd.ntmps40
    go_wp2_with (first | (go_at_call 43; refine HN.out.mono ?_; rintro ex w1 ⟨rfl, hc1, ho1⟩; have HC1 := Lib.hid hc1; have HR1 : Hid (Rdr w1 r g e) := Lib.hid (ho1.blk HR.out hne); have HO1 := Lib.hid ho1; clear hc1 ho1) | (go_at_call 28; refine (test_walk _ r g e 4 true HR1.out).mono ?_; rintro ex w2 ⟨rfl, hr2, ho2⟩; rw [hst] at hr2; have HR2 := Lib.hid hr2; have HC2 : Hid (Cur w2 g s (a + n)) := Lib.hid (ho2.blk HC1.out hne.symm); have HO2 := Lib.hid ho2; clear hr2 ho2))
    go_ret
    exact ⟨rfl, HR2.out, HC2.out, (Two.one HO1.out).trans (Two.two HO2.out)⟩
  · have hN := take_short n w g a s hs ha HC.out (by omega)
    have hq : ¬ (0 ≤ (n : Int) ∧ (n : Int) ≤ (s.size : Int) - a) := by omega
    have hV : txV s n a = ⟨#[]⟩ := by simp only [txV, if_neg hq]
    have hE : txE s n a e = stp e false 4 := by simp only [txE, if_neg hq, stp]; simp
    have hA : txA s n a = a := by simp only [txA, if_neg hq]
    rw [hV, hE, hA]
    have HN := Lib.hid hN; clear hN
    clear hV hE hA hn hq
    go_enter Tryd.func40, Tryd.ntmps40
    go_wp2_with (first | (go_at_call 43; refine HN.out.mono ?_; rintro ex w1 ⟨rfl, rfl⟩; have HR1 : Hid (Rdr w.drew r g e) := HR) | (go_at_call 28; refine (test_walk _ r g e 4 false HR1.out).mono ?_; rintro ex w2 ⟨rfl, hr2, ho2⟩; have HR2 := Lib.hid hr2; have HC2 : Hid (Cur w2 g s a) := Lib.hid (ho2.blk (Cur.drew HC.out) hne.symm); have HO2 := Lib.hid ho2; clear hr2 ho2))
    go_ret
    exact ⟨rfl, HR2.out, HC2.out, (Two.one (Only.drew g w)).trans (Two.two HO2.out)⟩
/-- What Parse says to a code alone. -/
def mayC (c : Int) : Int :=
  if c < 192 ∨ 254 < c then 3 else if 208 ≤ c ∧ c ≤ 217 then 1 else if 194 < c ∧ c ≤ 207 ∧ c ≠ 196 then 6 else if 219 < c ∧ c < 224 ∧ c ≠ 221 then 6 else if 239 < c ∧ c < 254 then 6 else 0
theorem may_walk (c : Int) (w : World) :
    Calls Tryd.prog 20 #[.int .i64 c] w fun ex w' => ex = .returned (.int .i64 (mayC c)) ∧ w = w' := by
  go_enter Tryd.func20, Tryd.ntmps20
  go_wp2
  all_goals
    go_ret
    refine ⟨?_, rfl⟩
    congr 2
    unfold mayC
    simp at *
    (repeat' split) <;> omega
end Go.Proofs.YtdohhhkondokkaaDoor

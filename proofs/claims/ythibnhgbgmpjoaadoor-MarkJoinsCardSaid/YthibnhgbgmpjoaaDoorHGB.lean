/- The reader of a segment's body: test, num, halves. -/
import Derived.Test.YthibnhgbgmpjoaaDoorHGA
namespace Go.Proofs.YthibnhgbgmpjoaaDoor
open Go.RowKit
set_option linter.unusedSimpArgs false
set_option linter.unusedVariables false
/-- Only blocks g and r, and what is new, have turned. -/
structure Two (g r : Nat) (w w' : World) : Prop where
  os : w'.os = w.os
  tape : w'.tape = w.tape
  output : w'.output = w.output
  size : w.heap.size ≤ w'.heap.size
  block : ∀ i, i < w.heap.size → i ≠ g → i ≠ r → w'.heap[i]? = w.heap[i]?
theorem Two.refl (g r : Nat) (w : World) : Two g r w w := ⟨rfl, rfl, rfl, Nat.le_refl _, fun _ _ _ _ => rfl⟩
theorem Two.trans {g r : Nat} {a b c : World} (h : Two g r a b) (k : Two g r b c) : Two g r a c :=
  ⟨k.os.trans h.os, k.tape.trans h.tape, k.output.trans h.output, Nat.le_trans h.size k.size, fun i hi h1 h2 => (k.block i (Nat.lt_of_lt_of_le hi h.size) h1 h2).trans (h.block i hi h1 h2)⟩
theorem Two.one {g r : Nat} {w w' : World} (h : Only g w w') : Two g r w w' := ⟨h.os, h.tape, h.output, h.size, fun i hi h1 _ => h.block i hi (fun e => h1 (by cases e; rfl))⟩
theorem Two.two {g r : Nat} {w w' : World} (h : Only r w w') : Two g r w w' := ⟨h.os, h.tape, h.output, h.size, fun i hi _ h1 => h.block i hi (fun e => h1 (by cases e; rfl))⟩
theorem Two.blk {g r g' : Nat} {t : TypeId} {cs : Array Value} {w w' : World} (h : Two g r w w') (hb : Blk w g' t cs) (h1 : g' ≠ g) (h2 : g' ≠ r) : Blk w' g' t cs := (h.block g' hb.lt h1 h2).trans hb
theorem Two.below {g r B : Nat} {w w' : World} (h : Two g r w w') (hg : B ≤ g) (hr : B ≤ r) (hB : B ≤ w.heap.size) : Below B w w' :=
  ⟨h.os, h.tape, h.output, h.size, fun i hi => h.block i (by omega) (by omega) (by omega)⟩
/-- A reader at block r, over the cursor of block g, that met e. -/
def Rdr (w : World) (r g : Nat) (e : Int) : Prop := Blk w r 90 #[.pointer (some ⟨g, 0, none⟩), .int .i64 e]
theorem Rdr.g_ {w : World} {r g : Nat} {e : Int} (h : Rdr w r g e) : w.cell? ⟨r, 0, none⟩ = some (.pointer (some ⟨g, 0, none⟩)) := Blk.cell h 0
theorem Rdr.e_ {w : World} {r g : Nat} {e : Int} (h : Rdr w r g e) : w.cell? ⟨r, 1, none⟩ = some (.int .i64 e) := Blk.cell h 1
/-- What a reader notes. -/
def stp (e : Int) (ok : Bool) (x : Int) : Int := if ok = false ∧ e = 0 then x else e
theorem test_walk (w : World) (r g : Nat) (e x : Int) (ok : Bool) (h : Rdr w r g e) :
    Calls Tryd.prog 34 #[.pointer (some ⟨r, 0, none⟩), .bool ok, .int .i64 x] w fun ex w' => ex = .returned (.tuple #[]) ∧ Rdr w' r g (stp e ok x) ∧ Only r w w' := by
  have h1 := h.e_
  have hf := Blk.frozen h 1
  have H := Lib.hid h; clear h
  cases ok with
  | true =>
    go_enter Tryd.func34, Tryd.ntmps34
    go_wp2
    go_end0
    exact ⟨rfl, by simpa [stp] using H.out, Only.refl _ _⟩
  | false =>
    by_cases he : e = 0
    · subst he
      go_enter Tryd.func34, Tryd.ntmps34
      go_wp2
      go_end0
      refine ⟨rfl, Blk.set_ H.out 1 (.int .i64 x), ?_⟩
      exact (World.grownBy.refl w (some r)).trans ⟨rfl, rfl, rfl, by simp [World.setCell], fun i hi hne => Below.heap_setCell w ⟨r, 1, none⟩ _ i (fun e => hne (by rw [e]))⟩
    · have hd : (e == 0) = false := by simpa using he
      go_enter Tryd.func34, Tryd.ntmps34
      go_wp2
      go_end0
      exact ⟨rfl, by simpa [stp, he] using H.out, Only.refl _ _⟩
/-- A number read: where the cursor then is, what was met, the number. -/
def nxA (s : ByteArray) (n a : Nat) : Nat := if a + n ≤ s.size then a + n else a
def nxE (s : ByteArray) (n a : Nat) (e : Int) : Int := if a + n ≤ s.size then e else if e = 0 then 4 else e
def nxV (s : ByteArray) (n a : Nat) (e : Int) : Int := if nxE s n a e = 0 then numL (s.extract a (a + n)).data.toList else 0
theorem num_walkR (n : Nat) (h1 : 1 ≤ n) (h4 : n ≤ 4) (w : World) (r g a : Nat) (s : ByteArray) (e : Int) (hs : s.size ≤ 140737488351232) (ha : a ≤ s.size) (hne : r ≠ g) (hr : Rdr w r g e) (hc : Cur w g s a) :
    Calls Tryd.prog 31 #[.pointer (some ⟨r, 0, none⟩), .int .i64 n] w fun ex w' => ex = .returned (.int .i64 (nxV s n a e)) ∧ Rdr w' r g (nxE s n a e) ∧ Cur w' g s (nxA s n a) ∧ Two g r w w' := by
  have c0 := hr.g_
  have HR := Lib.hid hr
  have HC := Lib.hid hc
  clear hr hc
  by_cases hn : a + n ≤ s.size
  · obtain ⟨y, hy⟩ : ∃ y, y = numL (s.extract a (a + n)).data.toList := ⟨_, rfl⟩
    have hN := num_ok n h1 h4 w g a s hs HC.out hn
    rw [← hy] at hN
    have HN := Lib.hid hN; clear hN
    have hV : nxV s n a e = if e = 0 then y else 0 := by simp [nxV, nxE, hn, hy]
    have hE : nxE s n a e = e := by simp [nxE, hn]
    have hA : nxA s n a = a + n := by simp [nxA, hn]
    rw [hV, hE, hA]
    clear hV hE hA hn
    have Hy := Lib.hid hy; clear hy
    by_cases he : e = 0
    · subst he
      go_enter Tryd.func31, Tryd.ntmps31
      go_wp2_with (first | (go_at_call 56; refine HN.out.mono ?_; rintro ex w1 ⟨rfl, hc1, ho1⟩; have HC1 := Lib.hid hc1; have HR1 : Hid (Rdr w1 r g 0) := Lib.hid (ho1.blk HR.out hne); have HO1 := Lib.hid ho1; clear hc1 ho1) | (go_at_call 34; refine (test_walk _ r g 0 4 true HR1.out).mono ?_; rintro ex w2 ⟨rfl, hr2, ho2⟩; have c2 : w2.cell? ⟨r, 1, none⟩ = some (.int .i64 0) := Rdr.e_ hr2; have HR2 := Lib.hid hr2; have HC2 : Hid (Cur w2 g s (a + n)) := Lib.hid (ho2.blk HC1.out hne.symm); have HO2 := Lib.hid ho2; clear hr2 ho2))
      go_ret
      exact ⟨by simp, HR2.out, HC2.out, (Two.one HO1.out).trans (Two.two HO2.out)⟩
    · have hd : (e == 0) = false := by simpa using he
      have hst : stp e true 4 = e := by simp [stp]
      go_enter Tryd.func31, Tryd.ntmps31
      go_wp2_with (first | (go_at_call 56; refine HN.out.mono ?_; rintro ex w1 ⟨rfl, hc1, ho1⟩; have HC1 := Lib.hid hc1; have HR1 : Hid (Rdr w1 r g e) := Lib.hid (ho1.blk HR.out hne); have HO1 := Lib.hid ho1; clear hc1 ho1) | (go_at_call 34; refine (test_walk _ r g e 4 true HR1.out).mono ?_; rintro ex w2 ⟨rfl, hr2, ho2⟩; rw [hst] at hr2; have c2 : w2.cell? ⟨r, 1, none⟩ = some (.int .i64 e) := Rdr.e_ hr2; have HR2 := Lib.hid hr2; have HC2 : Hid (Cur w2 g s (a + n)) := Lib.hid (ho2.blk HC1.out hne.symm); have HO2 := Lib.hid ho2; clear hr2 ho2))
      go_ret
      exact ⟨by simp [he], HR2.out, HC2.out, (Two.one HO1.out).trans (Two.two HO2.out)⟩
  · have hN := num_short n h1 h4 w g a s hs ha HC.out (by omega)
    have HN := Lib.hid hN; clear hN
    obtain ⟨e2, he2⟩ : ∃ e2, e2 = stp e false 4 := ⟨_, rfl⟩
    have hE : nxE s n a e = e2 := by simp [nxE, hn, he2, stp]
    have hz : e2 ≠ 0 := by rw [he2]; unfold stp; split <;> rename_i hq <;> simp at hq ⊢ <;> omega
    have hV : nxV s n a e = 0 := by simp [nxV, hE, hz]
    have hA : nxA s n a = a := by simp [nxA, hn]
    rw [hV, hE, hA]
    clear hV hE hA hn
    have hd : (e2 == 0) = false := by simpa using hz
    have He2 := Lib.hid he2; clear he2
    go_enter Tryd.func31, Tryd.ntmps31
    go_wp2_with (first | (go_at_call 56; refine HN.out.mono ?_; rintro ex w1 ⟨rfl, rfl⟩; have HR1 : Hid (Rdr w.drew r g e) := HR) | (go_at_call 34; refine (test_walk _ r g e 4 false HR1.out).mono ?_; rintro ex w2 ⟨rfl, hr2, ho2⟩; rw [← He2.out] at hr2; have c2 : w2.cell? ⟨r, 1, none⟩ = some (.int .i64 e2) := Rdr.e_ hr2; have HR2 := Lib.hid hr2; have HC2 : Hid (Cur w2 g s a) := Lib.hid (ho2.blk (Cur.drew HC.out) hne.symm); have HO2 := Lib.hid ho2; clear hr2 ho2))
    go_ret
    exact ⟨rfl, HR2.out, HC2.out, (Two.one (Only.drew g w)).trans (Two.two HO2.out)⟩
end Go.Proofs.YthibnhgbgmpjoaaDoor
namespace Go.Proofs.YthibnhgbgmpjoaaDoor
open Go.RowKit
set_option linter.unusedSimpArgs false
set_option linter.unusedVariables false
theorem nxV_bd (s : ByteArray) (a : Nat) (e : Int) : 0 ≤ nxV s 1 a e ∧ nxV s 1 a e < 256 := by
  unfold nxV
  split
  · refine ⟨(numL_bd _).1, ?_⟩
    exact numL_lt _ 1 (by simp; omega)
  · omega
theorem and15 (y : Int) (h0 : 0 ≤ y) (h1 : y < 256) : bits .and .i64 y 15 = y % 16 := by
  obtain ⟨k, rfl⟩ : ∃ k : Nat, y = k := ⟨y.toNat, by omega⟩
  have hk : k < 256 := by omega
  have h : ∀ k : Fin 256, bits .and .i64 ((k.val : Nat) : Int) 15 = ((k.val : Nat) : Int) % 16 := by decide +kernel
  exact h ⟨k, hk⟩
theorem halves_walk (w : World) (r g a : Nat) (s : ByteArray) (e : Int) (hs : s.size ≤ 140737488351232) (ha : a ≤ s.size) (hne : r ≠ g) (hr : Rdr w r g e) (hc : Cur w g s a) :
    Calls Tryd.prog 52 #[.pointer (some ⟨r, 0, none⟩)] w fun ex w' => ex = .returned (.tuple #[.int .i64 (nxV s 1 a e / 16), .int .i64 (nxV s 1 a e % 16)]) ∧ Rdr w' r g (nxE s 1 a e) ∧ Cur w' g s (nxA s 1 a) ∧ Two g r w w' := by
  have HN := Lib.hid (num_walkR 1 (by decide) (by decide) w r g a s e hs ha hne hr hc)
  clear hr hc
  go_enter Tryd.func52, Tryd.ntmps52
  go_wp2_with (first | (go_at_call 31; refine HN.out.mono ?_; rintro ex w1 ⟨rfl, hr1, hc1, ht1⟩; have HR := Lib.hid hr1; have HC := Lib.hid hc1; have HT := Lib.hid ht1; clear hr1 hc1 ht1))
  go_ret2
  exact ⟨by rw [and15 _ (nxV_bd s a e).1 (nxV_bd s a e).2]; rfl, HR.out, HC.out, HT.out⟩
/-- Bytes read: where the cursor then is, what was met, the bytes. -/
def txA (s : ByteArray) (n : Int) (a : Nat) : Nat := if 0 ≤ n ∧ n ≤ (s.size : Int) - a then a + n.toNat else a
def txE (s : ByteArray) (n : Int) (a : Nat) (e : Int) : Int := if 0 ≤ n ∧ n ≤ (s.size : Int) - a then e else if e = 0 then 4 else e
def txV (s : ByteArray) (n : Int) (a : Nat) : ByteArray := if 0 ≤ n ∧ n ≤ (s.size : Int) - a then s.extract a (a + n.toNat) else ⟨#[]⟩
theorem text_walk (n : Nat) (w : World) (r g a : Nat) (s : ByteArray) (e : Int) (hs : s.size ≤ 140737488351232) (ha : a ≤ s.size) (hne : r ≠ g) (hr : Rdr w r g e) (hc : Cur w g s a) :
    Calls Tryd.prog 54 #[.pointer (some ⟨r, 0, none⟩), .int .i64 n] w fun ex w' => ex = .returned (.string (txV s n a)) ∧ Rdr w' r g (txE s n a e) ∧ Cur w' g s (txA s n a) ∧ Two g r w w' := by
  have c0 := hr.g_
  have HR := Lib.hid hr
  have HC := Lib.hid hc
  clear hr hc
  by_cases hn : a + n ≤ s.size
  · have hN := take_ok n w g a s hs HC.out hn
    have hq : 0 ≤ (n : Int) ∧ (n : Int) ≤ (s.size : Int) - a := by omega
    have hV : txV s n a = s.extract a (a + n) := by simp [txV, hq]
    have hE : txE s n a e = e := by simp [txE, hq]
    have hA : txA s n a = a + n := by simp [txA, hq]
    rw [hV, hE, hA]
    obtain ⟨y, hy⟩ : ∃ y, y = s.extract a (a + n) := ⟨_, rfl⟩
    rw [← hy] at hN ⊢
    have HN := Lib.hid hN; clear hN
    clear hV hE hA hn hq hy
    have hst : stp e true 4 = e := by simp [stp]
    go_enter Tryd.func54, Tryd.ntmps54
    go_wp2_with (first | (go_at_call 57; refine HN.out.mono ?_; rintro ex w1 ⟨rfl, hc1, ho1⟩; have HC1 := Lib.hid hc1; have HR1 : Hid (Rdr w1 r g e) := Lib.hid (ho1.blk HR.out hne); have HO1 := Lib.hid ho1; clear hc1 ho1) | (go_at_call 34; refine (test_walk _ r g e 4 true HR1.out).mono ?_; rintro ex w2 ⟨rfl, hr2, ho2⟩; rw [hst] at hr2; have HR2 := Lib.hid hr2; have HC2 : Hid (Cur w2 g s (a + n)) := Lib.hid (ho2.blk HC1.out hne.symm); have HO2 := Lib.hid ho2; clear hr2 ho2))
    go_ret
    exact ⟨rfl, HR2.out, HC2.out, (Two.one HO1.out).trans (Two.two HO2.out)⟩
  · have hN := take_short n w g a s hs ha HC.out (by omega)
    have hq : ¬ (0 ≤ (n : Int) ∧ (n : Int) ≤ (s.size : Int) - a) := by omega
    have hV : txV s n a = ⟨#[]⟩ := by simp only [txV, if_neg hq]
    have hE : txE s n a e = stp e false 4 := by simp only [txE, if_neg hq, stp]; simp
    have hA : txA s n a = a := by simp only [txA, if_neg hq]
    rw [hV, hE, hA]
    have HN := Lib.hid hN; clear hN
    clear hV hE hA hn hq
    go_enter Tryd.func54, Tryd.ntmps54
    go_wp2_with (first | (go_at_call 57; refine HN.out.mono ?_; rintro ex w1 ⟨rfl, rfl⟩; have HR1 : Hid (Rdr w.drew r g e) := HR) | (go_at_call 34; refine (test_walk _ r g e 4 false HR1.out).mono ?_; rintro ex w2 ⟨rfl, hr2, ho2⟩; have HR2 := Lib.hid hr2; have HC2 : Hid (Cur w2 g s a) := Lib.hid (ho2.blk (Cur.drew HC.out) hne.symm); have HO2 := Lib.hid ho2; clear hr2 ho2))
    go_ret
    exact ⟨rfl, HR2.out, HC2.out, (Two.one (Only.drew g w)).trans (Two.two HO2.out)⟩
/-- What Parse says to a code alone. -/
def mayC (c : Int) : Int :=
  if c < 192 ∨ 254 < c then 3 else if 208 ≤ c ∧ c ≤ 217 then 1 else if 194 < c ∧ c ≤ 207 ∧ c ≠ 196 then 6 else if 219 < c ∧ c < 224 ∧ c ≠ 221 then 6 else if 239 < c ∧ c < 254 then 6 else 0
theorem may_walk (c : Int) (w : World) :
    Calls Tryd.prog 26 #[.int .i64 c] w fun ex w' => ex = .returned (.int .i64 (mayC c)) ∧ w = w' := by
  go_enter Tryd.func26, Tryd.ntmps26
  go_wp2
  all_goals
    go_ret
    refine ⟨?_, rfl⟩
    congr 2
    unfold mayC
    simp at *
    (repeat' split) <;> omega
end Go.Proofs.YthibnhgbgmpjoaaDoor

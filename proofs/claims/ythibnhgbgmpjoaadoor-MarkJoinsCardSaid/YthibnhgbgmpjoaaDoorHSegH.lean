/- Bytes of a segment of each type (gen_segh.py). -/
import Derived.Test.YthibnhgbgmpjoaaDoorHSegD
import Derived.Test.YthibnhgbgmpjoaaDoorHGE
import Derived.Test.YthibnhgbgmpjoaaDoorHSegT
import Derived.Handy
namespace Go.Proofs.YthibnhgbgmpjoaaDoor
open Go.RowKit
set_option linter.unusedSimpArgs false
set_option linter.unusedVariables false
set_option maxRecDepth 100000
/-- A body is written by w to b: L, bad. -/
def BodyK (w : World) (sv : Value) (L : List UInt8) (bad : Bool) : Prop := ∀ w1, Below w.heap.size w w1 → Wtr w.heap.size (w.heap.size + 1) [] false w1 → Calls Tryd.prog 22 #[.pointer (some ⟨w.heap.size + 1, 0, none⟩), sv] w1 fun e w' => e = .returned (.bool true) ∧ Wtr w.heap.size (w.heap.size + 1) L bad w' ∧ Below w.heap.size w w'
def ParseK (w : World) (c : Int) (L : List UInt8) (er : Int) : Prop := ∀ w1, Below w.heap.size w w1 → Calls Tryd.prog 14 #[.int .i64 c, .string ⟨L.toArray⟩] w1 fun e w' => (∃ x, e = .returned (.tuple #[x, .int .i64 er])) ∧ Below w1.heap.size w1 w'
theorem wtr_new (w : World) (z : Array Value) (t : TypeId) : Wtr w.heap.size (w.heap.size + 1) [] false ((w.alloc (.cells z t)).alloc (.cells #[.pointer none, .slice none 0 0, .bool false] 77)) := by
  have := Blk.new (w.alloc (.cells z t)) 77 #[.pointer none, .slice none 0 0, .bool false]
  rw [show (w.alloc (.cells z t)).heap.size = w.heap.size + 1 from World.size_alloc _ _] at this
  exact .inl ⟨by omega, by rw [World.size_alloc, World.size_alloc]; omega, _, this, ⟨by simp [Lib.byteCells], .inl ⟨rfl, rfl⟩⟩, by simp [Value.ownBlock]⟩
theorem put2_any (n : Int) (w : World) : ∃ er : Int, Calls Tryd.prog 24 #[.int .i64 n, .int .i64 2] w fun e w' => e = .returned (.tuple #[.string ⟨(putL n 2).toArray⟩, .int .i64 er]) ∧ Below w.heap.size w w' := by
  obtain ⟨er, _, h⟩ := put_any n 2 (by decide) (by decide) w
  exact ⟨er, h⟩
theorem putL_size (n : Int) (m : Nat) : (⟨(putL n m).toArray⟩ : ByteArray).size ≤ m := by
  unfold putL; split <;> simp [ByteArray.size, byL_length]
theorem below2 (w : World) (o o' : Obj) : Below w.heap.size w ((w.alloc o).alloc o') := ((Below.refl w.heap.size w).alloc (Nat.le_refl _) _).alloc ((Below.refl w.heap.size w).alloc (Nat.le_refl _) _).size _
set_option maxHeartbeats 1000000 in
theorem bytesBad_Plain (v : Value) (L : List UInt8) (w : World) (hb : BodyK w (.iface 97 v) L true) :
    Calls Tryd.prog 11 #[.iface 97 v] w fun e w' => e = .returned (.tuple #[.string ⟨#[]⟩, .int .i64 1]) ∧ Below w.heap.size w w' := by
  have HB := Lib.hid hb; clear hb
  go_enter Tryd.func11, Tryd.ntmps11
  go_wp2_with (go_at_call 22; refine (HB.out _ (below2 _ _ _) (wtr_new _ _ _)).mono ?_; rintro ex w2 ⟨rfl, h2, hb2⟩; have HW2 := Lib.hid h2; have HB2 := Lib.hid hb2; obtain ⟨p, v2, hk⟩ := h2.bad; have c2 : w2.cell? ⟨w.heap.size + 1, 2, none⟩ = some (.bool true) := hk.cell 2; clear h2 hb2 hk)
  go_ret2
  exact ⟨rfl, HB2.out⟩
set_option maxHeartbeats 1000000 in
theorem bytesErr_Plain (v : Value) (c er : Int) (he : er ≠ 0) (L : List UInt8) (w : World) (hb : BodyK w (.iface 97 v) L false) (hc : ∀ w1, Calls Tryd.prog 84 #[v] w1 fun e w' => e = .returned (.int .i64 c) ∧ Below w1.heap.size w1 w') (hp : ParseK w c L er) :
    Calls Tryd.prog 11 #[.iface 97 v] w fun e w' => e = .returned (.tuple #[.string ⟨#[]⟩, .int .i64 1]) ∧ Below w.heap.size w w' := by
  have HB := Lib.hid hb; clear hb
  have HC := Lib.hid hc; clear hc
  have HP := Lib.hid hp; clear hp
  have hd : (er == 0) = false := by simpa using he
  clear he
  go_enter Tryd.func11, Tryd.ntmps11
  go_wp2_with (first | (go_at_call 22; refine (HB.out _ (below2 _ _ _) (wtr_new _ _ _)).mono ?_; rintro ex w2 ⟨rfl, h2, hb2⟩; have HW2 := Lib.hid h2; have HB2 := Lib.hid hb2; obtain ⟨p, v2, hk⟩ := h2.bad; have c2 : w2.cell? ⟨w.heap.size + 1, 2, none⟩ = some (.bool false) := hk.cell 2; clear h2 hb2 hk) | (go_at_call 23; refine (string_walk _ _ _ _ _ HW2.out).mono ?_; rintro ex w3 ⟨rfl, hb3⟩; have HB3 := Lib.hid (HB2.out.trans hb3); clear hb3) | (go_at_call 84; refine (HC.out _).mono ?_; rintro ex w4 ⟨rfl, hb4⟩; have HB4 := Lib.hid (HB3.out.trans (hb4.mono HB3.out.size)); clear hb4) | (go_at_call 14; refine (HP.out _ HB4.out).mono ?_; rintro ex w5 ⟨⟨x5, rfl⟩, hb5⟩; have HB5 := Lib.hid (HB4.out.trans (hb5.mono HB4.out.size)); clear hb5))
  go_ret2
  exact ⟨rfl, HB5.out⟩
set_option maxHeartbeats 1000000 in
theorem bytesOk_Plain (v : Value) (c : Int) (L : List UInt8) (hL : L.length ≤ 65533) (w : World) (hb : BodyK w (.iface 97 v) L false) (hc : ∀ w1, Calls Tryd.prog 84 #[v] w1 fun e w' => e = .returned (.int .i64 c) ∧ Below w1.heap.size w1 w') (hp : ParseK w c L 0) :
    Calls Tryd.prog 11 #[.iface 97 v] w fun e w' => e = .returned (.tuple #[.string (⟨(putL (bits .or .i64 65280 c) 2).toArray⟩ ++ ⟨(putL (L.length + 2 : Nat) 2).toArray⟩ ++ ⟨L.toArray⟩), .int .i64 0]) ∧ Below w.heap.size w w' := by
  have HB := Lib.hid hb; clear hb
  have HC := Lib.hid hc; clear hc
  have HP := Lib.hid hp; clear hp
  obtain ⟨m, hm⟩ : ∃ m : Nat, m = L.length := ⟨_, rfl⟩
  have hsz : (⟨L.toArray⟩ : ByteArray).size = m := by simp [ByteArray.size, hm]
  rw [← hm] at hL ⊢
  have HM := Lib.hid hm; clear hm
  have hh := put2_any (bits .or .i64 65280 c)
  have hs := put2_any ((m + 2 : Nat) : Int)
  obtain ⟨q1, hq1⟩ : ∃ q, q = putL (bits .or .i64 65280 c) 2 := ⟨_, rfl⟩
  obtain ⟨q2, hq2⟩ : ∃ q, q = putL ((m + 2 : Nat) : Int) 2 := ⟨_, rfl⟩
  have hz1 : (⟨q1.toArray⟩ : ByteArray).size ≤ 2 := by rw [hq1]; exact putL_size _ _
  have hz2 : (⟨q2.toArray⟩ : ByteArray).size ≤ 2 := by rw [hq2]; exact putL_size _ _
  have hz3 : ((⟨q1.toArray⟩ : ByteArray) ++ (⟨q2.toArray⟩ : ByteArray)).size ≤ 4 := by rw [ByteArray.size_append]; omega
  rw [← hq1] at hh ⊢
  rw [← hq2] at hs ⊢
  have HH := Lib.hid hh
  have HS := Lib.hid hs
  clear hq1 hq2 hh hs
  go_enter Tryd.func11, Tryd.ntmps11
  go_wp2_with (first | (go_at_call 22; refine (HB.out _ (below2 _ _ _) (wtr_new _ _ _)).mono ?_; rintro ex w2 ⟨rfl, h2, hb2⟩; have HW2 := Lib.hid h2; have HB2 := Lib.hid hb2; obtain ⟨p, v2, hk⟩ := h2.bad; have c2 : w2.cell? ⟨w.heap.size + 1, 2, none⟩ = some (.bool false) := hk.cell 2; clear h2 hb2 hk) | (go_at_call 23; refine (string_walk _ _ _ _ _ HW2.out).mono ?_; rintro ex w3 ⟨rfl, hb3⟩; have HB3 := Lib.hid (HB2.out.trans hb3); clear hb3) | (go_at_call 84; refine (HC.out _).mono ?_; rintro ex w4 ⟨rfl, hb4⟩; have HB4 := Lib.hid (HB3.out.trans (hb4.mono HB3.out.size)); clear hb4) | (go_at_call 14; refine (HP.out _ HB4.out).mono ?_; rintro ex w5 ⟨⟨x5, rfl⟩, hb5⟩; have HB5 := Lib.hid (HB4.out.trans (hb5.mono HB4.out.size)); clear hb5))
  refine (HC.out _).mono ?_
  rintro ex w6 ⟨rfl, hb6⟩
  have HB6 := Lib.hid (HB5.out.trans (hb6.mono HB5.out.size)); clear hb6
  obtain ⟨er1, hp1⟩ := HH.out w6
  have HP1 := Lib.hid hp1; clear hp1
  go_wp2_with (go_at_call 24; ((with_reducible refine HP1.out.mono ?_); skip); rintro ex w7 ⟨rfl, hb7⟩; have HB7 := Lib.hid (HB6.out.trans (hb7.mono HB6.out.size)); clear hb7)
  have e2 : ((m : Int) + 2) = ((m + 2 : Nat) : Int) := by omega
  rw [e2]
  clear e2
  obtain ⟨er2, hp2⟩ := HS.out w7
  have HP2 := Lib.hid hp2; clear hp2
  refine HP2.out.mono ?_
  rintro ex w8 ⟨rfl, hb8⟩
  have HB8 := Lib.hid (HB7.out.trans (hb8.mono HB7.out.size)); clear hb8
  go_wp2
  go_ret2
  exact ⟨rfl, HB8.out⟩
set_option maxHeartbeats 1000000 in
theorem bytesBad_Quants (v : Value) (L : List UInt8) (w : World) (hb : BodyK w (.iface 115 v) L true) :
    Calls Tryd.prog 11 #[.iface 115 v] w fun e w' => e = .returned (.tuple #[.string ⟨#[]⟩, .int .i64 1]) ∧ Below w.heap.size w w' := by
  have HB := Lib.hid hb; clear hb
  go_enter Tryd.func11, Tryd.ntmps11
  go_wp2_with (go_at_call 22; refine (HB.out _ (below2 _ _ _) (wtr_new _ _ _)).mono ?_; rintro ex w2 ⟨rfl, h2, hb2⟩; have HW2 := Lib.hid h2; have HB2 := Lib.hid hb2; obtain ⟨p, v2, hk⟩ := h2.bad; have c2 : w2.cell? ⟨w.heap.size + 1, 2, none⟩ = some (.bool true) := hk.cell 2; clear h2 hb2 hk)
  go_ret2
  exact ⟨rfl, HB2.out⟩
set_option maxHeartbeats 1000000 in
theorem bytesErr_Quants (v : Value) (c er : Int) (he : er ≠ 0) (L : List UInt8) (w : World) (hb : BodyK w (.iface 115 v) L false) (hc : ∀ w1, Calls Tryd.prog 86 #[v] w1 fun e w' => e = .returned (.int .i64 c) ∧ Below w1.heap.size w1 w') (hp : ParseK w c L er) :
    Calls Tryd.prog 11 #[.iface 115 v] w fun e w' => e = .returned (.tuple #[.string ⟨#[]⟩, .int .i64 1]) ∧ Below w.heap.size w w' := by
  have HB := Lib.hid hb; clear hb
  have HC := Lib.hid hc; clear hc
  have HP := Lib.hid hp; clear hp
  have hd : (er == 0) = false := by simpa using he
  clear he
  go_enter Tryd.func11, Tryd.ntmps11
  go_wp2_with (first | (go_at_call 22; refine (HB.out _ (below2 _ _ _) (wtr_new _ _ _)).mono ?_; rintro ex w2 ⟨rfl, h2, hb2⟩; have HW2 := Lib.hid h2; have HB2 := Lib.hid hb2; obtain ⟨p, v2, hk⟩ := h2.bad; have c2 : w2.cell? ⟨w.heap.size + 1, 2, none⟩ = some (.bool false) := hk.cell 2; clear h2 hb2 hk) | (go_at_call 23; refine (string_walk _ _ _ _ _ HW2.out).mono ?_; rintro ex w3 ⟨rfl, hb3⟩; have HB3 := Lib.hid (HB2.out.trans hb3); clear hb3) | (go_at_call 86; refine (HC.out _).mono ?_; rintro ex w4 ⟨rfl, hb4⟩; have HB4 := Lib.hid (HB3.out.trans (hb4.mono HB3.out.size)); clear hb4) | (go_at_call 14; refine (HP.out _ HB4.out).mono ?_; rintro ex w5 ⟨⟨x5, rfl⟩, hb5⟩; have HB5 := Lib.hid (HB4.out.trans (hb5.mono HB4.out.size)); clear hb5))
  go_ret2
  exact ⟨rfl, HB5.out⟩
set_option maxHeartbeats 1000000 in
theorem bytesOk_Quants (v : Value) (c : Int) (L : List UInt8) (hL : L.length ≤ 65533) (w : World) (hb : BodyK w (.iface 115 v) L false) (hc : ∀ w1, Calls Tryd.prog 86 #[v] w1 fun e w' => e = .returned (.int .i64 c) ∧ Below w1.heap.size w1 w') (hp : ParseK w c L 0) :
    Calls Tryd.prog 11 #[.iface 115 v] w fun e w' => e = .returned (.tuple #[.string (⟨(putL (bits .or .i64 65280 c) 2).toArray⟩ ++ ⟨(putL (L.length + 2 : Nat) 2).toArray⟩ ++ ⟨L.toArray⟩), .int .i64 0]) ∧ Below w.heap.size w w' := by
  have HB := Lib.hid hb; clear hb
  have HC := Lib.hid hc; clear hc
  have HP := Lib.hid hp; clear hp
  obtain ⟨m, hm⟩ : ∃ m : Nat, m = L.length := ⟨_, rfl⟩
  have hsz : (⟨L.toArray⟩ : ByteArray).size = m := by simp [ByteArray.size, hm]
  rw [← hm] at hL ⊢
  have HM := Lib.hid hm; clear hm
  have hh := put2_any (bits .or .i64 65280 c)
  have hs := put2_any ((m + 2 : Nat) : Int)
  obtain ⟨q1, hq1⟩ : ∃ q, q = putL (bits .or .i64 65280 c) 2 := ⟨_, rfl⟩
  obtain ⟨q2, hq2⟩ : ∃ q, q = putL ((m + 2 : Nat) : Int) 2 := ⟨_, rfl⟩
  have hz1 : (⟨q1.toArray⟩ : ByteArray).size ≤ 2 := by rw [hq1]; exact putL_size _ _
  have hz2 : (⟨q2.toArray⟩ : ByteArray).size ≤ 2 := by rw [hq2]; exact putL_size _ _
  have hz3 : ((⟨q1.toArray⟩ : ByteArray) ++ (⟨q2.toArray⟩ : ByteArray)).size ≤ 4 := by rw [ByteArray.size_append]; omega
  rw [← hq1] at hh ⊢
  rw [← hq2] at hs ⊢
  have HH := Lib.hid hh
  have HS := Lib.hid hs
  clear hq1 hq2 hh hs
  go_enter Tryd.func11, Tryd.ntmps11
  go_wp2_with (first | (go_at_call 22; refine (HB.out _ (below2 _ _ _) (wtr_new _ _ _)).mono ?_; rintro ex w2 ⟨rfl, h2, hb2⟩; have HW2 := Lib.hid h2; have HB2 := Lib.hid hb2; obtain ⟨p, v2, hk⟩ := h2.bad; have c2 : w2.cell? ⟨w.heap.size + 1, 2, none⟩ = some (.bool false) := hk.cell 2; clear h2 hb2 hk) | (go_at_call 23; refine (string_walk _ _ _ _ _ HW2.out).mono ?_; rintro ex w3 ⟨rfl, hb3⟩; have HB3 := Lib.hid (HB2.out.trans hb3); clear hb3) | (go_at_call 86; refine (HC.out _).mono ?_; rintro ex w4 ⟨rfl, hb4⟩; have HB4 := Lib.hid (HB3.out.trans (hb4.mono HB3.out.size)); clear hb4) | (go_at_call 14; refine (HP.out _ HB4.out).mono ?_; rintro ex w5 ⟨⟨x5, rfl⟩, hb5⟩; have HB5 := Lib.hid (HB4.out.trans (hb5.mono HB4.out.size)); clear hb5))
  refine (HC.out _).mono ?_
  rintro ex w6 ⟨rfl, hb6⟩
  have HB6 := Lib.hid (HB5.out.trans (hb6.mono HB5.out.size)); clear hb6
  obtain ⟨er1, hp1⟩ := HH.out w6
  have HP1 := Lib.hid hp1; clear hp1
  go_wp2_with (go_at_call 24; ((with_reducible refine HP1.out.mono ?_); skip); rintro ex w7 ⟨rfl, hb7⟩; have HB7 := Lib.hid (HB6.out.trans (hb7.mono HB6.out.size)); clear hb7)
  have e2 : ((m : Int) + 2) = ((m + 2 : Nat) : Int) := by omega
  rw [e2]
  clear e2
  obtain ⟨er2, hp2⟩ := HS.out w7
  have HP2 := Lib.hid hp2; clear hp2
  refine HP2.out.mono ?_
  rintro ex w8 ⟨rfl, hb8⟩
  have HB8 := Lib.hid (HB7.out.trans (hb8.mono HB7.out.size)); clear hb8
  go_wp2
  go_ret2
  exact ⟨rfl, HB8.out⟩
set_option maxHeartbeats 1000000 in
theorem bytesBad_Huffs (v : Value) (L : List UInt8) (w : World) (hb : BodyK w (.iface 119 v) L true) :
    Calls Tryd.prog 11 #[.iface 119 v] w fun e w' => e = .returned (.tuple #[.string ⟨#[]⟩, .int .i64 1]) ∧ Below w.heap.size w w' := by
  have HB := Lib.hid hb; clear hb
  go_enter Tryd.func11, Tryd.ntmps11
  go_wp2_with (go_at_call 22; refine (HB.out _ (below2 _ _ _) (wtr_new _ _ _)).mono ?_; rintro ex w2 ⟨rfl, h2, hb2⟩; have HW2 := Lib.hid h2; have HB2 := Lib.hid hb2; obtain ⟨p, v2, hk⟩ := h2.bad; have c2 : w2.cell? ⟨w.heap.size + 1, 2, none⟩ = some (.bool true) := hk.cell 2; clear h2 hb2 hk)
  go_ret2
  exact ⟨rfl, HB2.out⟩
set_option maxHeartbeats 1000000 in
theorem bytesErr_Huffs (v : Value) (c er : Int) (he : er ≠ 0) (L : List UInt8) (w : World) (hb : BodyK w (.iface 119 v) L false) (hc : ∀ w1, Calls Tryd.prog 87 #[v] w1 fun e w' => e = .returned (.int .i64 c) ∧ Below w1.heap.size w1 w') (hp : ParseK w c L er) :
    Calls Tryd.prog 11 #[.iface 119 v] w fun e w' => e = .returned (.tuple #[.string ⟨#[]⟩, .int .i64 1]) ∧ Below w.heap.size w w' := by
  have HB := Lib.hid hb; clear hb
  have HC := Lib.hid hc; clear hc
  have HP := Lib.hid hp; clear hp
  have hd : (er == 0) = false := by simpa using he
  clear he
  go_enter Tryd.func11, Tryd.ntmps11
  go_wp2_with (first | (go_at_call 22; refine (HB.out _ (below2 _ _ _) (wtr_new _ _ _)).mono ?_; rintro ex w2 ⟨rfl, h2, hb2⟩; have HW2 := Lib.hid h2; have HB2 := Lib.hid hb2; obtain ⟨p, v2, hk⟩ := h2.bad; have c2 : w2.cell? ⟨w.heap.size + 1, 2, none⟩ = some (.bool false) := hk.cell 2; clear h2 hb2 hk) | (go_at_call 23; refine (string_walk _ _ _ _ _ HW2.out).mono ?_; rintro ex w3 ⟨rfl, hb3⟩; have HB3 := Lib.hid (HB2.out.trans hb3); clear hb3) | (go_at_call 87; refine (HC.out _).mono ?_; rintro ex w4 ⟨rfl, hb4⟩; have HB4 := Lib.hid (HB3.out.trans (hb4.mono HB3.out.size)); clear hb4) | (go_at_call 14; refine (HP.out _ HB4.out).mono ?_; rintro ex w5 ⟨⟨x5, rfl⟩, hb5⟩; have HB5 := Lib.hid (HB4.out.trans (hb5.mono HB4.out.size)); clear hb5))
  go_ret2
  exact ⟨rfl, HB5.out⟩
set_option maxHeartbeats 1000000 in
theorem bytesOk_Huffs (v : Value) (c : Int) (L : List UInt8) (hL : L.length ≤ 65533) (w : World) (hb : BodyK w (.iface 119 v) L false) (hc : ∀ w1, Calls Tryd.prog 87 #[v] w1 fun e w' => e = .returned (.int .i64 c) ∧ Below w1.heap.size w1 w') (hp : ParseK w c L 0) :
    Calls Tryd.prog 11 #[.iface 119 v] w fun e w' => e = .returned (.tuple #[.string (⟨(putL (bits .or .i64 65280 c) 2).toArray⟩ ++ ⟨(putL (L.length + 2 : Nat) 2).toArray⟩ ++ ⟨L.toArray⟩), .int .i64 0]) ∧ Below w.heap.size w w' := by
  have HB := Lib.hid hb; clear hb
  have HC := Lib.hid hc; clear hc
  have HP := Lib.hid hp; clear hp
  obtain ⟨m, hm⟩ : ∃ m : Nat, m = L.length := ⟨_, rfl⟩
  have hsz : (⟨L.toArray⟩ : ByteArray).size = m := by simp [ByteArray.size, hm]
  rw [← hm] at hL ⊢
  have HM := Lib.hid hm; clear hm
  have hh := put2_any (bits .or .i64 65280 c)
  have hs := put2_any ((m + 2 : Nat) : Int)
  obtain ⟨q1, hq1⟩ : ∃ q, q = putL (bits .or .i64 65280 c) 2 := ⟨_, rfl⟩
  obtain ⟨q2, hq2⟩ : ∃ q, q = putL ((m + 2 : Nat) : Int) 2 := ⟨_, rfl⟩
  have hz1 : (⟨q1.toArray⟩ : ByteArray).size ≤ 2 := by rw [hq1]; exact putL_size _ _
  have hz2 : (⟨q2.toArray⟩ : ByteArray).size ≤ 2 := by rw [hq2]; exact putL_size _ _
  have hz3 : ((⟨q1.toArray⟩ : ByteArray) ++ (⟨q2.toArray⟩ : ByteArray)).size ≤ 4 := by rw [ByteArray.size_append]; omega
  rw [← hq1] at hh ⊢
  rw [← hq2] at hs ⊢
  have HH := Lib.hid hh
  have HS := Lib.hid hs
  clear hq1 hq2 hh hs
  go_enter Tryd.func11, Tryd.ntmps11
  go_wp2_with (first | (go_at_call 22; refine (HB.out _ (below2 _ _ _) (wtr_new _ _ _)).mono ?_; rintro ex w2 ⟨rfl, h2, hb2⟩; have HW2 := Lib.hid h2; have HB2 := Lib.hid hb2; obtain ⟨p, v2, hk⟩ := h2.bad; have c2 : w2.cell? ⟨w.heap.size + 1, 2, none⟩ = some (.bool false) := hk.cell 2; clear h2 hb2 hk) | (go_at_call 23; refine (string_walk _ _ _ _ _ HW2.out).mono ?_; rintro ex w3 ⟨rfl, hb3⟩; have HB3 := Lib.hid (HB2.out.trans hb3); clear hb3) | (go_at_call 87; refine (HC.out _).mono ?_; rintro ex w4 ⟨rfl, hb4⟩; have HB4 := Lib.hid (HB3.out.trans (hb4.mono HB3.out.size)); clear hb4) | (go_at_call 14; refine (HP.out _ HB4.out).mono ?_; rintro ex w5 ⟨⟨x5, rfl⟩, hb5⟩; have HB5 := Lib.hid (HB4.out.trans (hb5.mono HB4.out.size)); clear hb5))
  refine (HC.out _).mono ?_
  rintro ex w6 ⟨rfl, hb6⟩
  have HB6 := Lib.hid (HB5.out.trans (hb6.mono HB5.out.size)); clear hb6
  obtain ⟨er1, hp1⟩ := HH.out w6
  have HP1 := Lib.hid hp1; clear hp1
  go_wp2_with (go_at_call 24; ((with_reducible refine HP1.out.mono ?_); skip); rintro ex w7 ⟨rfl, hb7⟩; have HB7 := Lib.hid (HB6.out.trans (hb7.mono HB6.out.size)); clear hb7)
  have e2 : ((m : Int) + 2) = ((m + 2 : Nat) : Int) := by omega
  rw [e2]
  clear e2
  obtain ⟨er2, hp2⟩ := HS.out w7
  have HP2 := Lib.hid hp2; clear hp2
  refine HP2.out.mono ?_
  rintro ex w8 ⟨rfl, hb8⟩
  have HB8 := Lib.hid (HB7.out.trans (hb8.mono HB7.out.size)); clear hb8
  go_wp2
  go_ret2
  exact ⟨rfl, HB8.out⟩
set_option maxHeartbeats 1000000 in
theorem bytesBad_Frame (v : Value) (L : List UInt8) (w : World) (hb : BodyK w (.iface 123 v) L true) :
    Calls Tryd.prog 11 #[.iface 123 v] w fun e w' => e = .returned (.tuple #[.string ⟨#[]⟩, .int .i64 1]) ∧ Below w.heap.size w w' := by
  have HB := Lib.hid hb; clear hb
  go_enter Tryd.func11, Tryd.ntmps11
  go_wp2_with (go_at_call 22; refine (HB.out _ (below2 _ _ _) (wtr_new _ _ _)).mono ?_; rintro ex w2 ⟨rfl, h2, hb2⟩; have HW2 := Lib.hid h2; have HB2 := Lib.hid hb2; obtain ⟨p, v2, hk⟩ := h2.bad; have c2 : w2.cell? ⟨w.heap.size + 1, 2, none⟩ = some (.bool true) := hk.cell 2; clear h2 hb2 hk)
  go_ret2
  exact ⟨rfl, HB2.out⟩
set_option maxHeartbeats 1000000 in
theorem bytesErr_Frame (v : Value) (c er : Int) (he : er ≠ 0) (L : List UInt8) (w : World) (hb : BodyK w (.iface 123 v) L false) (hc : ∀ w1, Calls Tryd.prog 88 #[v] w1 fun e w' => e = .returned (.int .i64 c) ∧ Below w1.heap.size w1 w') (hp : ParseK w c L er) :
    Calls Tryd.prog 11 #[.iface 123 v] w fun e w' => e = .returned (.tuple #[.string ⟨#[]⟩, .int .i64 1]) ∧ Below w.heap.size w w' := by
  have HB := Lib.hid hb; clear hb
  have HC := Lib.hid hc; clear hc
  have HP := Lib.hid hp; clear hp
  have hd : (er == 0) = false := by simpa using he
  clear he
  go_enter Tryd.func11, Tryd.ntmps11
  go_wp2_with (first | (go_at_call 22; refine (HB.out _ (below2 _ _ _) (wtr_new _ _ _)).mono ?_; rintro ex w2 ⟨rfl, h2, hb2⟩; have HW2 := Lib.hid h2; have HB2 := Lib.hid hb2; obtain ⟨p, v2, hk⟩ := h2.bad; have c2 : w2.cell? ⟨w.heap.size + 1, 2, none⟩ = some (.bool false) := hk.cell 2; clear h2 hb2 hk) | (go_at_call 23; refine (string_walk _ _ _ _ _ HW2.out).mono ?_; rintro ex w3 ⟨rfl, hb3⟩; have HB3 := Lib.hid (HB2.out.trans hb3); clear hb3) | (go_at_call 88; refine (HC.out _).mono ?_; rintro ex w4 ⟨rfl, hb4⟩; have HB4 := Lib.hid (HB3.out.trans (hb4.mono HB3.out.size)); clear hb4) | (go_at_call 14; refine (HP.out _ HB4.out).mono ?_; rintro ex w5 ⟨⟨x5, rfl⟩, hb5⟩; have HB5 := Lib.hid (HB4.out.trans (hb5.mono HB4.out.size)); clear hb5))
  go_ret2
  exact ⟨rfl, HB5.out⟩
set_option maxHeartbeats 1000000 in
theorem bytesOk_Frame (v : Value) (c : Int) (L : List UInt8) (hL : L.length ≤ 65533) (w : World) (hb : BodyK w (.iface 123 v) L false) (hc : ∀ w1, Calls Tryd.prog 88 #[v] w1 fun e w' => e = .returned (.int .i64 c) ∧ Below w1.heap.size w1 w') (hp : ParseK w c L 0) :
    Calls Tryd.prog 11 #[.iface 123 v] w fun e w' => e = .returned (.tuple #[.string (⟨(putL (bits .or .i64 65280 c) 2).toArray⟩ ++ ⟨(putL (L.length + 2 : Nat) 2).toArray⟩ ++ ⟨L.toArray⟩), .int .i64 0]) ∧ Below w.heap.size w w' := by
  have HB := Lib.hid hb; clear hb
  have HC := Lib.hid hc; clear hc
  have HP := Lib.hid hp; clear hp
  obtain ⟨m, hm⟩ : ∃ m : Nat, m = L.length := ⟨_, rfl⟩
  have hsz : (⟨L.toArray⟩ : ByteArray).size = m := by simp [ByteArray.size, hm]
  rw [← hm] at hL ⊢
  have HM := Lib.hid hm; clear hm
  have hh := put2_any (bits .or .i64 65280 c)
  have hs := put2_any ((m + 2 : Nat) : Int)
  obtain ⟨q1, hq1⟩ : ∃ q, q = putL (bits .or .i64 65280 c) 2 := ⟨_, rfl⟩
  obtain ⟨q2, hq2⟩ : ∃ q, q = putL ((m + 2 : Nat) : Int) 2 := ⟨_, rfl⟩
  have hz1 : (⟨q1.toArray⟩ : ByteArray).size ≤ 2 := by rw [hq1]; exact putL_size _ _
  have hz2 : (⟨q2.toArray⟩ : ByteArray).size ≤ 2 := by rw [hq2]; exact putL_size _ _
  have hz3 : ((⟨q1.toArray⟩ : ByteArray) ++ (⟨q2.toArray⟩ : ByteArray)).size ≤ 4 := by rw [ByteArray.size_append]; omega
  rw [← hq1] at hh ⊢
  rw [← hq2] at hs ⊢
  have HH := Lib.hid hh
  have HS := Lib.hid hs
  clear hq1 hq2 hh hs
  go_enter Tryd.func11, Tryd.ntmps11
  go_wp2_with (first | (go_at_call 22; refine (HB.out _ (below2 _ _ _) (wtr_new _ _ _)).mono ?_; rintro ex w2 ⟨rfl, h2, hb2⟩; have HW2 := Lib.hid h2; have HB2 := Lib.hid hb2; obtain ⟨p, v2, hk⟩ := h2.bad; have c2 : w2.cell? ⟨w.heap.size + 1, 2, none⟩ = some (.bool false) := hk.cell 2; clear h2 hb2 hk) | (go_at_call 23; refine (string_walk _ _ _ _ _ HW2.out).mono ?_; rintro ex w3 ⟨rfl, hb3⟩; have HB3 := Lib.hid (HB2.out.trans hb3); clear hb3) | (go_at_call 88; refine (HC.out _).mono ?_; rintro ex w4 ⟨rfl, hb4⟩; have HB4 := Lib.hid (HB3.out.trans (hb4.mono HB3.out.size)); clear hb4) | (go_at_call 14; refine (HP.out _ HB4.out).mono ?_; rintro ex w5 ⟨⟨x5, rfl⟩, hb5⟩; have HB5 := Lib.hid (HB4.out.trans (hb5.mono HB4.out.size)); clear hb5))
  refine (HC.out _).mono ?_
  rintro ex w6 ⟨rfl, hb6⟩
  have HB6 := Lib.hid (HB5.out.trans (hb6.mono HB5.out.size)); clear hb6
  obtain ⟨er1, hp1⟩ := HH.out w6
  have HP1 := Lib.hid hp1; clear hp1
  go_wp2_with (go_at_call 24; ((with_reducible refine HP1.out.mono ?_); skip); rintro ex w7 ⟨rfl, hb7⟩; have HB7 := Lib.hid (HB6.out.trans (hb7.mono HB6.out.size)); clear hb7)
  have e2 : ((m : Int) + 2) = ((m + 2 : Nat) : Int) := by omega
  rw [e2]
  clear e2
  obtain ⟨er2, hp2⟩ := HS.out w7
  have HP2 := Lib.hid hp2; clear hp2
  refine HP2.out.mono ?_
  rintro ex w8 ⟨rfl, hb8⟩
  have HB8 := Lib.hid (HB7.out.trans (hb8.mono HB7.out.size)); clear hb8
  go_wp2
  go_ret2
  exact ⟨rfl, HB8.out⟩
set_option maxHeartbeats 1000000 in
theorem bytesBad_Scan (v : Value) (L : List UInt8) (w : World) (hb : BodyK w (.iface 105 v) L true) :
    Calls Tryd.prog 11 #[.iface 105 v] w fun e w' => e = .returned (.tuple #[.string ⟨#[]⟩, .int .i64 1]) ∧ Below w.heap.size w w' := by
  have HB := Lib.hid hb; clear hb
  go_enter Tryd.func11, Tryd.ntmps11
  go_wp2_with (go_at_call 22; refine (HB.out _ (below2 _ _ _) (wtr_new _ _ _)).mono ?_; rintro ex w2 ⟨rfl, h2, hb2⟩; have HW2 := Lib.hid h2; have HB2 := Lib.hid hb2; obtain ⟨p, v2, hk⟩ := h2.bad; have c2 : w2.cell? ⟨w.heap.size + 1, 2, none⟩ = some (.bool true) := hk.cell 2; clear h2 hb2 hk)
  go_ret2
  exact ⟨rfl, HB2.out⟩
set_option maxHeartbeats 1000000 in
theorem bytesErr_Scan (v : Value) (c er : Int) (he : er ≠ 0) (L : List UInt8) (w : World) (hb : BodyK w (.iface 105 v) L false) (hc : ∀ w1, Calls Tryd.prog 85 #[v] w1 fun e w' => e = .returned (.int .i64 c) ∧ Below w1.heap.size w1 w') (hp : ParseK w c L er) :
    Calls Tryd.prog 11 #[.iface 105 v] w fun e w' => e = .returned (.tuple #[.string ⟨#[]⟩, .int .i64 1]) ∧ Below w.heap.size w w' := by
  have HB := Lib.hid hb; clear hb
  have HC := Lib.hid hc; clear hc
  have HP := Lib.hid hp; clear hp
  have hd : (er == 0) = false := by simpa using he
  clear he
  go_enter Tryd.func11, Tryd.ntmps11
  go_wp2_with (first | (go_at_call 22; refine (HB.out _ (below2 _ _ _) (wtr_new _ _ _)).mono ?_; rintro ex w2 ⟨rfl, h2, hb2⟩; have HW2 := Lib.hid h2; have HB2 := Lib.hid hb2; obtain ⟨p, v2, hk⟩ := h2.bad; have c2 : w2.cell? ⟨w.heap.size + 1, 2, none⟩ = some (.bool false) := hk.cell 2; clear h2 hb2 hk) | (go_at_call 23; refine (string_walk _ _ _ _ _ HW2.out).mono ?_; rintro ex w3 ⟨rfl, hb3⟩; have HB3 := Lib.hid (HB2.out.trans hb3); clear hb3) | (go_at_call 85; refine (HC.out _).mono ?_; rintro ex w4 ⟨rfl, hb4⟩; have HB4 := Lib.hid (HB3.out.trans (hb4.mono HB3.out.size)); clear hb4) | (go_at_call 14; refine (HP.out _ HB4.out).mono ?_; rintro ex w5 ⟨⟨x5, rfl⟩, hb5⟩; have HB5 := Lib.hid (HB4.out.trans (hb5.mono HB4.out.size)); clear hb5))
  go_ret2
  exact ⟨rfl, HB5.out⟩
set_option maxHeartbeats 1000000 in
theorem bytesOk_Scan (v : Value) (c : Int) (L : List UInt8) (hL : L.length ≤ 65533) (w : World) (hb : BodyK w (.iface 105 v) L false) (hc : ∀ w1, Calls Tryd.prog 85 #[v] w1 fun e w' => e = .returned (.int .i64 c) ∧ Below w1.heap.size w1 w') (hp : ParseK w c L 0) :
    Calls Tryd.prog 11 #[.iface 105 v] w fun e w' => e = .returned (.tuple #[.string (⟨(putL (bits .or .i64 65280 c) 2).toArray⟩ ++ ⟨(putL (L.length + 2 : Nat) 2).toArray⟩ ++ ⟨L.toArray⟩), .int .i64 0]) ∧ Below w.heap.size w w' := by
  have HB := Lib.hid hb; clear hb
  have HC := Lib.hid hc; clear hc
  have HP := Lib.hid hp; clear hp
  obtain ⟨m, hm⟩ : ∃ m : Nat, m = L.length := ⟨_, rfl⟩
  have hsz : (⟨L.toArray⟩ : ByteArray).size = m := by simp [ByteArray.size, hm]
  rw [← hm] at hL ⊢
  have HM := Lib.hid hm; clear hm
  have hh := put2_any (bits .or .i64 65280 c)
  have hs := put2_any ((m + 2 : Nat) : Int)
  obtain ⟨q1, hq1⟩ : ∃ q, q = putL (bits .or .i64 65280 c) 2 := ⟨_, rfl⟩
  obtain ⟨q2, hq2⟩ : ∃ q, q = putL ((m + 2 : Nat) : Int) 2 := ⟨_, rfl⟩
  have hz1 : (⟨q1.toArray⟩ : ByteArray).size ≤ 2 := by rw [hq1]; exact putL_size _ _
  have hz2 : (⟨q2.toArray⟩ : ByteArray).size ≤ 2 := by rw [hq2]; exact putL_size _ _
  have hz3 : ((⟨q1.toArray⟩ : ByteArray) ++ (⟨q2.toArray⟩ : ByteArray)).size ≤ 4 := by rw [ByteArray.size_append]; omega
  rw [← hq1] at hh ⊢
  rw [← hq2] at hs ⊢
  have HH := Lib.hid hh
  have HS := Lib.hid hs
  clear hq1 hq2 hh hs
  go_enter Tryd.func11, Tryd.ntmps11
  go_wp2_with (first | (go_at_call 22; refine (HB.out _ (below2 _ _ _) (wtr_new _ _ _)).mono ?_; rintro ex w2 ⟨rfl, h2, hb2⟩; have HW2 := Lib.hid h2; have HB2 := Lib.hid hb2; obtain ⟨p, v2, hk⟩ := h2.bad; have c2 : w2.cell? ⟨w.heap.size + 1, 2, none⟩ = some (.bool false) := hk.cell 2; clear h2 hb2 hk) | (go_at_call 23; refine (string_walk _ _ _ _ _ HW2.out).mono ?_; rintro ex w3 ⟨rfl, hb3⟩; have HB3 := Lib.hid (HB2.out.trans hb3); clear hb3) | (go_at_call 85; refine (HC.out _).mono ?_; rintro ex w4 ⟨rfl, hb4⟩; have HB4 := Lib.hid (HB3.out.trans (hb4.mono HB3.out.size)); clear hb4) | (go_at_call 14; refine (HP.out _ HB4.out).mono ?_; rintro ex w5 ⟨⟨x5, rfl⟩, hb5⟩; have HB5 := Lib.hid (HB4.out.trans (hb5.mono HB4.out.size)); clear hb5))
  refine (HC.out _).mono ?_
  rintro ex w6 ⟨rfl, hb6⟩
  have HB6 := Lib.hid (HB5.out.trans (hb6.mono HB5.out.size)); clear hb6
  obtain ⟨er1, hp1⟩ := HH.out w6
  have HP1 := Lib.hid hp1; clear hp1
  go_wp2_with (go_at_call 24; ((with_reducible refine HP1.out.mono ?_); skip); rintro ex w7 ⟨rfl, hb7⟩; have HB7 := Lib.hid (HB6.out.trans (hb7.mono HB6.out.size)); clear hb7)
  have e2 : ((m : Int) + 2) = ((m + 2 : Nat) : Int) := by omega
  rw [e2]
  clear e2
  obtain ⟨er2, hp2⟩ := HS.out w7
  have HP2 := Lib.hid hp2; clear hp2
  refine HP2.out.mono ?_
  rintro ex w8 ⟨rfl, hb8⟩
  have HB8 := Lib.hid (HB7.out.trans (hb8.mono HB7.out.size)); clear hb8
  go_wp2
  go_ret2
  exact ⟨rfl, HB8.out⟩
set_option maxHeartbeats 1000000 in
theorem bytesBad_Restart (v : Value) (L : List UInt8) (w : World) (hb : BodyK w (.iface 94 v) L true) :
    Calls Tryd.prog 11 #[.iface 94 v] w fun e w' => e = .returned (.tuple #[.string ⟨#[]⟩, .int .i64 1]) ∧ Below w.heap.size w w' := by
  have HB := Lib.hid hb; clear hb
  go_enter Tryd.func11, Tryd.ntmps11
  go_wp2_with (go_at_call 22; refine (HB.out _ (below2 _ _ _) (wtr_new _ _ _)).mono ?_; rintro ex w2 ⟨rfl, h2, hb2⟩; have HW2 := Lib.hid h2; have HB2 := Lib.hid hb2; obtain ⟨p, v2, hk⟩ := h2.bad; have c2 : w2.cell? ⟨w.heap.size + 1, 2, none⟩ = some (.bool true) := hk.cell 2; clear h2 hb2 hk)
  go_ret2
  exact ⟨rfl, HB2.out⟩
set_option maxHeartbeats 1000000 in
theorem bytesErr_Restart (v : Value) (c er : Int) (he : er ≠ 0) (L : List UInt8) (w : World) (hb : BodyK w (.iface 94 v) L false) (hc : ∀ w1, Calls Tryd.prog 83 #[v] w1 fun e w' => e = .returned (.int .i64 c) ∧ Below w1.heap.size w1 w') (hp : ParseK w c L er) :
    Calls Tryd.prog 11 #[.iface 94 v] w fun e w' => e = .returned (.tuple #[.string ⟨#[]⟩, .int .i64 1]) ∧ Below w.heap.size w w' := by
  have HB := Lib.hid hb; clear hb
  have HC := Lib.hid hc; clear hc
  have HP := Lib.hid hp; clear hp
  have hd : (er == 0) = false := by simpa using he
  clear he
  go_enter Tryd.func11, Tryd.ntmps11
  go_wp2_with (first | (go_at_call 22; refine (HB.out _ (below2 _ _ _) (wtr_new _ _ _)).mono ?_; rintro ex w2 ⟨rfl, h2, hb2⟩; have HW2 := Lib.hid h2; have HB2 := Lib.hid hb2; obtain ⟨p, v2, hk⟩ := h2.bad; have c2 : w2.cell? ⟨w.heap.size + 1, 2, none⟩ = some (.bool false) := hk.cell 2; clear h2 hb2 hk) | (go_at_call 23; refine (string_walk _ _ _ _ _ HW2.out).mono ?_; rintro ex w3 ⟨rfl, hb3⟩; have HB3 := Lib.hid (HB2.out.trans hb3); clear hb3) | (go_at_call 83; refine (HC.out _).mono ?_; rintro ex w4 ⟨rfl, hb4⟩; have HB4 := Lib.hid (HB3.out.trans (hb4.mono HB3.out.size)); clear hb4) | (go_at_call 14; refine (HP.out _ HB4.out).mono ?_; rintro ex w5 ⟨⟨x5, rfl⟩, hb5⟩; have HB5 := Lib.hid (HB4.out.trans (hb5.mono HB4.out.size)); clear hb5))
  go_ret2
  exact ⟨rfl, HB5.out⟩
set_option maxHeartbeats 1000000 in
theorem bytesOk_Restart (v : Value) (c : Int) (L : List UInt8) (hL : L.length ≤ 65533) (w : World) (hb : BodyK w (.iface 94 v) L false) (hc : ∀ w1, Calls Tryd.prog 83 #[v] w1 fun e w' => e = .returned (.int .i64 c) ∧ Below w1.heap.size w1 w') (hp : ParseK w c L 0) :
    Calls Tryd.prog 11 #[.iface 94 v] w fun e w' => e = .returned (.tuple #[.string (⟨(putL (bits .or .i64 65280 c) 2).toArray⟩ ++ ⟨(putL (L.length + 2 : Nat) 2).toArray⟩ ++ ⟨L.toArray⟩), .int .i64 0]) ∧ Below w.heap.size w w' := by
  have HB := Lib.hid hb; clear hb
  have HC := Lib.hid hc; clear hc
  have HP := Lib.hid hp; clear hp
  obtain ⟨m, hm⟩ : ∃ m : Nat, m = L.length := ⟨_, rfl⟩
  have hsz : (⟨L.toArray⟩ : ByteArray).size = m := by simp [ByteArray.size, hm]
  rw [← hm] at hL ⊢
  have HM := Lib.hid hm; clear hm
  have hh := put2_any (bits .or .i64 65280 c)
  have hs := put2_any ((m + 2 : Nat) : Int)
  obtain ⟨q1, hq1⟩ : ∃ q, q = putL (bits .or .i64 65280 c) 2 := ⟨_, rfl⟩
  obtain ⟨q2, hq2⟩ : ∃ q, q = putL ((m + 2 : Nat) : Int) 2 := ⟨_, rfl⟩
  have hz1 : (⟨q1.toArray⟩ : ByteArray).size ≤ 2 := by rw [hq1]; exact putL_size _ _
  have hz2 : (⟨q2.toArray⟩ : ByteArray).size ≤ 2 := by rw [hq2]; exact putL_size _ _
  have hz3 : ((⟨q1.toArray⟩ : ByteArray) ++ (⟨q2.toArray⟩ : ByteArray)).size ≤ 4 := by rw [ByteArray.size_append]; omega
  rw [← hq1] at hh ⊢
  rw [← hq2] at hs ⊢
  have HH := Lib.hid hh
  have HS := Lib.hid hs
  clear hq1 hq2 hh hs
  go_enter Tryd.func11, Tryd.ntmps11
  go_wp2_with (first | (go_at_call 22; refine (HB.out _ (below2 _ _ _) (wtr_new _ _ _)).mono ?_; rintro ex w2 ⟨rfl, h2, hb2⟩; have HW2 := Lib.hid h2; have HB2 := Lib.hid hb2; obtain ⟨p, v2, hk⟩ := h2.bad; have c2 : w2.cell? ⟨w.heap.size + 1, 2, none⟩ = some (.bool false) := hk.cell 2; clear h2 hb2 hk) | (go_at_call 23; refine (string_walk _ _ _ _ _ HW2.out).mono ?_; rintro ex w3 ⟨rfl, hb3⟩; have HB3 := Lib.hid (HB2.out.trans hb3); clear hb3) | (go_at_call 83; refine (HC.out _).mono ?_; rintro ex w4 ⟨rfl, hb4⟩; have HB4 := Lib.hid (HB3.out.trans (hb4.mono HB3.out.size)); clear hb4) | (go_at_call 14; refine (HP.out _ HB4.out).mono ?_; rintro ex w5 ⟨⟨x5, rfl⟩, hb5⟩; have HB5 := Lib.hid (HB4.out.trans (hb5.mono HB4.out.size)); clear hb5))
  refine (HC.out _).mono ?_
  rintro ex w6 ⟨rfl, hb6⟩
  have HB6 := Lib.hid (HB5.out.trans (hb6.mono HB5.out.size)); clear hb6
  obtain ⟨er1, hp1⟩ := HH.out w6
  have HP1 := Lib.hid hp1; clear hp1
  go_wp2_with (go_at_call 24; ((with_reducible refine HP1.out.mono ?_); skip); rintro ex w7 ⟨rfl, hb7⟩; have HB7 := Lib.hid (HB6.out.trans (hb7.mono HB6.out.size)); clear hb7)
  have e2 : ((m : Int) + 2) = ((m + 2 : Nat) : Int) := by omega
  rw [e2]
  clear e2
  obtain ⟨er2, hp2⟩ := HS.out w7
  have HP2 := Lib.hid hp2; clear hp2
  refine HP2.out.mono ?_
  rintro ex w8 ⟨rfl, hb8⟩
  have HB8 := Lib.hid (HB7.out.trans (hb8.mono HB7.out.size)); clear hb8
  go_wp2
  go_ret2
  exact ⟨rfl, HB8.out⟩
end Go.Proofs.YthibnhgbgmpjoaaDoor

/- The reader's huffs. No condition. -/
import Derived.Test.YthibnhgbgmpjoaaDoorHSegL
import Derived.Test.YthibnhgbgmpjoaaDoorHHuB
namespace Go.Proofs.YthibnhgbgmpjoaaDoor
open Go.RowKit
set_option linter.unusedSimpArgs false
set_option linter.unusedVariables false
set_option maxRecDepth 100000
structure Hf where
  cls : Int
  at_ : Int
  cnt : Nat → Int
  sym : ByteArray
def Hf.cells (p : Hf) : List Value := [Value.int .i64 p.cls, Value.int .i64 p.at_] ++ (arrN .u8 16 p.cnt).toList ++ [Value.string p.sym]
theorem Hf.is : CellsOf Hf.cells 19 := ⟨fun x => by simp only [Hf.cells, List.length_append, Array.length_toList, arrN_size]; rfl, fun x u hu => by
  rcases List.mem_append.1 hu with h | h
  · rcases List.mem_append.1 h with h | h
    · simp only [List.mem_cons, List.not_mem_nil, or_false] at h; rcases h with rfl | rfl <;> rfl
    · exact arrN_mem h
  · simp only [List.mem_singleton] at h; subst h; rfl⟩
theorem set_mid (pre mid post : List Value) (k : Nat) (x : Value) (hk : k < mid.length) : (pre ++ mid ++ post).toArray.setIfInBounds (pre.length + k) x = (pre ++ mid.set k x ++ post).toArray := by
  rw [List.setIfInBounds_toArray]
  congr 1
  rw [List.append_assoc, List.set_append_right _ _ (by omega), Nat.add_sub_cancel_left, List.set_append_left _ _ hk, List.append_assoc]
theorem get_mid (pre mid post : List Value) (k : Nat) (hk : k < mid.length) : (pre ++ mid ++ post).toArray[pre.length + k]? = mid[k]? := by
  rw [List.getElem?_toArray, List.append_assoc, List.getElem?_append_right (by omega), Nat.add_sub_cancel_left, List.getElem?_append_left hk]
theorem arrN_setL (K : IntKind) (n : Nat) (v : Nat → Int) (i : Nat) (x : Int) (h : i < n) : (arrN K n v).toList.set i (.int K x) = (arrN K n (upd v i x)).toList := by
  have := congrArg Array.toList (arrN_set K v x h)
  rw [Array.toList_setIfInBounds] at this
  exact this
section
variable {w : World} {b : Nat} {p : Hf}
theorem hfSetC (h : Blk w b 140 p.cells.toArray) {k : Nat} (hk : k < 16) (x : Int) : Blk (w.setCell ⟨b, 2 + k, none⟩ (.int .u8 x)) b 140 (Hf.cells ⟨p.cls, p.at_, upd p.cnt k x, p.sym⟩).toArray := by
  have h1 := h.set_ (2 + k) (.int .u8 x)
  have h2 := set_mid [Value.int .i64 p.cls, Value.int .i64 p.at_] (arrN .u8 16 p.cnt).toList [Value.string p.sym] k (.int .u8 x) (by rw [Array.length_toList, arrN_size]; exact hk)
  rw [arrN_setL .u8 16 _ _ _ hk] at h2
  unfold Hf.cells at h1
  have e : 2 + k = [Value.int .i64 p.cls, Value.int .i64 p.at_].length + k := rfl
  rw [e, h2] at h1
  exact h1
theorem hfCellC (h : Blk w b 140 p.cells.toArray) {k : Nat} (hk : k < 16) : w.cell? ⟨b, 2 + k, none⟩ = some (.int .u8 (p.cnt k)) := by
  rw [h.cell]
  have h2 := get_mid [Value.int .i64 p.cls, Value.int .i64 p.at_] (arrN .u8 16 p.cnt).toList [Value.string p.sym] k (by rw [Array.length_toList, arrN_size]; exact hk)
  have e : 2 + k = [Value.int .i64 p.cls, Value.int .i64 p.at_].length + k := rfl
  unfold Hf.cells
  rw [e, h2, Array.getElem?_toList]
  exact arrN_get .u8 _ hk
theorem hfRange (h : Blk w b 140 p.cells.toArray) : w.rangeAt b 2 (arrN .u8 16 p.cnt).toList := fun j v hv => by
  have hj : j < 16 := by have := (List.getElem?_eq_some_iff.1 hv).1; rwa [Array.length_toList, arrN_size] at this
  rw [hfCellC h hj, ← hv, Array.getElem?_toList, arrN_get .u8 _ hj]
theorem hfCellS (h : Blk w b 140 p.cells.toArray) : w.cell? ⟨b, 18, none⟩ = some (.string p.sym) := by
  rw [h.cell]
  unfold Hf.cells
  rw [List.getElem?_toArray, List.getElem?_append_right (by simp [arrN_size])]
  simp [arrN_size]
theorem hfSetS (h : Blk w b 140 p.cells.toArray) (x : ByteArray) : Blk (w.setCell ⟨b, 18, none⟩ (.string x)) b 140 (Hf.cells ⟨p.cls, p.at_, p.cnt, x⟩).toArray := by
  have h1 := h.set_ 18 (.string x)
  have h2 := set_mid ([Value.int .i64 p.cls, Value.int .i64 p.at_] ++ (arrN .u8 16 p.cnt).toList) [Value.string p.sym] [] 0 (.string x) (by simp)
  have e : ([Value.int .i64 p.cls, Value.int .i64 p.at_] ++ (arrN .u8 16 p.cnt).toList).length + 0 = 18 := by simp [arrN_size]
  rw [e, List.append_nil, List.append_nil] at h2
  unfold Hf.cells at h1
  rw [h2] at h1
  exact h1
end
/-- Behind k counts. -/
def cT (s : ByteArray) (u : St) : Nat → St
  | 0 => u
  | k + 1 => nS s 1 (cT s u k)
def cV (s : ByteArray) (u : St) (k : Nat) : Int := nV s 1 (cT s u k)
def cSum (s : ByteArray) (u : St) : Nat → Int
  | 0 => 0
  | k + 1 => cSum s u k + cV s u k
theorem cSum_bd (s : ByteArray) (u : St) (k : Nat) : 0 ≤ cSum s u k ∧ cSum s u k ≤ 255 * k := by
  induction k with
  | zero => simp [cSum]
  | succ k ih => have := nV_bd s (cT s u k); unfold cSum cV; omega
def cF (s : ByteArray) (u : St) (k : Nat) : Nat → Int := fun j => if j < k then cV s u j else 0
theorem cF_upd (s : ByteArray) (u : St) (k : Nat) (hk : k < 16) (c a : Int) (y : ByteArray) : Hf.cells ⟨c, a, upd (cF s u k) k (cV s u k), y⟩ = Hf.cells ⟨c, a, cF s u (k + 1), y⟩ := by
  unfold Hf.cells
  congr 3
  refine arrN_congr .u8 fun j hj => ?_
  unfold upd cF
  by_cases h1 : j = k
  · subst h1; simp
  · by_cases h2 : j < k
    · simp [h1, h2, show j < k + 1 by omega]
    · simp [h1, h2, show ¬ j < k + 1 by omega]
theorem cF_all (s : ByteArray) (u : St) (c a : Int) (y : ByteArray) : Hf.cells ⟨c, a, cF s u 16, y⟩ = Hf.cells ⟨c, a, cV s u, y⟩ := by
  unfold Hf.cells
  rw [show arrN .u8 16 (cF s u 16) = arrN .u8 16 (cV s u) from arrN_congr .u8 fun j hj => by simp [cF, hj]]
/-- One table of codes. -/
def hu1 (s : ByteArray) (p : St × List Hf) : St × List Hf :=
  let b := nV s 1 p.1
  let u := tS (nS s 1 p.1) (decide (b / 16 ≤ 1 ∧ b % 16 ≤ 3)) 5
  let n := cSum s u 16
  let x := xV s n (cT s u 16)
  (tS (xS s n (cT s u 16)) (hufNew (cV s u) x).isSome 5, p.2 ++ [⟨b / 16, b % 16, cV s u, x⟩])
def huL (s : ByteArray) : Nat → St × List Hf → St × List Hf
  | 0, p => p
  | f + 1, p => if p.1.e = 0 ∧ (p.2 = [] ∨ p.1.a < s.size) then huL s f (hu1 s p) else p
theorem huL_no (s : ByteArray) (f : Nat) (p : St × List Hf) (h : ¬ (p.1.e = 0 ∧ (p.2 = [] ∨ p.1.a < s.size))) : huL s f p = p := by cases f <;> simp [huL, h]
def huR (s : ByteArray) (t0 : St) : St × List Hf := huL s (s.size + 1) (t0, [])
theorem cT_le (s : ByteArray) (u : St) (k : Nat) : u.a ≤ (cT s u k).a := by
  induction k with
  | zero => exact Nat.le_refl _
  | succ k ih => exact Nat.le_trans ih (nS_le s 1 _)
theorem cT_ok {s : ByteArray} {u : St} {k : Nat} (h : (cT s u k).e = 0) : u.e = 0 := by
  induction k with
  | zero => exact h
  | succ k ih => exact ih (nS_ok h).1
theorem xS_le (s : ByteArray) (n : Int) (t : St) : t.a ≤ (xS s n t).a := by show t.a ≤ txA s n t.a; unfold txA; split <;> omega
theorem xS_ok {s : ByteArray} {n : Int} {t : St} (h : (xS s n t).e = 0) : t.e = 0 ∧ (0 ≤ n ∧ n ≤ (s.size : Int) - t.a) := by
  have h' : txE s n t.a t.e = 0 := h
  unfold txE at h'
  split at h'
  · rename_i hq; exact ⟨h', hq⟩
  · split at h' <;> omega
theorem hu1_adv {s : ByteArray} {p : St × List Hf} (h : (hu1 s p).1.e = 0) : p.1.a + 1 ≤ (hu1 s p).1.a := by
  have h0 := (tS_ok h (by decide)).1
  have h1 := cT_ok (xS_ok h0).1
  have h2 := nS_ok (tS_ok h1 (by decide)).1
  have h3 := cT_le s (tS (nS s 1 p.1) (decide (nV s 1 p.1 / 16 ≤ 1 ∧ nV s 1 p.1 % 16 ≤ 3)) 5) 16
  have h5 := xS_le s (cSum s (tS (nS s 1 p.1) (decide (nV s 1 p.1 / 16 ≤ 1 ∧ nV s 1 p.1 % 16 ≤ 3)) 5) 16) (cT s (tS (nS s 1 p.1) (decide (nV s 1 p.1 / 16 ≤ 1 ∧ nV s 1 p.1 % 16 ≤ 3)) 5) 16)
  have h4 : (nS s 1 p.1).a ≤ (hu1 s p).1.a := Nat.le_trans h3 h5
  omega
/-- What New says to counts and symbols. -/
def nE (cnt : Nat → Int) (s : ByteArray) : Int := if (hufNew cnt s).isSome then 0 else 5
theorem new_any (cnt : Nat → Int) (s : ByteArray) (w : World) (hc : ∀ j, j < 16 → 0 ≤ cnt j ∧ cnt j ≤ 255) (hs : s.size ≤ 1000000000) :
    Calls Tryd.prog 55 #[.agg (arrN .u8 16 cnt), .string s] w fun e w' => (∃ pv, e = .returned (.tuple #[pv, .int .i64 (nE cnt s)])) ∧ Below w.heap.size w w' := by
  refine (new_h cnt s w hc hs).mono fun e w' h => ?_
  unfold NewH at h
  unfold nE
  cases hq : hufNew cnt s with
  | none => rw [hq] at h; exact ⟨⟨_, h.1⟩, h.2⟩
  | some st => rw [hq] at h; obtain ⟨g, at_, fs, he, _, _, _, hb⟩ := h; exact ⟨⟨_, he⟩, hb⟩
def HuffsPost (w : World) (r g : Nat) (s : ByteArray) (R : St × List Hf) (e : Ending) (w' : World) : Prop :=
  ∃ v, e = .returned (.iface 119 (.agg #[v])) ∧ OwnC Hf.cells 19 w' w.heap.size 140 v R.2 ∧ Rd7 w' r g s R.1 ∧ Two g r w w'
structure HuI (w : World) (r g : Nat) (s : ByteArray) (v : Value) (l : List Hf) (t : St) (wr : World) : Prop where
  rd : Rd7 wr r g s t
  qs : Blk wr w.heap.size 119 #[v]
  ow : OwnC Hf.cells 19 wr w.heap.size 140 v l
  tw : Two g r w wr
structure HuP (w wr : World) (b7 : Nat) (v : Value) (p : Hf) : Prop where
  hf : Blk wr b7 140 p.cells.toArray
  ne : v.ownBlock ≠ some b7
  l7 : w.heap.size < b7
section
variable {w wr w' : World} {r g b : Nat} {s : ByteArray} {v : Value} {l : List Hf} {t t' : St} {p : Hf}
theorem HuI.two (h : HuI w r g s v l t wr) (hr : Rd7 w' r g s t') (h2 : Two g r wr w') : HuI w r g s v l t' w' :=
  ⟨hr, h2.keepT h.rd (by decide) (by decide) _ _ h.qs, h.ow.keep (h2.keepT h.rd (by decide) (by decide)), h.tw.trans h2⟩
theorem HuI.bel (h : HuI w r g s v l t wr) (hb : Below wr.heap.size wr w') : HuI w r g s v l t w' := ⟨h.rd.bel hb, h.qs.bel hb, h.ow.bel hb, h.tw.bel (hb.mono h.tw.size)⟩
theorem HuI.drew (h : HuI w r g s v l t wr) : HuI w r g s v l t wr.drew := h.bel (Below.refl _ _).drew
theorem HuI.apt (h : HuI w r g s v l t wr) (ha : Apt b wr w') (hP : HuP w wr b v p) : HuI w r g s v l t w' :=
  ⟨h.rd.apt ha (hP.hf.ne h.rd.1 (by decide)).symm (hP.hf.ne h.rd.2.1 (by decide)).symm, h.qs.apt ha (by have := hP.l7; omega), h.ow.apt ha hP.ne, h.tw.apt ha (by have := hP.l7; omega)⟩
theorem HuP.two (h : HuP w wr b v p) (hI : HuI w r g s v l t wr) (h2 : Two g r wr w') : HuP w w' b v p := ⟨h2.keepT hI.rd (by decide) (by decide) _ _ h.hf, h.ne, h.l7⟩
theorem HuP.bel (h : HuP w wr b v p) (hb : Below wr.heap.size wr w') : HuP w w' b v p := ⟨h.hf.bel hb, h.ne, h.l7⟩
end
theorem huff_built (x y : Int) : Tryd.prog.built 140 [(0, .int .i64 x), (1, .int .i64 y)] = some (Hf.cells ⟨x, y, fun _ => 0, ⟨#[]⟩⟩).toArray := by kernel_rfl
theorem text7z (n : Nat) (z : Int) (hz : z = n) (w : World) (r g : Nat) (s : ByteArray) (t : St) (h : Rd7 w r g s t) :
    Calls Tryd.prog 54 #[.pointer (some ⟨r, 0, none⟩), .int .i64 z] w fun ex w' => ex = .returned (.string (xV s z t)) ∧ Rd7 w' r g s (xS s z t) ∧ Two g r w w' := hz ▸ text7 n w r g s t h
set_option maxHeartbeats 4000000 in
theorem huffs_walk (w : World) (r g : Nat) (s : ByteArray) (t0 : St) (h : Rd7 w r g s t0) :
    Calls Tryd.prog 29 #[.pointer (some ⟨r, 0, none⟩)] w (HuffsPost w r g s (huR s t0)) := by
  have H := Lib.hid h; clear h
  obtain ⟨p2, hp2⟩ : ∃ p, p = huR s t0 := ⟨_, rfl⟩
  rw [← hp2]
  have HP2 := Lib.hid hp2; clear hp2
  have hI0 : HuI w r g s (.slice none 0 0) [] t0 (w.alloc (.cells #[.slice none 0 0] 119)) := ⟨H.out.alloc _, Blk.new _ _ _, OwnC.nil _ _ _, (Two.refl g r w).alloc _⟩
  have HI0 := Lib.hid hI0; clear hI0
  go_enter Tryd.func29, Tryd.ntmps29
  go_upto_block 0 with fail
  go_cut [] (fun wx => Hid (∃ v, HuI w r g s v p2.2 p2.1 wx))
  case rest =>
    obtain ⟨v, hI⟩ := hcut.out
    obtain ⟨A, n1, cp, rfl⟩ := hI.ow.form2
    have HI := Lib.hid hI
    have e0 : wc.cell? ⟨w.heap.size, 0, none⟩ = some (.slice A n1 cp) := hI.qs.cell 0
    clear hI hcut
    go_wp2_with fail
    go_ret
    exact ⟨_, rfl, HI.out.ow, HI.out.rd, HI.out.tw⟩
  case first =>
  go_wp2_with fail
  go_loopw [4] (fun fb wr => ∃ (f : Nat) (b : Bool) (v : Value) (l : List Hf) (t : St), fb = .bool b ∧ Hid (b = true ↔ l = []) ∧ Hid (HuI w r g s v l t wr) ∧ Hid (huL s f (t, l) = p2) ∧ Hid (t.e = 0 → s.size + 1 ≤ f + t.a) ∧ Hid (l.length + f = s.size + 1)) (fun _ wr => meas s r g wr)
  case atStart => exact ⟨s.size + 1, true, .slice none 0 0, [], t0, rfl, Lib.hid (by simp), HI0, Lib.hid HP2.out.symm, Lib.hid (fun _ => by omega), Lib.hid (by simp)⟩
  case round =>
    obtain ⟨f, b, v, l, t, rfl, HBL, HI, HP, HF, HLN⟩ := hrel
    by_cases hc : t.e = 0 ∧ (l = [] ∨ t.a < s.size)
    case neg =>
      have hxe : (t, l) = p2 := by rw [← HP.out, huL_no _ _ _ hc]
      have HX := Lib.hid hxe; clear hxe
      have hD : Hid (∃ v, HuI w r g s v p2.2 p2.1 wr) := Lib.hid ⟨v, by rw [← HX.out]; exact HI.out⟩
      have hDD : Hid (∃ v, HuI w r g s v p2.2 p2.1 wr.drew) := Lib.hid ⟨v, by rw [← HX.out]; exact HI.out.drew⟩
      by_cases he : t.e = 0
      case neg =>
        have hee : wr.cell? ⟨r, 1, none⟩ = some (.int .i64 t.e) := HI.out.rd.ec
        have hef : (t.e == 0) = false := by simpa using he
        clear he hc
        go_wp2_with fail
        go_meet
        case rel => exact hD
      case pos =>
        have hb : b = false := by cases b with | false => rfl | true => exact absurd ⟨he, .inl (HBL.out.1 rfl)⟩ hc
        subst hb
        have hle : s.size ≤ t.a := by rcases Nat.lt_or_ge t.a s.size with h | h; exact absurd ⟨he, .inr h⟩ hc; exact h
        have hee : wr.cell? ⟨r, 1, none⟩ = some (.int .i64 0) := he ▸ HI.out.rd.ec
        have hgp : wr.cell? ⟨r, 0, none⟩ = some (.pointer (some ⟨g, 0, none⟩)) := HI.out.rd.gp
        have hdl : decide (t.a < s.size) = false := by simp; omega
        clear he hc hle
        go_wp2_with (go_at_call 35; refine (left7 _ r g s t HI.out.rd).mono ?_; rintro ex w1 ⟨rfl, rfl⟩)
        go_meet
        case rel => exact hDD
    case pos =>
    go_upto_region 3 with fail
    go_cut [28] (fun c wx => c = .bool true ∧ Hid (HuI w r g s v l t wx))
    case first =>
      have hee : wr.cell? ⟨r, 1, none⟩ = some (.int .i64 0) := by have := HI.out.rd.ec; rw [hc.1] at this; exact this
      cases b with
      | true =>
        clear hc
        go_wp2_with fail
        go_meet
        case rel => exact ⟨rfl, HI⟩
      | false =>
        have hle : t.a < s.size := by rcases hc.2 with h | h; exact absurd (HBL.out.2 h) (by simp); exact h
        have hgp : wr.cell? ⟨r, 0, none⟩ = some (.pointer (some ⟨g, 0, none⟩)) := HI.out.rd.gp
        have hdl : decide (t.a < s.size) = true := by simp; omega
        clear hc hle
        go_wp2_with (go_at_call 35; refine (left7 _ r g s t HI.out.rd).mono ?_; rintro ex w1 ⟨rfl, rfl⟩)
        go_meet
        case rel => exact ⟨rfl, Lib.hid HI.out.drew⟩
    case rest =>
    obtain ⟨rfl, HI1⟩ := hcut
    have hm0 := meas_rd HI.out.rd
    rw [if_pos hc.1] at hm0
    have HM0 := Lib.hid hm0
    have hta : t.a ≤ s.size := HI.out.rd.2.2.1
    clear HI hm0
    obtain ⟨f, rfl⟩ : ∃ f', f = f' + 1 := by
      cases f with
      | zero => exfalso; have h1 := HF.out hc.1; have h2 := HI1.out.rd.2.2.1; omega
      | succ f => exact ⟨f, rfl⟩
    have hn1 : huL s f (hu1 s (t, l)) = p2 := by rw [← HP.out, huL, if_pos hc]
    have hfn : (hu1 s (t, l)).1.e = 0 → s.size + 1 ≤ f + (hu1 s (t, l)).1.a := fun h => by have h1 := hu1_adv h; have h2 := HF.out hc.1; dsimp only at h1; omega
    have hme : (hu1 s (t, l)).1.e = 0 → t.a + 1 ≤ (hu1 s (t, l)).1.a := fun h => hu1_adv h
    have hlf : l.length ≤ s.size := by have := HLN.out; omega
    have hss : s.size ≤ 65533 := HI1.out.rd.2.2.2.2
    obtain ⟨bb, hbb⟩ : ∃ n, n = nV s 1 t := ⟨_, rfl⟩
    obtain ⟨u1, hu1_⟩ : ∃ t', t' = nS s 1 t := ⟨_, rfl⟩
    obtain ⟨x, hx⟩ : ∃ x, x = bb / 16 := ⟨_, rfl⟩
    obtain ⟨y, hy⟩ : ∃ y, y = bb % 16 := ⟨_, rfl⟩
    obtain ⟨u2, hu2⟩ : ∃ t, t = tS u1 (decide (x ≤ 1 ∧ y ≤ 3)) 5 := ⟨_, rfl⟩
    obtain ⟨n, hn⟩ := Int.eq_ofNat_of_zero_le (cSum_bd s u2 16).1
    have hn2 : n ≤ 4080 := by have := (cSum_bd s u2 16).2; omega
    obtain ⟨u3, hu3⟩ : ∃ t, t = cT s u2 16 := ⟨_, rfl⟩
    obtain ⟨sy, hsy⟩ : ∃ sy, sy = xV s n u3 := ⟨_, rfl⟩
    have hsyz : sy.size ≤ 1000000000 := by
      rw [hsy]; unfold xV txV; split
      · rw [ByteArray.size_extract]; omega
      · exact Nat.zero_le _
    obtain ⟨u4, hu4⟩ : ∃ t, t = xS s n u3 := ⟨_, rfl⟩
    obtain ⟨ok, hok⟩ : ∃ ok, ok = (hufNew (cV s u2) sy).isSome := ⟨_, rfl⟩
    obtain ⟨u5, hu5⟩ : ∃ t, t = tS u4 ok 5 := ⟨_, rfl⟩
    have hne : (nE (cV s u2) sy == 0) = ok := by unfold nE; rw [hok]; cases (hufNew (cV s u2) sy).isSome <;> rfl
    have hq : hu1 s (t, l) = (u5, l ++ [⟨x, y, cV s u2, sy⟩]) := by
      rw [hu1]
      simp only [← hbb, ← hu1_, ← hx, ← hy, ← hu2, hn, ← hu3, ← hsy, ← hok, ← hu4, ← hu5]
    rw [hq] at hn1 hfn hme
    have HN1 := Lib.hid hn1; have HFN := Lib.hid hfn; have HME := Lib.hid hme; have HBB := Lib.hid hbb; have HU1 := Lib.hid hu1_; have HX := Lib.hid hx; have HYY := Lib.hid hy; have HU2 := Lib.hid hu2; have HN := Lib.hid hn; have HSY := Lib.hid hsy; have HSZ := Lib.hid hsyz; have HU3 := Lib.hid hu3; have HU4 := Lib.hid hu4; have HOK := Lib.hid hok; have HU5 := Lib.hid hu5; have HNE := Lib.hid hne; have HLF := Lib.hid hlf
    clear hn1 hfn hme hbb hu1_ hx hy hu2 hn hsy hsyz hu3 hu4 hok hu5 hne hq hc hlf
    go_wp2_with fail
    refine (halves7 _ r g s t HI1.out.rd).mono ?_
    rintro ex w2 ⟨rfl, h2, k2⟩
    rw [← HU1.out] at h2; rw [← HBB.out, ← HX.out, ← HYY.out]
    have HI2 := Lib.hid (HI1.out.two h2 k2); clear h2 k2
    go_upto_region 6 with fail
    go_cut [] (fun wx => Hid (HuI w r g s v l u2 wx))
    case first =>
      go_wp2_with fail
      all_goals
        refine (test7e _ r g s u1 5 (decide (x ≤ 1 ∧ y ≤ 3)) _ ?_ HI2.out.rd).mono ?_
        first | rfl | (rw [Bool.eq_iff_iff]; simp only [Bool.false_eq_true, decide_eq_true_eq, false_iff, true_iff]; omega)
        rintro ex w3 ⟨rfl, h2, k2⟩
        rw [← HU2.out] at h2
        have HI3 := Lib.hid (HI2.out.two h2 k2); clear h2 k2
        go_wp2_with fail
        go_meet
        case rel => exact HI3
    case rest =>
    have HI3 := hcut
    clear hcut HI2 HI1
    obtain ⟨cs, hcs⟩ : ∃ cs, cs = (Hf.cells ⟨x, y, fun _ => 0, ⟨#[]⟩⟩).toArray := ⟨_, rfl⟩
    have hbt := huff_built x y
    rw [← hcs] at hbt
    have hcz : cs.size = 19 := by rw [hcs, List.size_toArray, Hf.is.len]
    have hc1 : cs.all (·.oneCell') = true := by rw [hcs]; exact all_oneCell_toArray (Hf.is.one _)
    have HCS := Lib.hid hcs; have HBT := Lib.hid hbt; have HCZ := Lib.hid hcz; have HC1 := Lib.hid hc1
    clear hcs hbt hcz hc1
    go_wp2_with (first | ((with_reducible show wpList _ _ _ (⟨some 44, _, _, _, _, _⟩ :: _) _ _); refine wpList_build2 rfl 140 (.tmp 42) (.tmp 43) (.int .i64 x) (.int .i64 y) rfl rfl rfl HBT.out ?_) | (refine wpList_store_new rfl 140 (.tmp 7) (.tmp 44) rfl cs _ 140 rfl rfl (by rw [HCZ.out]; kernel_rfl) (by rw [HCZ.out]; rfl) HC1.out ?_; intro w5 hs5 hB5 hb5; have HB5 := Lib.hid hB5; have HBW5 := Lib.hid hb5; clear hB5 hb5))
    have hP5 : HuP w w5 wc.heap.size v ⟨x, y, cF s u2 0, ⟨#[]⟩⟩ := ⟨HCS.out ▸ HB5.out, HI3.out.ow.ne (Nat.le_refl _), HI3.out.qs.lt⟩
    have HI5 := Lib.hid (HI3.out.bel HBW5.out); have HP5 := Lib.hid hP5
    clear hP5
    go_loopw [8, 45] (fun sm i wx => ∃ k : Nat, k ≤ 16 ∧ i = .int .i64 k ∧ sm = .int .i64 (cSum s u2 k) ∧ Hid (HuI w r g s v l (cT s u2 k) wx) ∧ Hid (HuP w wx wc.heap.size v ⟨x, y, cF s u2 k, ⟨#[]⟩⟩)) (fun _ i _ => 16 - (intOf i).toNat)
    case atStart => exact ⟨0, by omega, rfl, rfl, HI5, HP5⟩
    case round =>
      clear HB5 HBW5 HI5 HP5 HI3
      obtain ⟨k, hk, rfl, rfl, HIk, HPk⟩ := hrel
      by_cases hk16 : k < 16
      case pos =>
        obtain ⟨uk, huk⟩ : ∃ t, t = cT s u2 k := ⟨_, rfl⟩
        obtain ⟨vk, hvk⟩ : ∃ n', n' = cV s u2 k := ⟨_, rfl⟩
        have hvb : 0 ≤ vk ∧ vk < 256 := by rw [hvk]; exact nV_bd s _
        obtain ⟨hv0, hv1⟩ := hvb
        have hvn : nV s 1 uk = vk := by rw [huk, hvk]; rfl
        obtain ⟨un, hun⟩ : ∃ t, t = nS s 1 uk := ⟨_, rfl⟩
        have hun1 : cT s u2 (k + 1) = un := by rw [cT, ← huk, hun]
        have hcf := cF_upd s u2 k hk16 x y ⟨#[]⟩
        rw [← hvk] at hcf
        obtain ⟨sk, hsk⟩ : ∃ sk, sk = cSum s u2 k := ⟨_, rfl⟩
        have hskb := cSum_bd s u2 k
        rw [← hsk] at hskb
        obtain ⟨hsk0, hsk1⟩ := hskb
        have hsk2 : cSum s u2 (k + 1) = sk + vk := by rw [cSum, ← hsk, ← hvk]
        rw [← huk] at HIk
        rw [← hsk]
        have HVN := Lib.hid hvn; have HUN := Lib.hid hun; have HUN1 := Lib.hid hun1; have HCF := Lib.hid hcf; have HSK2 := Lib.hid hsk2
        clear hvn hun hun1 hcf huk hvk hsk hsk2
        go_wp2_with fail
        refine (num7 1 (by decide) (by decide) _ r g s uk HIk.out.rd).mono ?_
        rintro ex w6 ⟨rfl, h6, k6⟩
        rw [← HUN.out] at h6; rw [HVN.out]
        have HI6 := Lib.hid (HIk.out.two h6 k6); have HP6 := Lib.hid (HPk.out.two HIk.out k6); clear h6 k6
        have hold := hfCellC HP6.out.hf hk16
        have hfz := HP6.out.hf.frozen (2 + k)
        go_upto_region 14 with fail
        have hap := Apt.set w6 ⟨wc.heap.size, 2 + k, none⟩ (.int .u8 vk)
        have hI7 := HI6.out.apt hap HP6.out
        have hP7 : HuP w (w6.setCell ⟨wc.heap.size, 2 + k, none⟩ (.int .u8 vk)) wc.heap.size v ⟨x, y, cF s u2 (k + 1), ⟨#[]⟩⟩ :=
          ⟨by rw [← HCF.out]; exact hfSetC HP6.out.hf hk16 vk, HP6.out.ne, HP6.out.l7⟩
        have HI7 := Lib.hid hI7; have HP7 := Lib.hid hP7
        clear hold hfz hap hI7 hP7
        go_wp2_with fail
        go_roundw
        case rel => exact ⟨k + 1, by omega, by go_num, by rw [HSK2.out], by rw [HUN1.out]; exact HI7, HP7⟩
        case measure => simp [intOf]; omega
      case neg =>
        obtain rfl : k = 16 := by omega
        have hpk : HuP w wr wc.heap.size v ⟨x, y, cV s u2, ⟨#[]⟩⟩ := ⟨by rw [← cF_all]; exact HPk.out.hf, HPk.out.ne, HPk.out.l7⟩
        clear HPk
        have HPk := Lib.hid hpk; clear hpk
        rw [HN.out]
        rw [← HU3.out] at HIk
        have hcb : ∀ j, j < 16 → 0 ≤ cV s u2 j ∧ cV s u2 j ≤ 255 := fun j _ => by have := nV_bd s (cT s u2 j); unfold cV; omega
        have hna := fun w' => new_any (cV s u2) sy w' hcb HSZ.out
        obtain ⟨ne, hne⟩ : ∃ ne, ne = nE (cV s u2) sy := ⟨_, rfl⟩
        rw [← hne] at hna HNE
        obtain ⟨ca, hca⟩ : ∃ ca, ca = cV s u2 := ⟨_, rfl⟩
        rw [← hca] at hna HPk HN1
        obtain ⟨aa, haa⟩ : ∃ aa, aa = (arrN .u8 16 ca).toList := ⟨_, rfl⟩
        have haa2 : arrN .u8 16 ca = aa.toArray := by rw [haa]
        have hal : aa.length = 16 := by rw [haa, Array.length_toList, arrN_size]
        have hrg : ∀ (w' : World) (y1 : ByteArray), Blk w' wc.heap.size 140 (Hf.cells ⟨x, y, ca, y1⟩).toArray → w'.rangeAt wc.heap.size 2 aa := fun w' y1 hB => by rw [haa]; exact hfRange hB
        rw [haa2] at hna
        have HNA := Lib.hid hna; have HAL := Lib.hid hal; have HRG := Lib.hid hrg; have HCA := Lib.hid hca
        clear hcb hna hne haa haa2 hal hrg hca
        have f18 := HPk.out.hf.frozen 18
        have c18 := hfCellS HPk.out.hf
        dsimp only at c18
        go_wp2_with fail
        refine (text7z n _ rfl _ r g s u3 HIk.out.rd).mono ?_
        rintro ex w6 ⟨rfl, h6, k6⟩
        rw [← HU4.out] at h6; rw [← HSY.out]
        have HI6 := Lib.hid (HIk.out.two h6 k6); have HP6 := Lib.hid (HPk.out.two HIk.out k6); clear h6 k6 f18 c18
        have f18 := HP6.out.hf.frozen 18
        have c18 := hfCellS HP6.out.hf
        dsimp only at c18
        go_upto_region 17 with fail
        have hap := Apt.set w6 ⟨wc.heap.size, 18, none⟩ (.string sy)
        have hI7 := HI6.out.apt hap HP6.out
        have hP7 : HuP w (w6.setCell ⟨wc.heap.size, 18, none⟩ (.string sy)) wc.heap.size v ⟨x, y, ca, sy⟩ := ⟨hfSetS HP6.out.hf sy, HP6.out.ne, HP6.out.l7⟩
        have HI7 := Lib.hid hI7; have HP7 := Lib.hid hP7
        clear hap hI7 hP7 f18 c18
        have c18 : (w6.setCell ⟨wc.heap.size, 18, none⟩ (.string sy)).cell? ⟨wc.heap.size, 18, none⟩ = some (.string sy) := hfCellS HP7.out.hf
        go_upto_region 18 with (first | (refine wpList_load_mid rfl 138 (.tmp 64) rfl wc.heap.size 2 rfl aa (.array 16 5) (HRG.out _ _ HP7.out.hf) Tryd.underlying138 rfl (by rw [HAL.out]; kernel_rfl) ?_) | (go_at_call 55; refine (HNA.out _).mono ?_; rintro ex w8 ⟨⟨pv, rfl⟩, hb8⟩; have HI8 := Lib.hid (HI7.out.bel hb8); have HP8 := Lib.hid (HP7.out.bel hb8); clear hb8))
        clear c18
        go_wp2_with fail
        refine (test7e _ r g s u4 5 ok _ ?_ HI8.out.rd).mono ?_
        exact HNE.out
        rintro ex w9 ⟨rfl, h9, k9⟩
        rw [← HU5.out] at h9
        have HI9 := Lib.hid (HI8.out.two h9 k9); have HP9 := Lib.hid (HP8.out.two HI8.out k9); clear h9 k9
        obtain ⟨A, cp, rfl, hcp⟩ := HI9.out.ow.form
        have e0 : w9.cell? ⟨w.heap.size, 0, none⟩ = some (.slice A l.length cp) := HI9.out.qs.cell 0
        obtain ⟨cq, hcq⟩ : ∃ cq, cq = (Hf.cells ⟨x, y, ca, sy⟩).toArray := ⟨_, rfl⟩
        have hB9 := HP9.out.hf
        rw [← hcq] at hB9
        have HB9 := Lib.hid hB9
        have hcqz : cq.size = 19 := by rw [hcq, List.size_toArray, Hf.is.len]
        have hcql : cq.toList = Hf.cells ⟨x, y, ca, sy⟩ := by rw [hcq]
        have HCQZ := Lib.hid hcqz; have HCQL := Lib.hid hcql
        clear hcq hcqz hcql hcp hB9
        go_wp2_with (first | (refine wpList_load_row rfl 140 (.tmp 7) rfl wc.heap.size rfl 140 cq (0, 0) _ HB9.out Tryd.underlying140 rfl (by rw [HCQZ.out]; kernel_rfl) ?_) | (refine wpList_buildSlice1 rfl 117 140 (.tmp 77) rfl 19 cq rfl Tryd.underlying117 (by kernel_rfl) (by decide) (by decide) HCQZ.out ?_) | (at_builtin; refine appC (q := 19) (by_ := 48) (cs := cq) ⟨x, y, ca, sy⟩ Hf.is Tryd.underlying117 (by kernel_rfl) (by decide) (by decide) rfl (.tmp 76) (.tmp 78) rfl rfl rfl HCQL.out HI9.out.ow (by have := HLF.out; omega) HI9.out.tw.size ?_; intro v8 w8 hO8 hk8 hb8; obtain ⟨A8, n8, cp8, rfl⟩ := hO8.form2; have HS8 := Lib.hid (hk8 _ _ _ (by decide) HI9.out.qs); have e8 : w8.cell? ⟨w.heap.size, 0, none⟩ = some (.slice A l.length cp) := HS8.out.cell 0; have f8 := HS8.out.frozen 0; have HO8 := Lib.hid hO8; have HK8 := Lib.hid hk8; have HB8 := Lib.hid hb8; clear hO8 hk8 hb8))
        have hR8 := HI9.out.rd.keepT HK8.out (by decide) (by decide)
        have hI10 : HuI w r g s (.slice A8 n8 cp8) (l ++ [⟨x, y, ca, sy⟩]) u5 (w8.setCell ⟨w.heap.size, 0, none⟩ (.slice A8 n8 cp8)) :=
          ⟨hR8.set (HS8.out.ne hR8.1 (by decide)) (HS8.out.ne hR8.2.1 (by decide)) _, HS8.out.set_ 0 (.slice A8 n8 cp8), HO8.out.set (HO8.out.neT HS8.out (by decide)) _, (HI9.out.tw.bel HB8.out).set (Nat.le_refl _) _⟩
        have HI10 := Lib.hid hI10; clear hI10 hR8
        go_wp2_with fail
        go_roundw
        case rel => exact ⟨f, false, (.slice A8 n8 cp8), l ++ [⟨x, y, ca, sy⟩], u5, rfl, Lib.hid (by simp), HI10, HN1, HFN, Lib.hid (by rw [List.length_append]; have := HLN.out; simp; omega)⟩
        case measure =>
          rw [meas_rd HI10.out.rd, HM0.out]
          have h9 := HME.out
          split
          · rename_i hz; have := h9 hz; omega
          · omega
end Go.Proofs.YthibnhgbgmpjoaaDoor

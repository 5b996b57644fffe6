/- The writer's body of each kind; Bytes of any (gen_segs.py). No condition but the laid table. -/
import Derived.Test.YthibnhgbgmpjoaaDoorHSegR
import Derived.Test.YthibnhgbgmpjoaaDoorHSegH
namespace Go.Proofs.YthibnhgbgmpjoaaDoor
open Go.RowKit
set_option linter.unusedSimpArgs false
set_option linter.unusedVariables false
set_option maxRecDepth 100000
set_option maxHeartbeats 2000000 in
theorem bodyPlain (w0 : World) (b : Nat) (c : Int) (s : ByteArray) (hs : s.size ≤ 1000000000000) (w : World) (hW : WrI w0 b [] false w) :
    Calls Tryd.prog 22 #[.pointer (some ⟨b, 0, none⟩), .iface 97 (.agg #[.int .i64 c, .string s])] w fun e w' => e = .returned (.bool true) ∧ WrI w0 b (s.data.toList) (decide (c < 224)) w' := by
  have HI1 := Lib.hid (hW.alloc (.cells #[.int .i64 c, .string s] 97))
  obtain ⟨pp, vv, hkk⟩ := HI1.out.wt.bad
  have c2 : (w.alloc (.cells #[.int .i64 c, .string s] 97)).cell? ⟨b, 2, none⟩ = some (.bool false) := hkk.cell 2
  have f2 := hkk.frozen 2
  have HP1 : Hid (Blk (w.alloc (.cells #[.int .i64 c, .string s] 97)) w.heap.size 97 #[.int .i64 c, .string s]) := Lib.hid (Blk.new _ _ _)
  have HNE := Lib.hid (HP1.out.ne hkk (by decide))
  clear hkk hW
  go_enter Tryd.func22, Tryd.ntmps22
  go_upto_region 7 with fail
  have HI2 := Lib.hid (HI1.out.setBad (decide (c < 224)))
  have HP2 := Lib.hid (HP1.out.far (p := ⟨b, 2, none⟩) HNE.out (.bool (decide (c < 224))))
  clear c2 f2
  refine region_plan (.run [0, 1, 2, 3, 4] (.ev 5 .fin)) (fun w' => True) (by kernel_rfl) trivial ?_
  intro wd hwd
  have HId : Hid (WrI w0 b [] (decide (c < 224)) wd) := Lib.hid (hwd ▸ HI2.out.drew)
  have hS : wd.cell? ⟨w.heap.size, 1, none⟩ = some (.string s) := by rw [hwd]; exact HP2.out.cell 1
  clear hwd
  refine plan_run fun m hm => ?_
  simp only [pickO, List.filterMap_cons, List.filterMap_nil, List.getElem?_toArray, List.getElem?_cons_zero, List.getElem?_cons_succ] at hm
  subst hm
  go_wp2_with fail
  refine ⟨rfl, by rfl, ?_⟩
  refine plan_ev fun m hm => ?_
  simp only [pickO, List.filterMap_cons, List.filterMap_nil, List.getElem?_toArray, List.getElem?_cons_zero, List.getElem?_cons_succ] at hm
  subst hm
  go_wp2_with (go_at_call 25; refine (wstrI w0 b _ s _ _ (by simp only [List.length_nil]; omega) HId.out).mono ?_; rintro ex w14 ⟨⟨y, rfl⟩, h14, k14⟩; have HI14 := Lib.hid h14; clear h14 k14)
  refine ⟨rfl, trivial, ?_⟩
  try simp only [Act.put, List.setIfInBounds_toArray, List.set_cons_zero, List.set_cons_succ]
  refine plan_fin ?_
  go_wp2_with fail
  go_ret
  exact ⟨rfl, by simpa using HI14.out⟩
set_option maxHeartbeats 2000000 in
theorem bodyQuants (w0 : World) (b : Nat) (base : Nat) (A : Option Addr) (cp : Nat) (L : List Qt) (hLd : Laid w0) (hO : OwnC Qt.cells 66 w0 base 136 (.slice A L.length cp) L) (hok : ∀ p ∈ L, p.ok) (hL : L.length ≤ 1000000) (w : World) (hW : WrI w0 b [] false w) :
    Calls Tryd.prog 22 #[.pointer (some ⟨b, 0, none⟩), .iface 115 (.agg #[.slice A L.length cp])] w fun e w' => e = .returned (.bool true) ∧ WrI w0 b (catW qtW L) (L.any qtB) w' := by
  have HI1 := Lib.hid (hW.alloc (.cells #[.slice A L.length cp] 115)); clear hW
  go_enter Tryd.func22, Tryd.ntmps22
  go_wp2_with (go_at_call 45; refine (wquants_walk w0 base b A cp L [] false _ hLd hO hok hL (by simp) HI1.out).mono ?_; rintro ex w2 ⟨rfl, h2⟩; have HI2 := Lib.hid h2; clear h2)
  go_ret
  exact ⟨rfl, by simpa using HI2.out⟩
set_option maxHeartbeats 2000000 in
theorem bodyHuffs (w0 : World) (b : Nat) (base : Nat) (A : Option Addr) (cp : Nat) (L : List Hf) (hO : OwnC Hf.cells 19 w0 base 140 (.slice A L.length cp) L) (hok : ∀ p ∈ L, p.ok ∧ p.sym.size ≤ 100000) (hL : L.length ≤ 1000000) (w : World) (hW : WrI w0 b [] false w) :
    Calls Tryd.prog 22 #[.pointer (some ⟨b, 0, none⟩), .iface 119 (.agg #[.slice A L.length cp])] w fun e w' => e = .returned (.bool true) ∧ WrI w0 b (catW hfW L) (L.any hfB) w' := by
  have HI1 := Lib.hid (hW.alloc (.cells #[.slice A L.length cp] 119)); clear hW
  go_enter Tryd.func22, Tryd.ntmps22
  go_wp2_with (go_at_call 46; refine (whuffs_walk w0 base b A cp L [] false _ hO hok hL (by simp) HI1.out).mono ?_; rintro ex w2 ⟨rfl, h2⟩; have HI2 := Lib.hid h2; clear h2)
  go_ret
  exact ⟨rfl, by simpa using HI2.out⟩
set_option maxHeartbeats 2000000 in
theorem bodyScan (w0 : World) (b : Nat) (base : Nat) (A : Option Addr) (cp : Nat) (L : List Pk) (x1 x2 x3 x4 : Int) (hO : OwnC Pk.cells 3 w0 base 146 (.slice A L.length cp) L) (hL : L.length ≤ 1000000) (w : World) (hW : WrI w0 b [] false w) :
    Calls Tryd.prog 22 #[.pointer (some ⟨b, 0, none⟩), .iface 105 (.agg #[.slice A L.length cp, .int .i64 x1, .int .i64 x2, .int .i64 x3, .int .i64 x4])] w fun e w' => e = .returned (.bool true) ∧ WrI w0 b (scW L x1 x2 x3 x4) (scB L x1 x2 x3 x4) w' := by
  have HI1 := Lib.hid (hW.alloc (.cells #[.slice A L.length cp, .int .i64 x1, .int .i64 x2, .int .i64 x3, .int .i64 x4] 105)); clear hW
  go_enter Tryd.func22, Tryd.ntmps22
  go_wp2_with (go_at_call 48; refine (wscan_walk w0 base b x1 x2 x3 x4 A cp L [] false _ hO hL (by simp) HI1.out).mono ?_; rintro ex w2 ⟨rfl, h2⟩; have HI2 := Lib.hid h2; clear h2)
  go_ret
  exact ⟨rfl, by simpa using HI2.out⟩
set_option maxHeartbeats 2000000 in
theorem bodyFrame (w0 : World) (b : Nat) (base : Nat) (A : Option Addr) (cp : Nat) (L : List Pt) (c h ww : Int) (hO : OwnC Pt.cells 4 w0 base 150 (.slice A L.length cp) L) (hL : L.length ≤ 1000000) (w : World) (hW : WrI w0 b [] false w) :
    Calls Tryd.prog 22 #[.pointer (some ⟨b, 0, none⟩), .iface 123 (.agg #[.int .i64 c, .int .i64 h, .int .i64 ww, .slice A L.length cp])] w fun e w' => e = .returned (.bool true) ∧ WrI w0 b (frW h ww L) (decide (194 < c) || frB h ww L) w' := by
  have HI1 := Lib.hid (hW.alloc (.cells #[.int .i64 c, .int .i64 h, .int .i64 ww, .slice A L.length cp] 123))
  obtain ⟨pp, vv, hkk⟩ := HI1.out.wt.bad
  have c2 : (w.alloc (.cells #[.int .i64 c, .int .i64 h, .int .i64 ww, .slice A L.length cp] 123)).cell? ⟨b, 2, none⟩ = some (.bool false) := hkk.cell 2
  have f2 := hkk.frozen 2
  have HP1 : Hid (Blk (w.alloc (.cells #[.int .i64 c, .int .i64 h, .int .i64 ww, .slice A L.length cp] 123)) w.heap.size 123 #[.int .i64 c, .int .i64 h, .int .i64 ww, .slice A L.length cp]) := Lib.hid (Blk.new _ _ _)
  have HNE := Lib.hid (HP1.out.ne hkk (by decide))
  clear hkk hW
  go_enter Tryd.func22, Tryd.ntmps22
  go_upto_region 17 with fail
  have HI2 := Lib.hid (HI1.out.setBad (decide (194 < c)))
  have hP2 := HP1.out.far (p := ⟨b, 2, none⟩) HNE.out (.bool (decide (194 < c)))
  clear c2 f2
  have g0 := hP2.cell 0
  have g1 := hP2.cell 1
  have g2 := hP2.cell 2
  have g3 := hP2.cell 3
  simp only [List.getElem?_toArray, List.getElem?_cons_zero, List.getElem?_cons_succ] at g0 g1 g2 g3
  clear hP2
  go_wp2_with (go_at_call 47; refine (wframe_walk w0 base b c h ww A cp L [] _ _ hO hL (by simp) HI2.out).mono ?_; rintro ex w2 ⟨rfl, h2⟩; have HI3 := Lib.hid h2; clear h2)
  go_ret
  exact ⟨rfl, by simpa using HI3.out⟩
set_option maxHeartbeats 2000000 in
theorem bodyRestart (w0 : World) (b : Nat) (n : Int) (w : World) (hW : WrI w0 b [] false w) :
    Calls Tryd.prog 22 #[.pointer (some ⟨b, 0, none⟩), .iface 94 (.agg #[.int .i64 n])] w fun e w' => e = .returned (.bool true) ∧ WrI w0 b (putL n 2) (putB n 2) w' := by
  have HI1 := Lib.hid (hW.alloc (.cells #[.int .i64 n] 94)); clear hW
  go_enter Tryd.func22, Tryd.ntmps22
  go_wp2_with (go_at_call 49; refine (wnumI w0 b [] n 2 (by decide) (by decide) false _ (by simp) HI1.out).mono ?_; rintro ex w2 ⟨rfl, h2, _⟩; have HI2 := Lib.hid h2; clear h2)
  go_ret
  exact ⟨rfl, by simpa using HI2.out⟩
/-- A segment's code, the bytes of its body, whether it is bad; what may be said of one that is written. -/
def sgC : Sg → Int
  | .plain c _ => c
  | .quants _ => 219
  | .huffs _ => 196
  | .frame c _ _ _ => c
  | .scan _ _ _ _ _ => 218
  | .rst _ => 221
def sgW : Sg → List UInt8
  | .plain _ s => s.data.toList
  | .quants l => catW qtW l
  | .huffs l => catW hfW l
  | .frame _ h w l => frW h w l
  | .scan l a b hi lo => scW l a b hi lo
  | .rst n => putL n 2
def sgB : Sg → Bool
  | .plain c _ => decide (c < 224)
  | .quants l => l.any qtB
  | .huffs l => l.any hfB
  | .frame c h w l => decide (194 < c) || frB h w l
  | .scan l a b hi lo => scB l a b hi lo
  | .rst n => putB n 2
def Sg.ok : Sg → Prop
  | .plain _ s => s.size ≤ 1000000000000
  | .quants l => (∀ p ∈ l, p.ok) ∧ l.length ≤ 1000000
  | .huffs l => (∀ p ∈ l, p.ok ∧ p.sym.size ≤ 100000) ∧ l.length ≤ 1000000
  | .frame _ _ _ l => l.length ≤ 1000000
  | .scan l _ _ _ _ => l.length ≤ 1000000
  | .rst _ => True
def byE (x : Sg) : Int := if sgB x = true then 1 else if prE (sgC x) ⟨(sgW x).toArray⟩ = 0 then 0 else 1
def byS (x : Sg) : ByteArray := if byE x = 0 then ⟨(putL (bits .or .i64 65280 (sgC x)) 2).toArray⟩ ++ ⟨(putL ((sgW x).length + 2 : Nat) 2).toArray⟩ ++ ⟨(sgW x).toArray⟩ else ⟨#[]⟩
theorem own_len {α : Type} {c : α → List Value} {q : Nat} {w : World} {base : Nat} {e : TypeId} {v : Value} {l : List α} (h : OwnC c q w base e v l) : ∃ A cp, v = .slice A l.length cp := by obtain ⟨A, cp, h, _⟩ := h.form; exact ⟨A, cp, h⟩
theorem bodyK_of {w : World} {sv : Value} {L : List UInt8} {bad : Bool} (h : ∀ w1, WrI w (w.heap.size + 1) [] false w1 → Calls Tryd.prog 22 #[.pointer (some ⟨w.heap.size + 1, 0, none⟩), sv] w1 fun e w' => e = .returned (.bool true) ∧ WrI w (w.heap.size + 1) L bad w') : BodyK w sv L bad :=
  fun w1 hb hW => (h w1 ⟨hW, hb⟩).mono fun _ _ ⟨h1, h2⟩ => ⟨h1, h2.wt, h2.be⟩
theorem body_any {w : World} {base : Nat} {v : Value} {x : Sg} (hL : Laid w) (hV : SgV w base v x) (hx : x.ok) : BodyK w v (sgW x) (sgB x) := by
  refine bodyK_of fun w1 hW => ?_
  cases x with
  | plain c s => obtain rfl := hV; exact bodyPlain w _ c s hx w1 hW
  | quants l => obtain ⟨u, rfl, hO⟩ := hV; obtain ⟨A, cp, rfl⟩ := own_len hO; exact bodyQuants w _ base A cp l hL hO hx.1 hx.2 w1 hW
  | huffs l => obtain ⟨u, rfl, hO⟩ := hV; obtain ⟨A, cp, rfl⟩ := own_len hO; exact bodyHuffs w _ base A cp l hO hx.1 hx.2 w1 hW
  | frame c h ww l => obtain ⟨u, rfl, hO⟩ := hV; obtain ⟨A, cp, rfl⟩ := own_len hO; exact bodyFrame w _ base A cp l c h ww hO hx w1 hW
  | scan l a b hi lo => obtain ⟨u, rfl, hO⟩ := hV; obtain ⟨A, cp, rfl⟩ := own_len hO; exact bodyScan w _ base A cp l a b hi lo hO hx w1 hW
  | rst n => obtain rfl := hV; exact bodyRestart w _ n w1 hW
theorem codePlain (c : Int) (s : ByteArray) (w : World) : Calls Tryd.prog 84 #[.agg #[.int .i64 c, .string s]] w fun e w' => e = .returned (.int .i64 c) ∧ Below w.heap.size w w' := by
  go_enter Tryd.func84, Tryd.ntmps84
  go_wp2
  go_ret
  exact ⟨rfl, (Below.refl _ w).alloc (Nat.le_refl _) _⟩
theorem codeQuants (A : Option Addr) (n cp : Nat) (w : World) : Calls Tryd.prog 86 #[.agg #[.slice A n cp]] w fun e w' => e = .returned (.int .i64 219) ∧ Below w.heap.size w w' := by
  go_enter Tryd.func86, Tryd.ntmps86
  go_wp2
  go_ret
  exact ⟨rfl, (Below.refl _ w).alloc (Nat.le_refl _) _⟩
theorem codeHuffs (A : Option Addr) (n cp : Nat) (w : World) : Calls Tryd.prog 87 #[.agg #[.slice A n cp]] w fun e w' => e = .returned (.int .i64 196) ∧ Below w.heap.size w w' := by
  go_enter Tryd.func87, Tryd.ntmps87
  go_wp2
  go_ret
  exact ⟨rfl, (Below.refl _ w).alloc (Nat.le_refl _) _⟩
theorem codeFrame (c h ww : Int) (A : Option Addr) (n cp : Nat) (w : World) : Calls Tryd.prog 88 #[.agg #[.int .i64 c, .int .i64 h, .int .i64 ww, .slice A n cp]] w fun e w' => e = .returned (.int .i64 c) ∧ Below w.heap.size w w' := by
  go_enter Tryd.func88, Tryd.ntmps88
  go_wp2
  go_ret
  exact ⟨rfl, (Below.refl _ w).alloc (Nat.le_refl _) _⟩
theorem codeScan (A : Option Addr) (n cp : Nat) (x1 x2 x3 x4 : Int) (w : World) : Calls Tryd.prog 85 #[.agg #[.slice A n cp, .int .i64 x1, .int .i64 x2, .int .i64 x3, .int .i64 x4]] w fun e w' => e = .returned (.int .i64 218) ∧ Below w.heap.size w w' := by
  go_enter Tryd.func85, Tryd.ntmps85
  go_wp2
  go_ret
  exact ⟨rfl, (Below.refl _ w).alloc (Nat.le_refl _) _⟩
theorem codeRestart (n : Int) (w : World) : Calls Tryd.prog 83 #[.agg #[.int .i64 n]] w fun e w' => e = .returned (.int .i64 221) ∧ Below w.heap.size w w' := by
  go_enter Tryd.func83, Tryd.ntmps83
  go_wp2
  go_ret
  exact ⟨rfl, (Below.refl _ w).alloc (Nat.le_refl _) _⟩
theorem bytes_any {w : World} {base : Nat} {v : Value} {x : Sg} (hL : Laid w) (hV : SgV w base v x) (hx : x.ok) :
    Calls Tryd.prog 11 #[v] w fun e w' => e = .returned (.tuple #[.string (byS x), .int .i64 (byE x)]) ∧ Below w.heap.size w w' := by
  have hB := body_any hL hV hx
  have hK : ParseK w (sgC x) (sgW x) (prE (sgC x) ⟨(sgW x).toArray⟩) := fun w1 hb => (parse_walk _ _ w1 (hL.below hb)).mono fun e w' ⟨v, he, _, _, hb⟩ => ⟨⟨v, he⟩, hb⟩
  by_cases hb : sgB x = true
  · have hE : byE x = 1 := by rw [byE, if_pos hb]
    have hS : byS x = ⟨#[]⟩ := by rw [byS, hE, if_neg (by decide)]
    rw [hE, hS]
    rw [hb] at hB
    cases x with
    | plain c s => obtain rfl := hV; exact bytesBad_Plain _ _ w hB
    | quants l => obtain ⟨u, rfl, hO⟩ := hV; exact bytesBad_Quants _ _ w hB
    | huffs l => obtain ⟨u, rfl, hO⟩ := hV; exact bytesBad_Huffs _ _ w hB
    | frame c h ww l => obtain ⟨u, rfl, hO⟩ := hV; exact bytesBad_Frame _ _ w hB
    | scan l a b hi lo => obtain ⟨u, rfl, hO⟩ := hV; exact bytesBad_Scan _ _ w hB
    | rst n => obtain rfl := hV; exact bytesBad_Restart _ _ w hB
  · have hb : sgB x = false := by simpa using hb
    rw [hb] at hB
    by_cases hp : prE (sgC x) ⟨(sgW x).toArray⟩ = 0
    · have hE : byE x = 0 := by rw [byE, if_neg (by simp [hb]), if_pos hp]
      have hS : byS x = ⟨(putL (bits .or .i64 65280 (sgC x)) 2).toArray⟩ ++ ⟨(putL ((sgW x).length + 2 : Nat) 2).toArray⟩ ++ ⟨(sgW x).toArray⟩ := by rw [byS, if_pos hE]
      have hlen : (sgW x).length ≤ 65533 := by have := (prE_may hp).2; simpa [ByteArray.size] using this
      rw [hp] at hK
      rw [hE, hS]
      cases x with
      | plain c s => obtain rfl := hV; exact bytesOk_Plain _ _ _ hlen w hB (codePlain c s) hK
      | quants l => obtain ⟨u, rfl, hO⟩ := hV; obtain ⟨A, cp, rfl⟩ := own_len hO; exact bytesOk_Quants _ _ _ hlen w hB (codeQuants _ _ _) hK
      | huffs l => obtain ⟨u, rfl, hO⟩ := hV; obtain ⟨A, cp, rfl⟩ := own_len hO; exact bytesOk_Huffs _ _ _ hlen w hB (codeHuffs _ _ _) hK
      | frame c h ww l => obtain ⟨u, rfl, hO⟩ := hV; obtain ⟨A, cp, rfl⟩ := own_len hO; exact bytesOk_Frame _ _ _ hlen w hB (codeFrame _ _ _ _ _ _) hK
      | scan l a b hi lo => obtain ⟨u, rfl, hO⟩ := hV; obtain ⟨A, cp, rfl⟩ := own_len hO; exact bytesOk_Scan _ _ _ hlen w hB (codeScan _ _ _ _ _ _ _) hK
      | rst n => obtain rfl := hV; exact bytesOk_Restart _ _ _ hlen w hB (codeRestart n) hK
    · have hE : byE x = 1 := by rw [byE, if_neg (by simp [hb]), if_neg hp]
      have hS : byS x = ⟨#[]⟩ := by rw [byS, hE, if_neg (by decide)]
      rw [hE, hS]
      cases x with
      | plain c s => obtain rfl := hV; exact bytesErr_Plain _ _ _ hp _ w hB (codePlain c s) hK
      | quants l => obtain ⟨u, rfl, hO⟩ := hV; obtain ⟨A, cp, rfl⟩ := own_len hO; exact bytesErr_Quants _ _ _ hp _ w hB (codeQuants _ _ _) hK
      | huffs l => obtain ⟨u, rfl, hO⟩ := hV; obtain ⟨A, cp, rfl⟩ := own_len hO; exact bytesErr_Huffs _ _ _ hp _ w hB (codeHuffs _ _ _) hK
      | frame c h ww l => obtain ⟨u, rfl, hO⟩ := hV; obtain ⟨A, cp, rfl⟩ := own_len hO; exact bytesErr_Frame _ _ _ hp _ w hB (codeFrame _ _ _ _ _ _) hK
      | scan l a b hi lo => obtain ⟨u, rfl, hO⟩ := hV; obtain ⟨A, cp, rfl⟩ := own_len hO; exact bytesErr_Scan _ _ _ hp _ w hB (codeScan _ _ _ _ _ _ _) hK
      | rst n => obtain rfl := hV; exact bytesErr_Restart _ _ _ hp _ w hB (codeRestart n) hK
end Go.Proofs.YthibnhgbgmpjoaaDoor

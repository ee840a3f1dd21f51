/- Part 13 of the proof: Parse1; no condition of ours. -/
import Derived.Test.YtaioeailgknfjaaGreatDoorPkp12
set_option linter.unusedVariables false
set_option linter.unusedSimpArgs false
namespace Go.Proofs.YtaioeailgknfjaaGreatDoor
open Go.Lib (hid)
open Go Go.RowKit Go.Sort
set_option maxRecDepth 8000 in
set_option maxHeartbeats 1000000 in
theorem parse_now (pb : Nat) (t : Tk) (l : List Tk) (w : World) (h : Prs w pb (t :: l)) :
    Calls Tryz.prog 69 #[.pointer (some ⟨pb, 0, none⟩)] w fun e w' => e = .returned (.agg #[.int .u8 t.k, .string t.text, .int .i64 t.pos]) ∧ Ext w w' := by
  obtain ⟨b, o, n, c, i, hB, h1, h2, hi, hf, q0, q1, q2, -⟩ := h.open_
  have hz : (i : Int) < (n : Int) := by omega
  have c0 := hB.cell 0
  have c1 := hB.cell 1
  have f0 := hB.frozen 0
  have f1 := hB.frozen 1
  have hl := hB.lt
  simp at c0 c1
  have n0 := fun W (x : Ext w W) => x.cell c0
  have n1 := fun W (x : Ext w W) => x.cell c1
  have m0 := fun W (x : Ext w W) => x.cell q0
  have m1 := fun W (x : Ext w W) => x.cell q1
  have m2 := fun W (x : Ext w W) => x.cell q2
  clear h hB f0 f1
  go_enter Tryz.func69, Tryz.ntmps69
  go_wp2_with fail
  refine wp_region_held_drew (S := fun w' => Ext w w') (by kernel_rfl) (by (try dsimp only); (exact eX)) (fun hHeld => ?_)
  refine tL 0 ?_;try simp only [Act.put,pA,pB,pC]
  refine tL 1 ?_;try simp only [Act.put,pA,pB,pC]
  refine tL 2 ?_;try simp only [Act.put,pA,pB,pC]
  refine tL 3 ?_;try simp only [Act.put,pA,pB,pC]
  refine tL 4 ?_;try simp only [Act.put,pA,pB,pC]
  refine tL 5 ?_;try simp only [Act.put,pA,pB,pC]
  refine tL 6 ?_;try simp only [Act.put,pA,pB,pC]
  refine tL 7 ?_;try simp only [Act.put,pA,pB,pC]
  refine tL 8 ?_;try simp only [Act.put,pA,pB,pC]
  refine tL 9 ?_;try simp only [Act.put,pA,pB,pC]
  refine dK 10 fun K hK => ?_; go_simp; refine hK.out _ _ (by (try dsimp only); (exact eX)) (fun hHeld => ?_); clear hK K; try simp only [Act.put,pA,pB,pC]
  refine wpAnyH_done (by kernel_rfl) ?_ _
  go_wp2_with fail
  exact bodyPost_ret (v := .agg #[.int .u8 t.k, .string t.text, .int .i64 t.pos]) (by simp [results, Tryz.results69, go_sem]) rfl ⟨rfl, hHeld⟩
theorem isT_cons (xs : List ByteArray) (t : Tk) (l : List Tk) : isT xs (t :: l) = ((t.k == 4 || t.k == 5) && inB xs t.text) := rfl
set_option maxRecDepth 8000 in
set_option maxHeartbeats 1000000 in
theorem parse_is (xs : List ByteArray) (pb : Nat) (t : Tk) (l : List Tk) (w : World) (a : Option Addr) (len cap : Nat) (h1 : len ≤ cap) (h2 : cap ≤ 9223372036854775807) (hr : IsRow w (vstr xs) a len) (h : Prs w pb (t :: l)) :
    Calls Tryz.prog 36 #[.pointer (some ⟨pb, 0, none⟩), .slice a len cap] w fun e w' => e = .returned (.bool (isT xs (t :: l))) ∧ Ext w w' := by
  have KN := hid fun W (x : Ext w W) => parse_now pb t l W (h.ext x)
  have KC := hid fun W (x : Ext w W) => strs_contains t.text xs W a len cap h1 h2 (hr.ext x)
  have HT := hid (isT_cons xs t l)
  clear hr h
  have hc : t.k = 4 ∨ t.k = 5 ∨ (t.k ≠ 4 ∧ t.k ≠ 5) := by omega
  generalize isT xs (t :: l) = r at *
  generalize inB xs t.text = c at *
  obtain ⟨k, s, p⟩ := t
  simp only at *
  rcases hc with rfl | rfl | ⟨n4, n5⟩
  · have HR : Hid (r = c) := hid (by rw [HT.out]; simp)
    go_enter Tryz.func36, Tryz.ntmps36
    go_wp2_with (first | (go_at_call 69; refine (KN.out _ (by (exact eX))).mono ?_; rintro e w1 ⟨rfl, x1⟩) | (go_at_call 70; refine (KC.out _ (by (exact eX))).mono ?_; rintro e w2 ⟨rfl, x2⟩))
    go_ret
    exact ⟨by rw [HR.out]; rfl, by (exact eX)⟩
  · have HR : Hid (r = c) := hid (by rw [HT.out]; simp)
    go_enter Tryz.func36, Tryz.ntmps36
    go_wp2_with (first | (go_at_call 69; refine (KN.out _ (by (exact eX))).mono ?_; rintro e w1 ⟨rfl, x1⟩) | (go_at_call 70; refine (KC.out _ (by (exact eX))).mono ?_; rintro e w2 ⟨rfl, x2⟩))
    go_ret
    exact ⟨by rw [HR.out]; rfl, by (exact eX)⟩
  · have HR : Hid (r = false) := hid (by rw [HT.out]; simp [n4, n5])
    have b4 : (k == 4) = false := by simpa using n4
    have b5 : (k == 5) = false := by simpa using n5
    clear n4 n5
    go_enter Tryz.func36, Tryz.ntmps36
    go_wp2_with (first | (go_at_call 69; refine (KN.out _ (by (exact eX))).mono ?_; rintro e w1 ⟨rfl, x1⟩) | (go_at_call 70; refine (KC.out _ (by (exact eX))).mono ?_; rintro e w2 ⟨rfl, x2⟩))
    go_ret
    exact ⟨by rw [HR.out]; rfl, by (exact eX)⟩
set_option maxRecDepth 8000 in
set_option maxHeartbeats 1000000 in
theorem parse_take (pb : Nat) (t : Tk) (l : List Tk) (w : World) (h : Prs w pb (t :: l)) :
    Calls Tryz.prog 37 #[.pointer (some ⟨pb, 0, none⟩)] w fun e w' => e = .returned (.agg #[.int .u8 t.k, .string t.text, .int .i64 t.pos]) ∧ ExtX (· = pb) w w' ∧ (l ≠ [] → Prs w' pb l) := by
  have KN := hid fun W (x : Ext w W) => parse_now pb t l W (h.ext x)
  obtain ⟨b, o, n, c, i, hB, h1, h2, hi, hf, q0, q1, q2, hP⟩ := h.open_
  have hw1 : IntKind.i64.wrap ((i : Int) + 1) = (i : Int) + 1 := IntWalk.i64_in _ ⟨by omega, by omega⟩
  have HP := hid hP
  have HB := hid hB
  have hlt := hB.lt
  clear h hB q0 q1 q2 hf hP
  go_enter Tryz.func37, Tryz.ntmps37
  go_wp2_with fail
  refine (KN.out _ (by (exact eX))).mono ?_
  rintro e w1 ⟨rfl, x1⟩
  have y1 : Ext w w1 := by (exact eX)
  have hB1 := HB.out.ext y1
  have c1 := hB1.cell 1
  have f1 := hB1.frozen 1
  have hl1 := hB1.lt
  simp at c1
  have hZ := (Blk.new w 37 #[.int .u8 0, .string ⟨#[]⟩, .int .i64 0]).ext x1
  have d0 := hZ.cell 0
  have d1 := hZ.cell 1
  have d2 := hZ.cell 2
  simp at d0 d1 d2
  have g0 := hZ.frozen 0
  have g1 := hZ.frozen 1
  have g2 := hZ.frozen 2
  have hlz := hZ.lt
  have hne : pb ≠ w.heap.size := by omega
  have hne' : w.heap.size ≠ pb := by omega
  have hB9 := hid (((((hB1.set_ 1 (.int .i64 (↑i + 1))).far (p := ⟨w.heap.size, 0, none⟩) hne (.int .u8 t.k)).far (p := ⟨w.heap.size, 1, none⟩) hne (.string t.text)).far (p := ⟨w.heap.size, 2, none⟩) hne (.int .i64 t.pos)).alloc (.cells #[.int .u8 t.k, .string t.text, .int .i64 t.pos] 37))
  have hZ9 := hid (((((hZ.far (p := ⟨pb, 1, none⟩) hne' (.int .i64 (↑i + 1))).set_ 0 (.int .u8 t.k)).set_ 1 (.string t.text)).set_ 2 (.int .i64 t.pos)).alloc (.cells #[.int .u8 t.k, .string t.text, .int .i64 t.pos] 37))
  have Y1 := hid y1
  clear hB1 hZ y1
  go_wp2_with fail
  obtain ⟨r0, r1, r2⟩ := tok_cells hZ9.out
  have X9 : ExtX (· = pb) w w1 := ExtX.of Y1.out
  refine bodyPost_ret (v := .agg #[.int .u8 t.k, .string t.text, .int .i64 t.pos]) (by simp [results, Tryz.results37, go_sem, r0, r1, r2]) rfl ⟨rfl, by (exact xX), fun hl => HP.out _ (by (exact xX)) ?_ hl⟩
  exact hB9.out
theorem field_tk0 (k : Int) (s : ByteArray) (p : Int) (w : World) : (Instr.field 37 (.agg #[.int .u8 k, .string s, .int .i64 p]) 0).run Tryz.prog w = .ok (.int .u8 k) w := by kernel_rfl
theorem field_tk1 (k : Int) (s : ByteArray) (p : Int) (w : World) : (Instr.field 37 (.agg #[.int .u8 k, .string s, .int .i64 p]) 1).run Tryz.prog w = .ok (.string s) w := by kernel_rfl
theorem field_tk2 (k : Int) (s : ByteArray) (p : Int) (w : World) : (Instr.field 37 (.agg #[.int .u8 k, .string s, .int .i64 p]) 2).run Tryz.prog w = .ok (.int .i64 p) w := by kernel_rfl
set_option maxRecDepth 8000 in
set_option maxHeartbeats 2000000 in
theorem parse_kind_ok (pb : Nat) (t : Tk) (l : List Tk) (w : World) (h : Prs w pb (t :: l)) :
    Calls Tryz.prog 38 #[.pointer (some ⟨pb, 0, none⟩), .int .u8 t.k] w fun e w' => e = .returned (.agg #[.int .u8 t.k, .string t.text, .int .i64 t.pos]) ∧ ExtX (· = pb) w w' ∧ (l ≠ [] → Prs w' pb l) := by
  have KN := hid fun W (x : Ext w W) => parse_now pb t l W (h.ext x)
  have KT := hid fun W (x : Ext w W) => parse_take pb t l W (h.ext x)
  have hlt := h.lt
  clear h
  have F0 := field_tk0
  go_enter Tryz.func38, Tryz.ntmps38
  go_wp2_with fail
  refine (KN.out _ (by (exact eX))).mono ?_
  rintro e w1 ⟨rfl, x1⟩
  have y1 : Ext w w1 := by (exact eX)
  go_wp2_with fail
  refine (KT.out _ (by (exact eX))).mono ?_
  rintro e w2 ⟨rfl, x2, hp⟩
  have HP := hid hp
  have hZ := ((Blk.new w 37 #[.int .u8 0, .string ⟨#[]⟩, .int .i64 0]).ext x1).extx x2 (by omega)
  have d0 := hZ.cell 0
  have d1 := hZ.cell 1
  have d2 := hZ.cell 2
  simp at d0 d1 d2
  have g0 := hZ.frozen 0
  have g1 := hZ.frozen 1
  have g2 := hZ.frozen 2
  have hlz := hZ.lt
  have hZ9 := hid (((hZ.set_ 0 (.int .u8 t.k)).set_ 1 (.string t.text)).set_ 2 (.int .i64 t.pos))
  have Y2 := hid ((ExtX.of y1).trans x2)
  clear hZ y1 x1 x2 hp
  go_wp2_with fail
  obtain ⟨r0, r1, r2⟩ := tok_cells hZ9.out
  have X9 := Y2.out
  refine bodyPost_ret (v := .agg #[.int .u8 t.k, .string t.text, .int .i64 t.pos]) (by simp [results, Tryz.results38, go_sem, r0, r1, r2]) rfl ⟨rfl, by (exact xX), fun hl => ?_⟩
  have := HP.out hl
  (exact prX)
set_option maxRecDepth 8000 in
set_option maxHeartbeats 2000000 in
theorem parse_kind_no (k : Int) (pb : Nat) (t : Tk) (l : List Tk) (w : World) (h : Prs w pb (t :: l)) (hk : t.k ≠ k) :
    Calls Tryz.prog 38 #[.pointer (some ⟨pb, 0, none⟩), .int .u8 k] w fun e w' => e = thrown (t :: l) ∧ Ext w w' := by
  have KN := hid fun W (x : Ext w W) => parse_now pb t l W (h.ext x)
  have hlt := h.lt
  clear h
  have F0 := field_tk0
  have F2 := field_tk2
  have hb : (t.k != k) = true := by simpa using hk
  clear hk
  go_enter Tryz.func38, Tryz.ntmps38
  go_wp2_with (go_at_call 69; refine (KN.out _ (by (exact eX))).mono ?_; rintro e w1 ⟨rfl, x1⟩)
  exact ⟨rfl, rfl, by (exact eX)⟩
def IsTk (_ : World) (x : ByteArray) (v : Value) : Prop := ∃ k p, v = .agg #[.int .u8 k, .string x, .int .i64 p]
theorem Ended.tail_ne {t : Tk} {l : List Tk} (h : Ended (t :: l)) (hk : t.k ≠ 6) : l ≠ [] ∧ Ended l := by
  have := h.tail hk
  refine ⟨?_, this.1⟩
  rintro rfl
  exact this.1
def getWs (xs : List ByteArray) (l : List Tk) : Res ByteArray := if isT xs l then .ok (textT l, l.tail) else .error l
set_option maxRecDepth 8000 in
set_option maxHeartbeats 2000000 in
theorem parse_word_ok (xs : List ByteArray) (pb : Nat) (t : Tk) (l : List Tk) (w : World) (a : Option Addr) (len cap : Nat) (h1 : len ≤ cap) (h2 : cap ≤ 9223372036854775807) (hr : IsRow w (vstr xs) a len) (h : Prs w pb (t :: l)) (hi : isT xs (t :: l) = true) :
    Calls Tryz.prog 39 #[.pointer (some ⟨pb, 0, none⟩), .slice a len cap] w fun e w' => e = .returned (.agg #[.int .u8 t.k, .string t.text, .int .i64 t.pos]) ∧ ExtX (· = pb) w w' ∧ (l ≠ [] → Prs w' pb l) := by
  have KI := hid fun W (x : Ext w W) => parse_is xs pb t l W a len cap h1 h2 (hr.ext x) (h.ext x)
  have KT := hid fun W (x : Ext w W) => parse_take pb t l W (h.ext x)
  rw [hi] at KI
  have hlt := h.lt
  clear h hr hi
  go_enter Tryz.func39, Tryz.ntmps39
  go_wp2_with fail
  refine (KI.out _ (by (exact eX))).mono ?_
  rintro e w1 ⟨rfl, x1⟩
  have y1 : Ext w w1 := by (exact eX)
  go_wp2_with fail
  refine (KT.out _ (by (exact eX))).mono ?_
  rintro e w2 ⟨rfl, x2, hp⟩
  have HP := hid hp
  have hZ := ((Blk.new w 37 #[.int .u8 0, .string ⟨#[]⟩, .int .i64 0]).ext x1).extx x2 (by omega)
  have d0 := hZ.cell 0
  have d1 := hZ.cell 1
  have d2 := hZ.cell 2
  simp at d0 d1 d2
  have g0 := hZ.frozen 0
  have g1 := hZ.frozen 1
  have g2 := hZ.frozen 2
  have hlz := hZ.lt
  have hZ9 := hid (((hZ.set_ 0 (.int .u8 t.k)).set_ 1 (.string t.text)).set_ 2 (.int .i64 t.pos))
  have Y2 := hid ((ExtX.of y1).trans x2)
  clear hZ y1 x1 x2 hp
  go_wp2_with fail
  obtain ⟨r0, r1, r2⟩ := tok_cells hZ9.out
  have X9 := Y2.out
  refine bodyPost_ret (v := .agg #[.int .u8 t.k, .string t.text, .int .i64 t.pos]) (by simp [results, Tryz.results39, go_sem, r0, r1, r2]) rfl ⟨rfl, by (exact xX), fun hl => ?_⟩
  have := HP.out hl
  (exact prX)
set_option maxRecDepth 8000 in
set_option maxHeartbeats 2000000 in
theorem parse_word_no (xs : List ByteArray) (pb : Nat) (t : Tk) (l : List Tk) (w : World) (a : Option Addr) (len cap : Nat) (h1 : len ≤ cap) (h2 : cap ≤ 9223372036854775807) (hr : IsRow w (vstr xs) a len) (h : Prs w pb (t :: l)) (hi : isT xs (t :: l) = false) :
    Calls Tryz.prog 39 #[.pointer (some ⟨pb, 0, none⟩), .slice a len cap] w fun e w' => e = thrown (t :: l) ∧ Ext w w' := by
  have KI := hid fun W (x : Ext w W) => parse_is xs pb t l W a len cap h1 h2 (hr.ext x) (h.ext x)
  have KN := hid fun W (x : Ext w W) => parse_now pb t l W (h.ext x)
  rw [hi] at KI
  have hlt := h.lt
  have F2 := field_tk2
  clear h hr hi
  go_enter Tryz.func39, Tryz.ntmps39
  go_wp2_with (first | (go_at_call 36; refine (KI.out _ (by (exact eX))).mono ?_; rintro e w1 ⟨rfl, x1⟩) | (go_at_call 69; refine (KN.out _ (by (exact eX))).mono ?_; rintro e w2 ⟨rfl, x2⟩))
  exact ⟨rfl, rfl, by (exact eX)⟩
theorem parse_word (xs : List ByteArray) (pb : Nat) (l : List Tk) (w : World) (a : Option Addr) (len cap : Nat) (h1 : len ≤ cap) (h2 : cap ≤ 9223372036854775807) (hr : IsRow w (vstr xs) a len) (h : Prs w pb l) (he : Ended l) :
    Calls Tryz.prog 39 #[.pointer (some ⟨pb, 0, none⟩), .slice a len cap] w (RetP pb w IsTk (getWs xs l)) := by
  cases l with
  | nil => cases he
  | cons t l =>
    cases hi : isT xs (t :: l) with
    | true =>
      have e : getWs xs (t :: l) = .ok (t.text, l) := by simp [getWs, hi, textT]
      rw [e]
      refine (parse_word_ok xs pb t l w a len cap h1 h2 hr h hi).mono ?_
      rintro e w' ⟨rfl, hx, hp⟩
      exact ⟨hx, _, rfl, ⟨_, _, rfl⟩, hp (he.tail_ne (isT_kind hi)).1⟩
    | false =>
      have e : getWs xs (t :: l) = .error (t :: l) := by simp [getWs, hi]
      rw [e]
      refine (parse_word_no xs pb t l w a len cap h1 h2 hr h hi).mono ?_
      rintro e w' ⟨rfl, hx⟩
      exact ⟨.of hx, rfl⟩
end Go.Proofs.YtaioeailgknfjaaGreatDoor

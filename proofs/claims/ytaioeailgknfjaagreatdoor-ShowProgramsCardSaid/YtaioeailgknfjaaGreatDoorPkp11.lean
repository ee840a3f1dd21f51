/- Part 11 of the proof: Token4; no condition of ours. -/
import Derived.Test.YtaioeailgknfjaaGreatDoorPkp5
import Derived.Test.YtaioeailgknfjaaGreatDoorPkp10
set_option linter.unusedVariables false
set_option linter.unusedSimpArgs false
namespace Go.Proofs.YtaioeailgknfjaaGreatDoor
open Go.Lib (hid)
open Go Go.RowKit Go.Sort
set_option maxHeartbeats 400000 in
theorem chars_span_end (w : World) (a : Option Addr) (len cap : Nat) (k : Int) (h0 : 0 ≤ k) (h : (len : Int) ≤ k) (a' : Option Addr) (len' cap' : Nat) :
    Calls Tryz.prog 90 #[.slice a len cap, .int .i64 k, .slice a' len' cap'] w fun e w' => e = .returned (.int .i64 0) ∧ Ext w w' := by
  have hz : ¬ k < 0 := by omega
  have hz' : (k < 0) = False := by simp; omega
  go_enter Tryz.func90, Tryz.ntmps90
  go_wp2_with fail
  go_ret
  exact ⟨rfl, by (exact eX)⟩
def lexR (B : List UInt8) : List Tk × Int × Int := if 65536 < B.length then ([], 0, 3) else match lexL 0 B with
  | .ok o => (o.map Tok.tk, 0, 0)
  | .error p => ([], (p : Int), 2)
theorem lexR_long {B : List UInt8} (h : 65536 < B.length) : lexR B = ([], 0, 3) := if_pos h
theorem lexR_ok {B : List UInt8} (h : ¬ 65536 < B.length) {o : List Tok} (e : lexL 0 B = .ok o) : lexR B = (o.map Tok.tk, 0, 0) := by unfold lexR; rw [if_neg h, e]
theorem lexR_error {B : List UInt8} (h : ¬ 65536 < B.length) {p : Nat} (e : lexL 0 B = .error p) : lexR B = ([], (p : Int), 2) := by unfold lexR; rw [if_neg h, e]
def RetLex (B : List UInt8) (w : World) (e : Ending) (w' : World) : Prop := ∃ a n c, e = .returned (.tuple #[.slice a n c, .int .i64 (lexR B).2.1, .int .i64 (lexR B).2.2]) ∧ n ≤ c ∧ c ≤ 9223372036854775807 ∧ IsToks w' (lexR B).1 a n ∧ Ext w w'
theorem infoTk : (Tryz.prog.info? 37).map (fun i => (i.zero, i.size, i.bytes)) = some (some (.agg #[.int .u8 0, .string ByteArray.empty, .int .i64 0]), 3, 32) := by kernel_rfl
def OwnToks (w : World) (base : Nat) (v : Value) (o : List Tok) : Prop := w.ownsRow base 37 3 v o.length (o.map fun t => tkcells t.tk).flatten
theorem toks_len (o : List Tok) : ∀ cs ∈ o.map (fun t => tkcells t.tk), cs.length = 3 := by
  intro cs h
  obtain ⟨t, _, rfl⟩ := List.mem_map.1 h
  rfl
theorem OwnToks.open_ {w : World} {base : Nat} {v : Value} {o : List Tok} (h : OwnToks w base v o) (hf : ∀ t, t ∈ o → t.tk.Fits) : ∃ a c, v = .slice a o.length c ∧ o.length ≤ c ∧ c ≤ 9223372036854775807 ∧ IsToks w (o.map Tok.tk) a o.length := by
  obtain ⟨a, c, rfl, h1, h2, h3⟩ := owns_flat h (by decide) (toks_len o)
  refine ⟨a, c, rfl, h1, h2, ?_, fun t ht => ?_⟩
  · rw [List.map_map]
    exact h3
  · obtain ⟨t', ht', rfl⟩ := List.mem_map.1 ht
    exact hf t' ht'
theorem toks_snoc (o : List Tok) (t : Tok) : ((o ++ [t]).map fun t => tkcells t.tk).flatten = (o.map fun t => tkcells t.tk).flatten ++ tkcells t.tk := by simp
structure LexAt (B : List UInt8) (o : List Tok) (p : Nat) : Prop where
  le : p ≤ B.length
  eq : lexL 0 B = ahead o (lexL p (B.drop p))
  fits : ∀ t, t ∈ o → t.tk.Fits
  few : o.length ≤ p
theorem LexAt.start (B : List UInt8) : LexAt B [] 0 := ⟨Nat.zero_le _, by rw [List.drop_zero, ahead_nil], by simp, Nat.le_refl _⟩
theorem LexAt.blanks {B : List UInt8} {o : List Tok} {p : Nat} (h : LexAt B o p) : LexAt B o (p + spanU [1] (B.drop p)) := by
  have hs := spanU_le [1] (B.drop p)
  rw [List.length_drop] at hs
  have := h.le
  refine ⟨by omega, ?_, h.fits, by have := h.few; omega⟩
  rw [h.eq, lexL_span, List.drop_drop]
theorem LexAt.tok {B : List UInt8} {o : List Tok} {p n : Nat} {k : Int} (h : LexAt B o p) (hb : ∀ c r, B.drop p = c :: r → clsU c ≠ 1) (ht : tokAt (B.drop p) = some (n, k)) (hm : B.length ≤ 65536) : LexAt B (o ++ [⟨k, bs ((B.drop p).take n), p⟩]) (p + n) := by
  have hbd := tokAt_bd ht
  rw [List.length_drop] at hbd
  refine ⟨by omega, ?_, ?_, by simp; have := h.few; omega⟩
  · rw [h.eq]
    cases hd : B.drop p with
    | nil => rw [hd] at ht; cases ht
    | cons c r =>
      rw [hd] at ht
      rw [lexL_tok (hb c r hd) p ht, ahead_cons, ← hd, List.drop_drop]
  · intro t hmem
    rcases List.mem_append.1 hmem with hmem | hmem
    · exact h.fits t hmem
    · simp at hmem
      subst hmem
      have hle := h.le
      refine ⟨by show (0 : Int) ≤ k; omega, by show k ≤ 255; omega, by show (-9223372036854775808 : Int) ≤ (p : Int); omega, by show (p : Int) ≤ 9223372036854775807; omega, ?_⟩
      show (bs ((B.drop p).take n)).size ≤ 9223372036854775807
      rw [bs_size, List.length_take, List.length_drop]
      omega
theorem LexAt.none_ {B : List UInt8} {o : List Tok} {p : Nat} (h : LexAt B o p) (hb : ∀ c r, B.drop p = c :: r → clsU c ≠ 1) (hlt : p < B.length) (ht : tokAt (B.drop p) = none) : lexL 0 B = .error p := by
  rw [h.eq]
  cases hd : B.drop p with
  | nil =>
    have := congrArg List.length hd
    rw [List.length_drop] at this
    simp at this
    omega
  | cons c r =>
    rw [hd] at ht
    rw [lexL_none (hb c r hd) p ht]
    rfl
theorem LexAt.end_ {B : List UInt8} {o : List Tok} (h : LexAt B o B.length) : lexL 0 B = .ok (o ++ [⟨6, ByteArray.empty, B.length⟩]) := by
  rw [h.eq, List.drop_length]
  rfl
theorem LexAt.fitsEnd {B : List UInt8} {o : List Tok} (h : LexAt B o B.length) (hm : B.length ≤ 65536) : ∀ t, t ∈ o ++ [⟨6, ByteArray.empty, B.length⟩] → t.tk.Fits := by
  intro t hmem
  rcases List.mem_append.1 hmem with hmem | hmem
  · exact h.fits t hmem
  · simp at hmem
    subst hmem
    exact ⟨by show (0 : Int) ≤ 6; omega, by show (6 : Int) ≤ 255; omega, by show (-9223372036854775808 : Int) ≤ (B.length : Int); omega, by show (B.length : Int) ≤ 9223372036854775807; omega, by show (0 : Nat) ≤ 9223372036854775807; omega⟩
theorem after_blanks (B : List UInt8) (p : Nat) : ∀ c r, B.drop (p + spanU [1] (B.drop p)) = c :: r → clsU c ≠ 1 := by
  intro c r h
  rw [← List.drop_drop] at h
  have := span_stop [1] (B.drop p) h
  simpa using this
theorem row_1 (w : World) (t : TypeId) : IsRow (w.alloc (.cells #[.int .u8 1] t)) (vby [1]) (some ⟨w.heap.size, 0, none⟩) 1 := IsRow.new w t (vby [1])
theorem span_blanks (B : List UInt8) (k : Nat) (W : World) (a : Option Addr) (len cap : Nat) (h1 : len ≤ cap) (h2 : cap ≤ 9223372036854775807) (hr : IsBytes W B a len) (hk : k ≤ len) (a' : Option Addr) (hc : IsRow W (vby [1]) a' 1) :
    Calls Tryz.prog 90 #[.slice a len cap, .int .i64 k, .slice a' 1 1] W fun e w' => e = .returned (.int .i64 (spanU [1] (B.drop k) : Nat)) ∧ Ext W w' := by
  by_cases hlt : k < len
  · obtain ⟨c, b, o, g, rfl, q⟩ := hr.at_ hlt
    have h := chars_span [1] (il (bs B)) k W b o len cap a' 1 1 h1 h2 (Nat.le_refl _) (by omega) hlt hr (fun c hc => il_bound _ hc) hc
    rw [il_drop, spanOf_U] at h
    exact h
  · have hd : B.drop k = [] := List.drop_eq_nil_of_le (by have := hr.length; omega)
    rw [hd, spanU_nil]
    exact chars_span_end W a len cap k (by omega) (by omega) a' 1 1
theorem infoTk1 : ∃ i0, Tryz.prog.info? 37 = some i0 ∧ i0.zero = some (.agg #[.int .u8 0, .string ByteArray.empty, .int .i64 0]) ∧ i0.size = 3 ∧ i0.bytes = 32 := info_parts infoTk
theorem tkcells_at (w : World) (k : Int) (s : ByteArray) (p : Int) (T : TypeId) : ∀ i u, ([.int .u8 k, .string s, .int .i64 p] : List Value)[i]? = some u → (w.alloc (.cells #[.int .u8 k, .string s, .int .i64 p] T)).cell? ((⟨w.heap.size, 0, none⟩ : Addr).add i) = some u := fun i u hu => by
  rw [Addr.add_lit, Nat.zero_add]
  exact (World.cell?_alloc_new w _ _ _).trans (by simpa using hu)
theorem tkcells_one (k : Int) (s : ByteArray) (p : Int) : ∀ u ∈ ([.int .u8 k, .string s, .int .i64 p] : List Value), u.oneCell' = true := by
  intro u hu
  simp at hu
  rcases hu with rfl | rfl | rfl <;> rfl
set_option maxRecDepth 8000 in
set_option maxHeartbeats 4000000 in
theorem token_lex (B : List UInt8) (w : World) (a : Option Addr) (len cap : Nat) (h1 : len ≤ cap) (h2 : cap ≤ 9223372036854775807) (hr : IsBytes w B a len) (hk : Knob w) :
    Calls Tryz.prog 55 #[.slice a len cap] w (RetLex B w) := by
  have hlen := hr.length
  have HLEN := hid hlen
  have HR := hid hr
  have HK := hid hk
  clear hr hk
  by_cases h64 : 65536 < len
  · have hz : (65536 : Int) < (len : Int) := by omega
    have HX := hid (lexR_long (B := B) (by omega))
    clear hlen
    go_enter Tryz.func55, Tryz.ntmps55
    go_wp2_with fail
    refine bodyPost_ret (v := .tuple #[.slice none 0 0, .int .i64 0, .int .i64 3]) (by simp [results, Tryz.results55, go_sem]) rfl ⟨none, 0, 0, by rw [HX.out], Nat.le_refl _, by omega, by rw [HX.out]; exact ⟨IsFlat.nil _ _ _, by simp⟩, by (exact eX)⟩
  have hz : (len : Int) ≤ 65536 := by omega
  have HNL := hid (show ¬ 65536 < B.length from by omega)
  obtain ⟨i0, hi, hz0, hz1', hz2'⟩ := infoTk1
  have HIN := hid (And.intro hi (And.intro hz0 (And.intro hz1' hz2')))
  have KS := hid fun W k a' (hk : k ≤ len) (h : Ext w W) (hc : IsRow W (vby [1]) a' 1) => span_blanks B k W a len cap h1 h2 (HR.out.ext h) hk a' hc
  have KS0 := hid fun W a' (h : Ext w W) (hc : IsRow W (vby [1]) a' 1) => span_blanks B 0 W a len cap h1 h2 (HR.out.ext h) (by omega) a' hc
  rw [List.drop_zero] at KS0
  have hs0 := spanU_le [1] B
  clear hi hz0 hz1' hz2' hlen
  go_enter Tryz.func55, Tryz.ntmps55
  go_wp2_with (go_at_call 90; refine (KS0.out _ _ ((Ext.refl _).alloc _) (row_1 w _)).mono ?_; rintro e w1 ⟨rfl, x1⟩)
  have y1 : Ext w w1 := ((Ext.refl _).alloc _).trans x1
  have A0 := (LexAt.start B).blanks
  rw [Nat.zero_add, List.drop_zero] at A0
  have NB0 := after_blanks B 0
  rw [Nat.zero_add, List.drop_zero] at NB0
  generalize spanU [1] B = p0 at *
  go_loopg [5, 6] (len - p0) (fun g s i wr => ∃ (p : Nat) (o : List Tok), g = len - p ∧ i = .int .i64 p ∧ LexAt B o p ∧ (∀ c r, B.drop p = c :: r → clsU c ≠ 1) ∧ OwnToks wr w.heap.size s o ∧ Ext w wr)
  case atStart => exact ⟨p0, [], rfl, rfl, A0, NB0, World.ownsRow_nil _ _ _ _, y1⟩
  case round =>
    obtain ⟨p, o, rfl, rfl, hA, hNB, hO, hx⟩ := hrel
    have HA := hid hA
    have HNB := hid hNB
    have HO := hid hO
    have hple : p ≤ len := by have := HA.out.le; have := HLEN.out; omega
    have hfew := hA.few
    clear hA hNB hO A0 NB0
    by_cases hlt : p < len
    · obtain ⟨c0, b, o', g, rfl, q⟩ := (HR.out.ext hx).at_ hlt
      have hz1 : (p : Int) < (len : Int) := by omega
      have KN := hid (token_next B p wr b o' len cap h1 h2 (HR.out.ext hx) hlt (HK.out.ext hx))
      clear g q
      go_wp2_with fail
      refine (KN.out).mono ?_
      rintro e w2 ⟨x2, hres⟩
      have y2 : Ext w w2 := hx.trans x2
      cases ht : tokAt (B.drop p) with
      | none =>
        rw [ht] at hres
        obtain ⟨k, s, rfl⟩ := hres
        have HE := hid (HA.out.none_ HNB.out (by have := HLEN.out; omega) ht)
        have HX := hid (lexR_error HNL.out HE.out)
        clear ht
        go_wp2_with fail
        refine bodyPost_ret (v := .tuple #[.slice none 0 0, .int .i64 p, .int .i64 2]) (by simp [results, Tryz.results55, go_sem]) rfl ⟨none, 0, 0, by rw [HX.out], Nat.le_refl _, by omega, by rw [HX.out]; exact ⟨IsFlat.nil _ _ _, by simp⟩, by (exact eX)⟩
      | some nk =>
        obtain ⟨n, k⟩ := nk
        rw [ht] at hres
        have e1 : e = .returned (.tuple #[.agg #[.int .u8 k, .string (bs ((B.drop p).take n)), .int .i64 p], .bool true]) := hres
        clear hres
        subst e1
        have hbd := tokAt_bd ht
        have A1 := HA.out.tok HNB.out ht (by have := HLEN.out; omega)
        have A2 := A1.blanks
        have NB2 := after_blanks B (p + n)
        have hsl := spanU_le [1] (B.drop (p + n))
        have hsz : (bs ((B.drop p).take n)).size = n := by rw [bs_size, List.length_take]; omega
        have hpn : p + n ≤ len := by have := A1.le; have := HLEN.out; omega
        have HS := hid (show (((bs ((B.drop p).take n)).size : Nat) : Int) = (n : Int) from by rw [hsz])
        have KS2 := hid fun W a' (h : Ext w W) (hc : IsRow W (vby [1]) a' 1) => KS.out W (p + n) a' hpn h hc
        have HOT : Hid (∀ W v', Ext w W → W.ownsRow w.heap.size 37 3 v' (o.length + 1) ((o.map fun t => tkcells t.tk).flatten ++ [.int .u8 k, .string (bs ((B.drop p).take n)), .int .i64 p]) → OwnToks W w.heap.size v' (o ++ [⟨k, bs ((B.drop p).take n), p⟩])) := hid fun W v' _ h => by
          unfold OwnToks
          rw [toks_snoc, List.length_append]
          exact h
        rw [List.length_drop] at hbd hsl
        generalize hss : bs ((B.drop p).take n) = s at *
        have HA2 := hid A2
        have HNB2 := hid NB2
        obtain ⟨m, hm⟩ : ∃ m, m = spanU [1] (B.drop (p + n)) := ⟨_, rfl⟩
        rw [← hm] at KS2 HA2 HNB2 hsl
        have hpm : p + n + m ≤ len := by have := HA2.out.le; have := HLEN.out; omega
        have hw1 : IntKind.i64.wrap ((p : Int) + (n : Int)) = (p : Int) + n := IntWalk.i64_in _ ⟨by omega, by omega⟩
        have hw2 : IntKind.i64.wrap ((p : Int) + (n : Int) + (m : Int)) = (p : Int) + n + m := IntWalk.i64_in _ ⟨by omega, by omega⟩
        clear ht A1 A2 NB2 hss hm hsz
        obtain ⟨sa, sc, rfl, -, -, -⟩ := HO.out.open_ HA.out.fits
        have E9 := hid (show (w2.alloc (.cells #[.int .u8 k, .string s, .int .i64 p] 37)).heap.size = w2.heap.size + 1 from by simp)
        go_wp2_with (at_builtin; refine wpList_append_mine rfl (.tmp 34) (.tmp 36) 32 ?r0 w.heap.size 37 i0 (.agg #[.int .u8 0, .string ByteArray.empty, .int .i64 0]) 3 32 ?r1 ?r2 ?r3 ?r4 ?r5 ?r6 ?r7 (Value.slice sa o.length sc) o.length (o.map fun t => tkcells t.tk).flatten ?r8 ?r9 ⟨w2.heap.size + 1, 0, none⟩ 1 1 [.int .u8 k, .string s, .int .i64 p] ?r10 ?r11 ?r12 ?r13 ?r14 ?r15 ?r16 ?r17)
        case r0 => rfl
        case r1 => exact Tryz.underlying32
        case r2 => exact HIN.out.1
        case r3 => exact HIN.out.2.1
        case r4 => exact HIN.out.2.2.1
        case r5 => exact HIN.out.2.2.2
        case r6 => rfl
        case r7 => decide
        case r8 => rfl
        case r9 => exact owns_ext ((x2.alloc _).alloc _) HO.out
        case r10 => rfl
        case r11 => rfl
        case r12 =>
          have := tkcells_at (w2.alloc (.cells #[.int .u8 k, .string s, .int .i64 p] 37)) k s p 37
          rw [E9.out] at this
          exact this
        case r13 => exact tkcells_one k s p
        case r14 => unfold maxLen; omega
        case r15 => omega
        case r16 => have := y2.size; simp; omega
        case r17 =>
          intro v9 w9 ho9 hg9 _
          have hX9 := ext_grown hg9 ((y2.alloc _).alloc _) (fun k hk => (HO.out.lt k hk).1)
          have HO9 := hid (HOT.out w9 v9 hX9 ho9)
          have d1 : w9.cell? ⟨w2.heap.size, 1, none⟩ = some (.string s) := by
            have b9 := hg9.block w2.heap.size (by simp; omega) (fun e => by have := (HO.out.lt _ e.symm).2; have := x2.size; omega)
            exact (World.cell?_of_block (a := ⟨w2.heap.size, 1, none⟩) b9).trans (((Ext.refl _).alloc _).cell (tkcells_at w2 k s p _ 1 _ rfl))
          have hs := HS.out
          clear ho9 hg9
          go_wp2_with (go_at_call 90; refine (KS2.out _ _ (hX9.alloc _) (row_1 _ _)).mono ?_; rintro e w10 ⟨rfl, x10⟩)
          go_roundg (len - (p + n + m))
          case rel => exact ⟨p + n + m, _, rfl, by go_num, HA2.out, HNB2.out, owns_ext (((Ext.refl _).alloc _).trans x10) HO9.out, (hX9.alloc _).trans x10⟩
          case measure => omega
    · obtain rfl : p = len := by omega
      have HAE : Hid (LexAt B o B.length) := hid (by have := HA.out; rw [← HLEN.out]; exact this)
      have HX := hid (lexR_ok HNL.out HAE.out.end_)
      have HFE := hid (HAE.out.fitsEnd (by have := HNL.out; omega))
      obtain ⟨sa, sc, rfl, -, -, -⟩ := HO.out.open_ HA.out.fits
      go_wp2_with (at_builtin; refine wpList_append_mine rfl (.tmp 43) (.tmp 47) 32 ?r0 w.heap.size 37 i0 (.agg #[.int .u8 0, .string ByteArray.empty, .int .i64 0]) 3 32 ?r1 ?r2 ?r3 ?r4 ?r5 ?r6 ?r7 (Value.slice sa o.length sc) o.length (o.map fun t => tkcells t.tk).flatten ?r8 ?r9 ⟨wr.heap.size, 0, none⟩ 1 1 [.int .u8 6, .string ByteArray.empty, .int .i64 p] ?r10 ?r11 ?r12 ?r13 ?r14 ?r15 ?r16 ?r17)
      case r0 => rfl
      case r1 => exact Tryz.underlying32
      case r2 => exact HIN.out.1
      case r3 => exact HIN.out.2.1
      case r4 => exact HIN.out.2.2.1
      case r5 => exact HIN.out.2.2.2
      case r6 => rfl
      case r7 => decide
      case r8 => rfl
      case r9 => exact owns_ext ((Ext.refl _).alloc _) HO.out
      case r10 => rfl
      case r11 => rfl
      case r12 => exact tkcells_at wr 6 ByteArray.empty p _
      case r13 => exact tkcells_one 6 ByteArray.empty p
      case r14 => unfold maxLen; omega
      case r15 => omega
      case r16 => have := hx.size; simp; omega
      case r17 =>
        intro v9 w9 ho9 hg9 _
        have hX9 := ext_grown hg9 (hx.alloc _) (fun k hk => (HO.out.lt k hk).1)
        obtain ⟨na, nc, rfl, hn1, hn2, hn3⟩ := OwnToks.open_ (o := o ++ [(⟨6, ByteArray.empty, p⟩ : Tok)]) (w := w9) (base := w.heap.size) (by unfold OwnToks; rw [toks_snoc, List.length_append]; exact ho9) (by have := HFE.out; rw [← HLEN.out] at this; exact this)
        have HN3 := hid hn3
        have HXX : Hid (lexR B = ((o ++ [(⟨6, ByteArray.empty, p⟩ : Tok)]).map Tok.tk, 0, 0)) := hid (by have := HX.out; rw [← HLEN.out] at this; exact this)
        clear ho9 hg9 hn3
        go_wp2_with fail
        refine bodyPost_ret (v := .tuple #[.slice na (o ++ [(⟨6, ByteArray.empty, p⟩ : Tok)]).length nc, .int .i64 0, .int .i64 0]) (by simp [results, Tryz.results55, go_sem]) rfl ⟨na, (o ++ [(⟨6, ByteArray.empty, p⟩ : Tok)]).length, nc, by rw [HXX.out], hn1, hn2, by rw [HXX.out]; exact HN3.out, by (exact eX)⟩
end Go.Proofs.YtaioeailgknfjaaGreatDoor

/- Part 2 of the proof of RowParseIs: walks of functions, and laws in plain Lean; no condition of ours. -/
import Derived.Test.YtaioeailgknfjaaGreatDoorPk1
/- The walks of package token: kind, sign. The walks of package token: sign, next. -/
namespace Go.Proofs.YtaioeailgknfjaaGreatDoor
open Go Go.RowKit Go.Sort

theorem lt_of_some_ {α : Type} {L : List α} {i : Nat} {c : α} (h : L[i]? = some c) : i < L.length := by
  rcases Nat.lt_or_ge i L.length with h' | h'
  · exact h'
  · rw [List.getElem?_eq_none h'] at h; cases h
theorem push_bytes (l : List UInt8) : ∀ s : ByteArray, (l.map fun b => (b.toNat : Int)).foldl (fun r n => r.push (UInt8.ofNat n.toNat)) s = ⟨s.data ++ l.toArray⟩ := by
  induction l with
  | nil => intro s; simp
  | cons b l ih =>
    intro s
    simp only [List.map_cons, List.foldl_cons]
    rw [ih]
    simp [ByteArray.push]
/-- Bytes of a row, as a text. -/
theorem conv_bytes {w : World} {B : List UInt8} {b o len : Nat} (h : IsBytes w B (some ⟨b, o, none⟩) len) (i n c : Nat) (hn : i + n ≤ len) :
    (convert 22 9 (.slice (some ⟨b, o + i, none⟩) n c)).run Tryz.prog w = .ok (.string (bs ((B.drop i).take n))) w := by
  rw [run_convert_bytes_string w 22 9 5 _ _ _ Tryz.underlying22 Tryz.underlying5 Tryz.underlying9]
  have hlen : len = B.length := by
    have := h.1
    rw [vby_il_length, bs_size] at this
    exact this
  have hl : (loadCells ⟨b, o + i, none⟩ n).run Tryz.prog w = .ok ((((B.drop i).take n).map fun b => (b.toNat : Int)).map (Value.int .u8)).toArray w := by
    have hlc : ((((B.drop i).take n).map fun b => (b.toNat : Int)).map (Value.int .u8)).length = n := by
      simp only [List.length_map, List.length_take, List.length_drop]
      omega
    have hr := run_loadCells_list (P := Tryz.prog) (w := w) ⟨b, o + i, none⟩ ((((B.drop i).take n).map fun b => (b.toNat : Int)).map (Value.int .u8)) (fun j v hj => by
      have hjn : j < n := by have := lt_of_some_ hj; omega
      have hj2 : (vby (il (bs B)))[i + j]? = some v := by
        unfold vby
        rw [il_bs, List.map_map]
        rw [List.map_map] at hj
        rw [List.getElem?_map] at hj ⊢
        rw [List.getElem?_take_of_lt hjn, List.getElem?_drop] at hj
        exact hj
      obtain ⟨b', o', e, q⟩ := h.2 (i + j) v hj2
      cases e
      rw [Addr.add_lit, Nat.add_assoc]
      exact q)
    rw [hlc] at hr
    exact hr
  rw [run_bytesToString w _ n c _ hl]
  congr 1
  rw [push_bytes]
  simp [bs]

set_option maxHeartbeats 1000000 in
theorem token_kind (s : ByteArray) (w : World) (hk : Knob w) : Calls Tryz.prog 114 #[.string s] w fun e w' => e = .returned (.int .u8 (kindOf s)) ∧ Ext w w' := by
  have K1 := Lib.hid fun W => words_number s W
  have K2 := Lib.hid fun W (h : Ext w W) => words_keyword s W (hk.ext h)
  have K3 := Lib.hid fun W b (h : Ext w W) (hr : IsRow W (vstr [s]) b 1) => words_name [s] W b 1 1 (Nat.le_refl _) (by omega) (hk.ext h) hr
  have K4 := Lib.hid fun W b (h : Ext w W) (hr : IsRow W (vstr [s]) b 1) => words_exn [s] W b 1 1 (Nat.le_refl _) (by omega) (hk.ext h) hr
  have HK : Hid (kindOf s = if numB s then 1 else if 0 < kwd s then 4 else if isName s then 2 else if isExn s then 3 else 0) := rfl
  have hkw := kwd_le s
  simp only [List.all_cons, List.all_nil, Bool.and_true] at K3 K4
  unfold RetN at K1
  generalize kindOf s = res at *
  generalize numB s = nb at *
  generalize numV s = nv at *
  generalize kwd s = kw at *
  generalize isName s = nm at *
  generalize isExn s = ex at *
  clear hk
  cases nb
  case true =>
    go_enter Tryz.func114, Tryz.ntmps114
    go_wp2_with (go_at_call 130; refine (K1.out _).mono ?_; rintro e w1 ⟨rfl, x1⟩)
    go_ret
    exact ⟨by rw [HK.out]; rfl, x1⟩
  by_cases hkw0 : 0 < kw
  · have hd : decide ((0 : Int) < (kw : Int)) = true := by simp; omega
    have hz : (0 : Int) < (kw : Int) := by omega
    have HKW := Lib.hid hkw0
    go_enter Tryz.func114, Tryz.ntmps114
    go_wp2_with (first | (go_at_call 130; refine (K1.out _).mono ?_; rintro e w1 ⟨rfl, x1⟩) | (go_at_call 123; refine (K2.out _ x1).mono ?_; rintro e w2 ⟨rfl, x2⟩))
    go_ret
    have hk9 := HK.out
    rw [if_neg (by simp), if_pos HKW.out] at hk9
    rw [hk9]
    exact ⟨rfl, x1.trans x2⟩
  have hz : kw = 0 := by omega
  subst hz
  cases nm
  case true =>
    go_enter Tryz.func114, Tryz.ntmps114
    go_wp2_with (first | (go_at_call 130; refine (K1.out _).mono ?_; rintro e w1 ⟨rfl, x1⟩) | (go_at_call 123; refine (K2.out _ x1).mono ?_; rintro e w2 ⟨rfl, x2⟩) | (go_at_call 103; refine (K3.out _ _ ((x1.trans x2).alloc _) (IsRow.new w2 _ (vstr [s]))).mono ?_; rintro e w3 ⟨rfl, x3⟩))
    go_ret
    exact ⟨by rw [HK.out]; rfl, (x1.trans x2).trans (((Ext.refl _).alloc _).trans x3)⟩
  cases ex
  all_goals
    go_enter Tryz.func114, Tryz.ntmps114
    go_wp2_with (first | (go_at_call 130; refine (K1.out _).mono ?_; rintro e w1 ⟨rfl, x1⟩) | (go_at_call 123; refine (K2.out _ x1).mono ?_; rintro e w2 ⟨rfl, x2⟩) | (go_at_call 103; refine (K3.out _ _ ((x1.trans x2).alloc _) (IsRow.new w2 _ (vstr [s]))).mono ?_; rintro e w3 ⟨rfl, x3⟩; have y3 : Ext w w3 := (x1.trans x2).trans (((Ext.refl _).alloc _).trans x3)) | (go_at_call 52; refine (K4.out _ _ (y3.alloc _) (IsRow.new w3 _ (vstr [s]))).mono ?_; rintro e w4 ⟨rfl, x4⟩))
    go_ret
    exact ⟨by rw [HK.out]; rfl, y3.trans (((Ext.refl _).alloc _).trans x4)⟩
end Go.Proofs.YtaioeailgknfjaaGreatDoor
namespace Go.Proofs.YtaioeailgknfjaaGreatDoor
open Go Go.RowKit Go.Sort

theorem IsBytes.length {w : World} {B : List UInt8} {a : Option Addr} {len : Nat} (h : IsBytes w B a len) : len = B.length := by
  have := h.1
  rw [vby_il_length, bs_size] at this
  exact this
theorem IsBytes.ext {w w' : World} (hx : Ext w w') {B : List UInt8} {a : Option Addr} {len : Nat} (h : IsBytes w B a len) : IsBytes w' B a len := IsRow.ext hx h
theorem il_drop (B : List UInt8) (k : Nat) : (il (bs B)).drop k = il (bs (B.drop k)) := by rw [il_bs, il_bs, List.map_drop]
theorem IsBytes.drop {w : World} {B : List UInt8} {b o len : Nat} (h : IsBytes w B (some ⟨b, o, none⟩) len) (k : Nat) : IsBytes w (B.drop k) (some ⟨b, o + k, none⟩) (len - k) := by
  have := IsRow.drop (k := k) h
  rw [vby_drop, il_drop] at this
  exact this
/-- A byte of a row. -/
theorem IsBytes.at_ {w : World} {B : List UInt8} {a : Option Addr} {len i : Nat} (h : IsBytes w B a len) (hi : i < len) : ∃ c b o, B[i]? = some c ∧ a = some ⟨b, o, none⟩ ∧ w.cell? ⟨b, o + i, none⟩ = some (.int .u8 (c.toNat : Int)) := by
  obtain ⟨c, b, o, g, e, q⟩ := IsRow.byte h hi
  rw [il_bs, List.getElem?_map, Option.map_eq_some_iff] at g
  obtain ⟨c', g, rfl⟩ := g
  exact ⟨c', b, o, g, e, q⟩
theorem index_colon (c : Int) (h0 : 0 ≤ c) (h1 : c ≤ 255) : decide (0 ≤ Lib.indexByte [58, 62] c.toNat.toUInt8) = decide (c = 58 ∨ c = 62) := by
  have h : ∀ n : Fin 256, decide (0 ≤ Lib.indexByte [58, 62] n.val.toUInt8) = decide ((n.val : Int) = 58 ∨ (n.val : Int) = 62) := by decide +kernel
  have := h ⟨c.toNat, by omega⟩
  rw [show ((c.toNat : Nat) : Int) = c from by omega] at this
  exact this
theorem two_in (l : List UInt8) : inB [⟨#[58, 61]⟩, ⟨#[61, 62]⟩] (bs l) = decide (l = [58, 61] ∨ l = [61, 62]) := by
  rw [Bool.eq_iff_iff, inB_iff, decide_eq_true_iff]
  have e1 : (⟨#[58, 61]⟩ : ByteArray) = bs [58, 61] := rfl
  have e2 : (⟨#[61, 62]⟩ : ByteArray) = bs [61, 62] := rfl
  rw [e1, e2]
  simp [bs_inj]
theorem sign_dec (c : UInt8) (r : List UInt8) : signOf (c :: r) = if (c :: r).take 2 = [58, 61] ∨ (c :: r).take 2 = [61, 62] then 2 else if ((c.toNat : Nat) : Int) = 58 ∨ ((c.toNat : Nat) : Int) = 62 then 0 else 1 := by
  have e : ∀ (n : Nat) (h : n < 256), (((c.toNat : Nat) : Int) = (n : Int)) ↔ c = UInt8.ofNat n := by
    intro n h
    constructor
    · intro h'
      have : c.toNat = n := by omega
      subst this
      exact (UInt8.ofNat_toNat).symm
    · rintro rfl
      simp
      omega
  unfold signOf
  simp only [List.head?_cons, Option.some.injEq]
  have a1 := e 58 (by omega)
  have a2 := e 62 (by omega)
  have b1 : (((c.toNat : Nat) : Int) = 58) ↔ c = 58 := a1
  have b2 : (((c.toNat : Nat) : Int) = 62) ↔ c = 62 := a2
  simp only [b1, b2]
set_option maxHeartbeats 1000000 in
theorem token_sign (c : UInt8) (r : List UInt8) (w : World) (b o len cap : Nat) (h1 : len ≤ cap) (h2 : cap ≤ 9223372036854775807) (hr : IsBytes w (c :: r) (some ⟨b, o, none⟩) len) :
    Calls Tryz.prog 115 #[.slice (some ⟨b, o, none⟩) len cap] w fun e w' => e = .returned (.int .i64 (signOf (c :: r) : Nat)) ∧ Ext w w' := by
  have hlen := hr.length
  have hpos : 0 < len := by rw [hlen]; simp
  obtain ⟨c', b', o', g, e, q⟩ := hr.at_ hpos
  cases e
  simp at g
  subst g
  have hbb := byte_bound c
  have KI := Lib.hid fun W => Tryz.strings_IndexByte ⟨#[58, 62]⟩ ((c.toNat : Nat) : Int) W
  have hic := index_colon _ hbb.1 hbb.2
  obtain ⟨ni, hni⟩ : ∃ ni, ni = Lib.indexByte [58, 62] ((c.toNat : Nat) : Int).toNat.toUInt8 := ⟨_, rfl⟩
  rw [← hni] at hic KI
  have HS := Lib.hid (sign_dec c r)
  have KC := Lib.hid fun (W : World) => strs_contains (bs ((c :: r).take 2)) [⟨#[58, 61]⟩, ⟨#[61, 62]⟩] (W.alloc (.cells #[.string ⟨#[58, 61]⟩, .string ⟨#[61, 62]⟩] 9)) (some ⟨W.heap.size, 0, none⟩) 2 2 (Nat.le_refl _) (by omega) (IsRow.new W 9 (vstr [⟨#[58, 61]⟩, ⟨#[61, 62]⟩]))
  rw [two_in] at KC
  have hcv : ∀ W, Ext w W → ∀ k, 2 ≤ len → (convert 22 9 (.slice (some ⟨b, o, none⟩) 2 k)).run Tryz.prog W = .ok (.string (bs ((c :: r).take 2))) W := fun W hx k hk => by
    have := conv_bytes (hr.ext hx) 0 2 k (by omega)
    simpa using this
  simp only [Nat.add_zero] at q
  have HSm : Hid (∀ k, k ≤ 1 → len = k → (c :: r).take 2 ≠ [58, 61] ∧ (c :: r).take 2 ≠ [61, 62]) := Lib.hid fun k hk hl => by
    have : (c :: r).length ≤ 1 := by omega
    constructor <;> (intro e; have := congrArg List.length e; rw [List.length_take] at this; simp at this; simp at *; omega)
  clear hni hr hlen
  generalize (c :: r).take 2 = tk at *
  generalize signOf (c :: r) = res at *
  by_cases hl1 : 1 < len
  · have hz : (1 : Int) < (len : Int) := by omega
    have hcv1 := fun k => hcv _ ((Ext.refl w).alloc (.cells #[.string ⟨#[58, 61]⟩, .string ⟨#[61, 62]⟩] 9)) k (by omega)
    have hz2 : (2 : Nat) ≤ cap := by omega
    have hz3 : (2 : Int) ≤ (cap : Int) := by omega
    clear hcv
    by_cases ht : tk = [58, 61] ∨ tk = [61, 62]
    · rw [decide_eq_true ht] at KC
      rw [if_pos ht] at HS
      clear ht
      go_enter Tryz.func115, Tryz.ntmps115
      go_wp2_with (go_at_call 70; refine (KC.out _).mono ?_; rintro e w1 ⟨rfl, x1⟩)
      go_ret
      exact ⟨by rw [HS.out]; rfl, ((Ext.refl _).alloc _).trans x1⟩
    · rw [decide_eq_false ht] at KC
      rw [if_neg ht] at HS
      clear ht
      by_cases hc : ((c.toNat : Nat) : Int) = 58 ∨ ((c.toNat : Nat) : Int) = 62
      all_goals
        first
          | rw [decide_eq_true hc] at hic
          | rw [decide_eq_false hc] at hic
        first
          | rw [if_pos hc] at HS
          | rw [if_neg hc] at HS
        have HC := Lib.hid hc
        clear hc
        go_enter Tryz.func115, Tryz.ntmps115
        go_wp2_with (first | (go_at_call 70; refine (KC.out _).mono ?_; rintro e w1 ⟨rfl, x1⟩; have x1' : Ext w w1 := ((Ext.refl _).alloc _).trans x1; have q := x1'.cell q) | (go_at_call 128; refine (KI.out _).mono ?_; rintro e w2 ⟨rfl, rfl⟩))
        go_ret
        exact ⟨by rw [HS.out]; rfl, x1'⟩
  · have hz : (len : Int) ≤ 1 := by omega
    have hno := HSm.out len (by omega) rfl
    rw [if_neg (by rintro (h | h); exact hno.1 h; exact hno.2 h)] at HS
    clear hno hcv
    by_cases hc : ((c.toNat : Nat) : Int) = 58 ∨ ((c.toNat : Nat) : Int) = 62
    all_goals
      first
        | rw [decide_eq_true hc] at hic
        | rw [decide_eq_false hc] at hic
      first
        | rw [if_pos hc] at HS
        | rw [if_neg hc] at HS
      have HC := Lib.hid hc
      clear hc
      go_enter Tryz.func115, Tryz.ntmps115
      go_wp2_with (go_at_call 128; refine (KI.out _).mono ?_; rintro e w2 ⟨rfl, rfl⟩)
      go_ret
      exact ⟨by rw [HS.out]; rfl, Ext.refl _⟩
end Go.Proofs.YtaioeailgknfjaaGreatDoor

/- The walk of token.next. -/
namespace Go.Proofs.YtaioeailgknfjaaGreatDoor
open Go Go.RowKit Go.Sort

theorem spanOf_U (cl : List Int) (l : List UInt8) : spanOf cl (il (bs l)) = spanU cl l := by
  rw [il_bs]
  unfold spanOf spanU
  induction l with
  | nil => rfl
  | cons c l ih =>
    simp only [List.map_cons, List.takeWhile_cons]
    have e : cl.contains (cls ((c.toNat : Nat) : Int)) = cl.contains (clsU c) := rfl
    rw [e]
    cases cl.contains (clsU c) <;> simp_all
/-- What next tells of a token at the front, or none. -/
def TokRes (at_ : Nat) (l : List UInt8) (e : Ending) : Option (Nat × Int) → Prop
    | some (n, k) => e = .returned (.tuple #[.agg #[.int .u8 k, .string (bs (l.take n)), .int .i64 at_], .bool true])
    | none => ∃ k s, e = .returned (.tuple #[.agg #[.int .u8 k, .string s, .int .i64 at_], .bool false])
/-- What next hands back. -/
def RetTok (at_ : Nat) (l : List UInt8) (w : World) (e : Ending) (w' : World) : Prop := Ext w w' ∧ TokRes at_ l e (tokAt l)
theorem row_2' (w : World) (t : TypeId) : IsRow (w.alloc (.cells #[.int .u8 2] t)) (vby [2]) (some ⟨w.heap.size, 0, none⟩) 1 := IsRow.new w t (vby [2])
theorem row_234 (w : World) (t : TypeId) : IsRow (w.alloc (.cells #[.int .u8 2, .int .u8 3, .int .u8 4] t)) (vby [2, 3, 4]) (some ⟨w.heap.size, 0, none⟩) 3 := IsRow.new w t (vby [2, 3, 4])

theorem tok_cells {w : World} {b : Nat} {t : TypeId} {c0 c1 c2 u0 u1 u2 : Value} (h : Blk w b t (((#[c0, c1, c2].setIfInBounds 0 u0).setIfInBounds 1 u1).setIfInBounds 2 u2)) : w.cell? ⟨b, 0, none⟩ = some u0 ∧ w.cell? ⟨b, 1, none⟩ = some u1 ∧ w.cell? ⟨b, 2, none⟩ = some u2 := by
  have e0 := h.cell 0
  have e1 := h.cell 1
  have e2 := h.cell 2
  simp at e0 e1 e2
  exact ⟨e0, e1, e2⟩
set_option maxRecDepth 8000 in
set_option maxHeartbeats 4000000 in
theorem token_next (B : List UInt8) (at_ : Nat) (w : World) (b o len cap : Nat) (h1 : len ≤ cap) (h2 : cap ≤ 9223372036854775807) (hr : IsBytes w B (some ⟨b, o, none⟩) len) (hat : at_ < len) (hk : Knob w) :
    Calls Tryz.prog 91 #[.slice (some ⟨b, o, none⟩) len cap, .int .i64 (at_ : Int)] w (RetTok at_ (B.drop at_) w) := by
  have hlen := hr.length
  obtain ⟨c, b', o', g, e, q⟩ := hr.at_ hat
  cases e
  have hdrop : B.drop at_ = c :: B.drop (at_ + 1) := by
    rw [List.drop_eq_getElem_cons (by omega)]
    rw [List.getElem?_eq_getElem (by omega)] at g
    cases g
    rfl
  obtain ⟨r, hrr⟩ : ∃ r, r = B.drop (at_ + 1) := ⟨_, rfl⟩
  rw [← hrr] at hdrop
  have hrl : (c :: r).length = len - at_ := by rw [← hdrop, List.length_drop, hlen]
  have hbb := byte_bound c
  obtain ⟨W0, hW0⟩ : ∃ W0, W0 = w.alloc (.cells #[.int .u8 0, .string ⟨#[]⟩, .int .i64 0] 37) := ⟨_, rfl⟩
  have x0 : Ext w W0 := by rw [hW0]; exact (Ext.refl _).alloc _
  have hB0 : Blk W0 w.heap.size 37 #[.int .u8 0, .string ⟨#[]⟩, .int .i64 0] := by rw [hW0]; exact Blk.new w _ _
  have KCl := Lib.hid fun W => chars_class ((c.toNat : Nat) : Int) W hbb.1 hbb.2
  have KSp := Lib.hid fun W (cl : List Int) a' n' (h : Ext w W) (hc : IsRow W (vby cl) a' n') (hn : n' ≤ 9223372036854775807) => chars_span cl (il (bs B)) at_ W b o len cap a' n' n' h1 h2 (Nat.le_refl _) hn hat (hr.ext h) (fun c hc => il_bound _ hc) hc
  have hsp : ∀ cl, spanOf cl ((il (bs B)).drop at_) = spanU cl (c :: r) := fun cl => by rw [il_drop, spanOf_U, hdrop]
  simp only [hsp] at KSp
  have hcv : ∀ W, Ext w W → ∀ n k, n ≤ len - at_ → (convert 22 9 (.slice (some ⟨b, o + at_, none⟩) n k)).run Tryz.prog W = .ok (.string (bs ((c :: r).take n))) W := fun W hx n k hn => by
    have := conv_bytes (hr.ext hx) at_ n k (by omega)
    rwa [hdrop] at this
  have KK := Lib.hid fun W s (h : Ext w W) => token_kind s W (hk.ext h)
  have KS := Lib.hid fun W (h : Ext w W) => token_sign c r W b (o + at_) (len - at_) (cap - at_) (by omega) (by omega) (by have := (hr.ext h).drop at_; rwa [hdrop] at this)
  have HCV := Lib.hid hcv
  have HW0 := Lib.hid hW0
  have HB0 := Lib.hid hB0
  rw [hdrop]
  have hz1 : (at_ : Int) < (len : Int) := by omega
  have KA1 : Hid (∀ cl, (clsU c = 2 ∧ cl = [2]) ∨ ((clsU c = 3 ∨ clsU c = 4) ∧ cl = [2, 3, 4]) → tokAt (c :: r) = (if 0 < kindOf (bs ((c :: r).take (spanU cl (c :: r)))) then some (spanU cl (c :: r), kindOf (bs ((c :: r).take (spanU cl (c :: r))))) else none)) := Lib.hid fun cl h => tokAt_kind cl h
  have KA2 := Lib.hid (fun h => tokAt_sign (c := c) (r := r) h)
  have KA3 := Lib.hid (fun h => tokAt_other (c := c) (r := r) h)
  have SL := Lib.hid fun cl => spanU_le cl (c :: r)
  have SP := Lib.hid fun cl (h : cl.contains (clsU c) = true) => show 0 < spanU cl (c :: r) from by rw [spanU_pos h]; omega
  have GL := Lib.hid (signOf_le (c := c) (r := r))
  have HRL := Lib.hid hrl
  have hq0 := x0.cell q
  have hbw : b < w.heap.size := block_lt_of_cell q
  clear g hlen hrr hrl hr hk hdrop hsp hcv hW0 hB0
  have hcl : clsU c = cls ((c.toNat : Nat) : Int) := rfl
  rw [← hcl] at KCl
  have hcb : 0 ≤ clsU c ∧ clsU c ≤ 5 := cls_bound _
  generalize hcc : clsU c = cc at *
  clear hcc hcl
  unfold RetTok
  have hcs : cc = 2 ∨ cc = 3 ∨ cc = 4 ∨ cc = 5 ∨ cc = 0 ∨ cc = 1 := by omega
  rcases hcs with rfl | rfl | rfl | rfl | rfl | rfl
  · have HT := Lib.hid (KA1.out [2] (.inl ⟨rfl, rfl⟩))
    have hsp := SP.out [2] rfl
    have hsl := SL.out [2]
    rw [HRL.out] at hsl
    have KSp2 := Lib.hid fun W a' (h : Ext w W) (hc : IsRow W (vby [2]) a' 1) => KSp.out W [2] a' 1 h hc (by omega)
    generalize spanU [2] (c :: r) = n at *
    have HC := Lib.hid fun W (h : Ext w W) k => HCV.out W h n k hsl
    generalize hsv : bs ((c :: r).take n) = s at *
    have HSV := Lib.hid hsv
    clear hsv
    have hkb := kindOf_bd s
    have KK2 := Lib.hid fun W (h : Ext w W) => KK.out W s h
    generalize kindOf s = kd at *
    go_enter Tryz.func91, Tryz.ntmps91
    go_wp2_with fail
    rw [← HW0.out]
    refine (KCl.out _).mono ?_
    rintro e w1 ⟨rfl, x1⟩
    have y1 := x0.trans x1
    go_wp2_with fail
    refine (KSp2.out _ _ (y1.alloc _) (row_2' w1 _)).mono ?_
    rintro e w2 ⟨rfl, x2⟩
    have y2 : Ext w w2 := y1.trans (((Ext.refl _).alloc _).trans x2)
    have hcv2 := fun k => HC.out w2 y2 k
    have hwp : IntKind.i64.wrap ((at_ : Int) + (n : Int)) = (at_ : Int) + n := IntWalk.i64_in _ ⟨by omega, by omega⟩
    go_wp2_with fail
    refine (KK2.out _ y2).mono ?_
    rintro e w3 ⟨rfl, x3⟩
    have y3 : Ext w w3 := y2.trans x3
    have hcv3 := fun k => HC.out w3 y3 k
    have hB3 := HB0.out.ext (x1.trans ((((Ext.refl _).alloc _).trans x2).trans x3))
    have e0 := hB3.cell 0
    have e1 := hB3.cell 1
    have e2 := hB3.cell 2
    have f0 := hB3.frozen 0
    have f1 := hB3.frozen 1
    have f2 := hB3.frozen 2
    have hl3 := hB3.lt
    have hB9 := Lib.hid (((hB3.set_ 0 (.int .u8 kd)).set_ 1 (.string s)).set_ 2 (.int .i64 at_))
    have Y3 := Lib.hid y3
    clear hB3
    by_cases hk0 : 0 < kd
    · have ht := HT.out
      rw [if_pos hk0] at ht
      have HT9 := Lib.hid ht
      have HKD := hk0
      clear ht
      go_wp2_with fail
      obtain ⟨r0, r1, r2⟩ := tok_cells hB9.out
      refine bodyPost_ret (v := .tuple #[.agg #[.int .u8 kd, .string s, .int .i64 at_], .bool true]) (by simp [results, Tryz.results91, go_sem, r0, r1, r2, HKD]) rfl ⟨by (exact eX), ?_⟩
      rw [HT9.out]
      show _ = _
      rw [HSV.out]
    · have ht := HT.out
      rw [if_neg hk0] at ht
      have HT9 := Lib.hid ht
      have hk1 : kd ≤ 0 := by omega
      have HKD := hk1
      clear ht
      go_wp2_with fail
      obtain ⟨r0, r1, r2⟩ := tok_cells hB9.out
      refine bodyPost_ret (v := .tuple #[.agg #[.int .u8 kd, .string s, .int .i64 at_], .bool false]) (by simp [results, Tryz.results91, go_sem, r0, r1, r2, HKD]) rfl ⟨by (exact eX), ?_⟩
      rw [HT9.out]
      exact ⟨_, _, rfl⟩
  · have HT := Lib.hid (KA1.out [2, 3, 4] (.inr ⟨by omega, rfl⟩))
    have hsp := SP.out [2, 3, 4] rfl
    have hsl := SL.out [2, 3, 4]
    rw [HRL.out] at hsl
    have KSp2 := Lib.hid fun W a' (h : Ext w W) (hc : IsRow W (vby [2, 3, 4]) a' 3) => KSp.out W [2, 3, 4] a' 3 h hc (by omega)
    generalize spanU [2, 3, 4] (c :: r) = n at *
    have HC := Lib.hid fun W (h : Ext w W) k => HCV.out W h n k hsl
    generalize hsv : bs ((c :: r).take n) = s at *
    have HSV := Lib.hid hsv
    clear hsv
    have hkb := kindOf_bd s
    have KK2 := Lib.hid fun W (h : Ext w W) => KK.out W s h
    generalize kindOf s = kd at *
    go_enter Tryz.func91, Tryz.ntmps91
    go_wp2_with fail
    rw [← HW0.out]
    refine (KCl.out _).mono ?_
    rintro e w1 ⟨rfl, x1⟩
    have y1 := x0.trans x1
    go_wp2_with fail
    refine (KSp2.out _ _ (y1.alloc _) (row_234 w1 _)).mono ?_
    rintro e w2 ⟨rfl, x2⟩
    have y2 : Ext w w2 := y1.trans (((Ext.refl _).alloc _).trans x2)
    have hcv2 := fun k => HC.out w2 y2 k
    have hwp : IntKind.i64.wrap ((at_ : Int) + (n : Int)) = (at_ : Int) + n := IntWalk.i64_in _ ⟨by omega, by omega⟩
    go_wp2_with fail
    refine (KK2.out _ y2).mono ?_
    rintro e w3 ⟨rfl, x3⟩
    have y3 : Ext w w3 := y2.trans x3
    have hcv3 := fun k => HC.out w3 y3 k
    have hB3 := HB0.out.ext (x1.trans ((((Ext.refl _).alloc _).trans x2).trans x3))
    have e0 := hB3.cell 0
    have e1 := hB3.cell 1
    have e2 := hB3.cell 2
    have f0 := hB3.frozen 0
    have f1 := hB3.frozen 1
    have f2 := hB3.frozen 2
    have hl3 := hB3.lt
    have hB9 := Lib.hid (((hB3.set_ 0 (.int .u8 kd)).set_ 1 (.string s)).set_ 2 (.int .i64 at_))
    have Y3 := Lib.hid y3
    clear hB3
    by_cases hk0 : 0 < kd
    · have ht := HT.out
      rw [if_pos hk0] at ht
      have HT9 := Lib.hid ht
      have HKD := hk0
      clear ht
      go_wp2_with fail
      obtain ⟨r0, r1, r2⟩ := tok_cells hB9.out
      refine bodyPost_ret (v := .tuple #[.agg #[.int .u8 kd, .string s, .int .i64 at_], .bool true]) (by simp [results, Tryz.results91, go_sem, r0, r1, r2, HKD]) rfl ⟨by (exact eX), ?_⟩
      rw [HT9.out]
      show _ = _
      rw [HSV.out]
    · have ht := HT.out
      rw [if_neg hk0] at ht
      have HT9 := Lib.hid ht
      have hk1 : kd ≤ 0 := by omega
      have HKD := hk1
      clear ht
      go_wp2_with fail
      obtain ⟨r0, r1, r2⟩ := tok_cells hB9.out
      refine bodyPost_ret (v := .tuple #[.agg #[.int .u8 kd, .string s, .int .i64 at_], .bool false]) (by simp [results, Tryz.results91, go_sem, r0, r1, r2, HKD]) rfl ⟨by (exact eX), ?_⟩
      rw [HT9.out]
      exact ⟨_, _, rfl⟩
  · have HT := Lib.hid (KA1.out [2, 3, 4] (.inr ⟨by omega, rfl⟩))
    have hsp := SP.out [2, 3, 4] rfl
    have hsl := SL.out [2, 3, 4]
    rw [HRL.out] at hsl
    have KSp2 := Lib.hid fun W a' (h : Ext w W) (hc : IsRow W (vby [2, 3, 4]) a' 3) => KSp.out W [2, 3, 4] a' 3 h hc (by omega)
    generalize spanU [2, 3, 4] (c :: r) = n at *
    have HC := Lib.hid fun W (h : Ext w W) k => HCV.out W h n k hsl
    generalize hsv : bs ((c :: r).take n) = s at *
    have HSV := Lib.hid hsv
    clear hsv
    have hkb := kindOf_bd s
    have KK2 := Lib.hid fun W (h : Ext w W) => KK.out W s h
    generalize kindOf s = kd at *
    go_enter Tryz.func91, Tryz.ntmps91
    go_wp2_with fail
    rw [← HW0.out]
    refine (KCl.out _).mono ?_
    rintro e w1 ⟨rfl, x1⟩
    have y1 := x0.trans x1
    go_wp2_with fail
    refine (KSp2.out _ _ (y1.alloc _) (row_234 w1 _)).mono ?_
    rintro e w2 ⟨rfl, x2⟩
    have y2 : Ext w w2 := y1.trans (((Ext.refl _).alloc _).trans x2)
    have hcv2 := fun k => HC.out w2 y2 k
    have hwp : IntKind.i64.wrap ((at_ : Int) + (n : Int)) = (at_ : Int) + n := IntWalk.i64_in _ ⟨by omega, by omega⟩
    go_wp2_with fail
    refine (KK2.out _ y2).mono ?_
    rintro e w3 ⟨rfl, x3⟩
    have y3 : Ext w w3 := y2.trans x3
    have hcv3 := fun k => HC.out w3 y3 k
    have hB3 := HB0.out.ext (x1.trans ((((Ext.refl _).alloc _).trans x2).trans x3))
    have e0 := hB3.cell 0
    have e1 := hB3.cell 1
    have e2 := hB3.cell 2
    have f0 := hB3.frozen 0
    have f1 := hB3.frozen 1
    have f2 := hB3.frozen 2
    have hl3 := hB3.lt
    have hB9 := Lib.hid (((hB3.set_ 0 (.int .u8 kd)).set_ 1 (.string s)).set_ 2 (.int .i64 at_))
    have Y3 := Lib.hid y3
    clear hB3
    by_cases hk0 : 0 < kd
    · have ht := HT.out
      rw [if_pos hk0] at ht
      have HT9 := Lib.hid ht
      have HKD := hk0
      clear ht
      go_wp2_with fail
      obtain ⟨r0, r1, r2⟩ := tok_cells hB9.out
      refine bodyPost_ret (v := .tuple #[.agg #[.int .u8 kd, .string s, .int .i64 at_], .bool true]) (by simp [results, Tryz.results91, go_sem, r0, r1, r2, HKD]) rfl ⟨by (exact eX), ?_⟩
      rw [HT9.out]
      show _ = _
      rw [HSV.out]
    · have ht := HT.out
      rw [if_neg hk0] at ht
      have HT9 := Lib.hid ht
      have hk1 : kd ≤ 0 := by omega
      have HKD := hk1
      clear ht
      go_wp2_with fail
      obtain ⟨r0, r1, r2⟩ := tok_cells hB9.out
      refine bodyPost_ret (v := .tuple #[.agg #[.int .u8 kd, .string s, .int .i64 at_], .bool false]) (by simp [results, Tryz.results91, go_sem, r0, r1, r2, HKD]) rfl ⟨by (exact eX), ?_⟩
      rw [HT9.out]
      exact ⟨_, _, rfl⟩
  · have HT := Lib.hid (KA2.out rfl)
    have hsl := GL.out
    rw [HRL.out] at hsl
    generalize hn : signOf (c :: r) = n at *
    have HC := Lib.hid fun W (h : Ext w W) k => HCV.out W h n k hsl
    generalize hsv : bs ((c :: r).take n) = s at *
    have HSV := Lib.hid hsv
    clear hsv hn
    go_enter Tryz.func91, Tryz.ntmps91
    go_wp2_with fail
    rw [← HW0.out]
    refine (KCl.out _).mono ?_
    rintro e w1 ⟨rfl, x1⟩
    have y1 := x0.trans x1
    go_wp2_with fail
    refine (KS.out _ y1).mono ?_
    rintro e w3 ⟨rfl, x3⟩
    have y3 : Ext w w3 := y1.trans x3
    have hwp : IntKind.i64.wrap ((at_ : Int) + (n : Int)) = (at_ : Int) + n := IntWalk.i64_in _ ⟨by omega, by omega⟩
    have hcv3 := fun k => HC.out w3 y3 k
    have hB3 := HB0.out.ext (x1.trans x3)
    have e0 := hB3.cell 0
    have e1 := hB3.cell 1
    have e2 := hB3.cell 2
    have f0 := hB3.frozen 0
    have f1 := hB3.frozen 1
    have f2 := hB3.frozen 2
    have hl3 := hB3.lt
    have hB9 := Lib.hid (((hB3.set_ 0 (.int .u8 5)).set_ 1 (.string s)).set_ 2 (.int .i64 at_))
    clear hB3
    by_cases hn0 : 0 < n
    · have ht := HT.out
      rw [if_neg (by omega)] at ht
      have HT9 := Lib.hid ht
      have hz0 : (0 : Int) < (n : Int) := by omega
      clear ht
      go_wp2_with fail
      obtain ⟨r0, r1, r2⟩ := tok_cells hB9.out
      refine bodyPost_ret (v := .tuple #[.agg #[.int .u8 5, .string s, .int .i64 at_], .bool true]) (by simp [results, Tryz.results91, go_sem, r0, r1, r2]) rfl ⟨by (exact eX), ?_⟩
      rw [HT9.out]
      show _ = _
      rw [HSV.out]
    · have ht := HT.out
      have hz : n = 0 := by omega
      rw [if_pos hz] at ht
      have HT9 := Lib.hid ht
      subst hz
      clear ht
      go_wp2_with fail
      obtain ⟨r0, r1, r2⟩ := tok_cells hB9.out
      refine bodyPost_ret (v := .tuple #[.agg #[.int .u8 5, .string s, .int .i64 at_], .bool false]) (by simp [results, Tryz.results91, go_sem, r0, r1, r2]) rfl ⟨by (exact eX), ?_⟩
      rw [HT9.out]
      exact ⟨_, _, rfl⟩
  all_goals
    have HT := Lib.hid (KA3.out (by omega))
    have HC := Lib.hid fun W (h : Ext w W) k => HCV.out W h 0 k (by omega)
    generalize bs ((c :: r).take 0) = s at *
    go_enter Tryz.func91, Tryz.ntmps91
    go_wp2_with fail
    rw [← HW0.out]
    refine (KCl.out _).mono ?_
    rintro e w3 ⟨rfl, x3⟩
    have y3 : Ext w w3 := x0.trans x3
    have hwp : IntKind.i64.wrap ((at_ : Int) + 0) = (at_ : Int) := by rw [Int.add_zero]; exact IntWalk.i64_in _ ⟨by omega, by omega⟩
    have hcv3 := fun k => HC.out w3 y3 k
    have hB3 := HB0.out.ext x3
    have e0 := hB3.cell 0
    have e1 := hB3.cell 1
    have e2 := hB3.cell 2
    have f0 := hB3.frozen 0
    have f1 := hB3.frozen 1
    have f2 := hB3.frozen 2
    have hl3 := hB3.lt
    have hB9 := Lib.hid (((hB3.set_ 0 (.int .u8 5)).set_ 1 (.string s)).set_ 2 (.int .i64 at_))
    clear hB3
    go_wp2_with fail
    obtain ⟨r0, r1, r2⟩ := tok_cells hB9.out
    refine bodyPost_ret (v := .tuple #[.agg #[.int .u8 5, .string s, .int .i64 at_], .bool false]) (by simp [results, Tryz.results91, go_sem, r0, r1, r2]) rfl ⟨by (exact eX), ?_⟩
    rw [HT.out]
    exact ⟨_, _, rfl⟩
end Go.Proofs.YtaioeailgknfjaaGreatDoor

/- The walk of token.Lex. The walk of token.Join. -/
namespace Go.Proofs.YtaioeailgknfjaaGreatDoor
open Go Go.RowKit Go.Sort

set_option maxHeartbeats 400000 in
theorem chars_span_end (w : World) (a : Option Addr) (len cap : Nat) (k : Int) (h0 : 0 ≤ k) (h : (len : Int) ≤ k) (a' : Option Addr) (len' cap' : Nat) :
    Calls Tryz.prog 90 #[.slice a len cap, .int .i64 k, .slice a' len' cap'] w fun e w' => e = .returned (.int .i64 0) ∧ Ext w w' := by
  have hz : ¬ k < 0 := by omega
  have hz' : (k < 0) = False := by simp; omega
  go_enter Tryz.func90, Tryz.ntmps90
  go_wp2_with fail
  go_ret
  exact ⟨rfl, by (exact eX)⟩
/-- The tokens of a text, the place, the error. -/
def lexR (B : List UInt8) : List Tk × Int × Int := if 65536 < B.length then ([], 0, 3) else match lexL 0 B with
  | .ok o => (o.map Tok.tk, 0, 0)
  | .error p => ([], (p : Int), 2)
theorem lexR_long {B : List UInt8} (h : 65536 < B.length) : lexR B = ([], 0, 3) := if_pos h
theorem lexR_ok {B : List UInt8} (h : ¬ 65536 < B.length) {o : List Tok} (e : lexL 0 B = .ok o) : lexR B = (o.map Tok.tk, 0, 0) := by unfold lexR; rw [if_neg h, e]
theorem lexR_error {B : List UInt8} (h : ¬ 65536 < B.length) {p : Nat} (e : lexL 0 B = .error p) : lexR B = ([], (p : Int), 2) := by unfold lexR; rw [if_neg h, e]
/-- What Lex hands back. -/
def RetLex (B : List UInt8) (w : World) (e : Ending) (w' : World) : Prop := ∃ a n c, e = .returned (.tuple #[.slice a n c, .int .i64 (lexR B).2.1, .int .i64 (lexR B).2.2]) ∧ n ≤ c ∧ c ≤ 9223372036854775807 ∧ IsToks w' (lexR B).1 a n ∧ Ext w w'
theorem infoTk : (Tryz.prog.info? 37).map (fun i => (i.zero, i.size, i.bytes)) = some (some (.agg #[.int .u8 0, .string ByteArray.empty, .int .i64 0]), 3, 32) := by kernel_rfl
/-- A row of tokens that a slice owns. -/
def OwnToks (w : World) (base : Nat) (v : Value) (o : List Tok) : Prop := w.ownsRow base 37 3 v o.length (o.map fun t => tkcells t.tk).flatten
theorem toks_len (o : List Tok) : ∀ cs ∈ o.map (fun t => tkcells t.tk), cs.length = 3 := by
  intro cs h
  obtain ⟨t, _, rfl⟩ := List.mem_map.1 h
  rfl
theorem OwnToks.open_ {w : World} {base : Nat} {v : Value} {o : List Tok} (h : OwnToks w base v o) (hf : ∀ t, t ∈ o → t.tk.Fits) : ∃ a c, v = .slice a o.length c ∧ o.length ≤ c ∧ c ≤ 9223372036854775807 ∧ IsToks w (o.map Tok.tk) a o.length := by
  obtain ⟨a, c, rfl, h1, h2, h3⟩ := owns_flat h (by decide) (toks_len o)
  refine ⟨a, c, rfl, h1, h2, ?_, fun t ht => ?_⟩
  · rw [List.map_map]
    exact h3
  · obtain ⟨t', ht', rfl⟩ := List.mem_map.1 ht
    exact hf t' ht'
theorem toks_snoc (o : List Tok) (t : Tok) : ((o ++ [t]).map fun t => tkcells t.tk).flatten = (o.map fun t => tkcells t.tk).flatten ++ tkcells t.tk := by simp
/-- Where the program stands, going through a text: the tokens that were cut, and the rest. -/
structure LexAt (B : List UInt8) (o : List Tok) (p : Nat) : Prop where
  le : p ≤ B.length
  eq : lexL 0 B = ahead o (lexL p (B.drop p))
  fits : ∀ t, t ∈ o → t.tk.Fits
  few : o.length ≤ p
theorem LexAt.start (B : List UInt8) : LexAt B [] 0 := ⟨Nat.zero_le _, by rw [List.drop_zero, ahead_nil], by simp, Nat.le_refl _⟩
theorem LexAt.blanks {B : List UInt8} {o : List Tok} {p : Nat} (h : LexAt B o p) : LexAt B o (p + spanU [1] (B.drop p)) := by
  have hs := spanU_le [1] (B.drop p)
  rw [List.length_drop] at hs
  have := h.le
  refine ⟨by omega, ?_, h.fits, by have := h.few; omega⟩
  rw [h.eq, lexL_span, List.drop_drop]
theorem LexAt.tok {B : List UInt8} {o : List Tok} {p n : Nat} {k : Int} (h : LexAt B o p) (hb : ∀ c r, B.drop p = c :: r → clsU c ≠ 1) (ht : tokAt (B.drop p) = some (n, k)) (hm : B.length ≤ 65536) : LexAt B (o ++ [⟨k, bs ((B.drop p).take n), p⟩]) (p + n) := by
  have hbd := tokAt_bd ht
  rw [List.length_drop] at hbd
  refine ⟨by omega, ?_, ?_, by simp; have := h.few; omega⟩
  · rw [h.eq]
    cases hd : B.drop p with
    | nil => rw [hd] at ht; cases ht
    | cons c r =>
      rw [hd] at ht
      rw [lexL_tok (hb c r hd) p ht, ahead_cons, ← hd, List.drop_drop]
  · intro t hmem
    rcases List.mem_append.1 hmem with hmem | hmem
    · exact h.fits t hmem
    · simp at hmem
      subst hmem
      have hle := h.le
      refine ⟨by show (0 : Int) ≤ k; omega, by show k ≤ 255; omega, by show (-9223372036854775808 : Int) ≤ (p : Int); omega, by show (p : Int) ≤ 9223372036854775807; omega, ?_⟩
      show (bs ((B.drop p).take n)).size ≤ 9223372036854775807
      rw [bs_size, List.length_take, List.length_drop]
      omega
theorem LexAt.none_ {B : List UInt8} {o : List Tok} {p : Nat} (h : LexAt B o p) (hb : ∀ c r, B.drop p = c :: r → clsU c ≠ 1) (hlt : p < B.length) (ht : tokAt (B.drop p) = none) : lexL 0 B = .error p := by
  rw [h.eq]
  cases hd : B.drop p with
  | nil =>
    have := congrArg List.length hd
    rw [List.length_drop] at this
    simp at this
    omega
  | cons c r =>
    rw [hd] at ht
    rw [lexL_none (hb c r hd) p ht]
    rfl
theorem LexAt.end_ {B : List UInt8} {o : List Tok} (h : LexAt B o B.length) : lexL 0 B = .ok (o ++ [⟨6, ByteArray.empty, B.length⟩]) := by
  rw [h.eq, List.drop_length]
  rfl
theorem LexAt.fitsEnd {B : List UInt8} {o : List Tok} (h : LexAt B o B.length) (hm : B.length ≤ 65536) : ∀ t, t ∈ o ++ [⟨6, ByteArray.empty, B.length⟩] → t.tk.Fits := by
  intro t hmem
  rcases List.mem_append.1 hmem with hmem | hmem
  · exact h.fits t hmem
  · simp at hmem
    subst hmem
    exact ⟨by show (0 : Int) ≤ 6; omega, by show (6 : Int) ≤ 255; omega, by show (-9223372036854775808 : Int) ≤ (B.length : Int); omega, by show (B.length : Int) ≤ 9223372036854775807; omega, by show (0 : Nat) ≤ 9223372036854775807; omega⟩
theorem after_blanks (B : List UInt8) (p : Nat) : ∀ c r, B.drop (p + spanU [1] (B.drop p)) = c :: r → clsU c ≠ 1 := by
  intro c r h
  rw [← List.drop_drop] at h
  have := span_stop [1] (B.drop p) h
  simpa using this
theorem row_1 (w : World) (t : TypeId) : IsRow (w.alloc (.cells #[.int .u8 1] t)) (vby [1]) (some ⟨w.heap.size, 0, none⟩) 1 := IsRow.new w t (vby [1])
/-- Span of blanks, wherever it begins. -/
theorem span_blanks (B : List UInt8) (k : Nat) (W : World) (a : Option Addr) (len cap : Nat) (h1 : len ≤ cap) (h2 : cap ≤ 9223372036854775807) (hr : IsBytes W B a len) (hk : k ≤ len) (a' : Option Addr) (hc : IsRow W (vby [1]) a' 1) :
    Calls Tryz.prog 90 #[.slice a len cap, .int .i64 k, .slice a' 1 1] W fun e w' => e = .returned (.int .i64 (spanU [1] (B.drop k) : Nat)) ∧ Ext W w' := by
  by_cases hlt : k < len
  · obtain ⟨c, b, o, g, rfl, q⟩ := hr.at_ hlt
    have h := chars_span [1] (il (bs B)) k W b o len cap a' 1 1 h1 h2 (Nat.le_refl _) (by omega) hlt hr (fun c hc => il_bound _ hc) hc
    rw [il_drop, spanOf_U] at h
    exact h
  · have hd : B.drop k = [] := List.drop_eq_nil_of_le (by have := hr.length; omega)
    rw [hd, spanU_nil]
    exact chars_span_end W a len cap k (by omega) (by omega) a' 1 1
theorem infoTk1 : ∃ i0, Tryz.prog.info? 37 = some i0 ∧ i0.zero = some (.agg #[.int .u8 0, .string ByteArray.empty, .int .i64 0]) ∧ i0.size = 3 ∧ i0.bytes = 32 := info_parts infoTk
theorem tkcells_at (w : World) (k : Int) (s : ByteArray) (p : Int) (T : TypeId) : ∀ i u, ([.int .u8 k, .string s, .int .i64 p] : List Value)[i]? = some u → (w.alloc (.cells #[.int .u8 k, .string s, .int .i64 p] T)).cell? ((⟨w.heap.size, 0, none⟩ : Addr).add i) = some u := fun i u hu => by
  rw [Addr.add_lit, Nat.zero_add]
  exact (World.cell?_alloc_new w _ _ _).trans (by simpa using hu)
theorem tkcells_one (k : Int) (s : ByteArray) (p : Int) : ∀ u ∈ ([.int .u8 k, .string s, .int .i64 p] : List Value), u.oneCell' = true := by
  intro u hu
  simp at hu
  rcases hu with rfl | rfl | rfl <;> rfl
set_option maxRecDepth 8000 in
set_option maxHeartbeats 4000000 in
theorem token_lex (B : List UInt8) (w : World) (a : Option Addr) (len cap : Nat) (h1 : len ≤ cap) (h2 : cap ≤ 9223372036854775807) (hr : IsBytes w B a len) (hk : Knob w) :
    Calls Tryz.prog 55 #[.slice a len cap] w (RetLex B w) := by
  have hlen := hr.length
  have HLEN := Lib.hid hlen
  have HR := Lib.hid hr
  have HK := Lib.hid hk
  clear hr hk
  by_cases h64 : 65536 < len
  · have hz : (65536 : Int) < (len : Int) := by omega
    have HX := Lib.hid (lexR_long (B := B) (by omega))
    clear hlen
    go_enter Tryz.func55, Tryz.ntmps55
    go_wp2_with fail
    refine bodyPost_ret (v := .tuple #[.slice none 0 0, .int .i64 0, .int .i64 3]) (by simp [results, Tryz.results55, go_sem]) rfl ⟨none, 0, 0, by rw [HX.out], Nat.le_refl _, by omega, by rw [HX.out]; exact ⟨IsFlat.nil _ _ _, by simp⟩, by (exact eX)⟩
  have hz : (len : Int) ≤ 65536 := by omega
  have HNL := Lib.hid (show ¬ 65536 < B.length from by omega)
  obtain ⟨i0, hi, hz0, hz1', hz2'⟩ := infoTk1
  have HIN := Lib.hid (And.intro hi (And.intro hz0 (And.intro hz1' hz2')))
  have KS := Lib.hid fun W k a' (hk : k ≤ len) (h : Ext w W) (hc : IsRow W (vby [1]) a' 1) => span_blanks B k W a len cap h1 h2 (HR.out.ext h) hk a' hc
  have KS0 := Lib.hid fun W a' (h : Ext w W) (hc : IsRow W (vby [1]) a' 1) => span_blanks B 0 W a len cap h1 h2 (HR.out.ext h) (by omega) a' hc
  rw [List.drop_zero] at KS0
  have hs0 := spanU_le [1] B
  clear hi hz0 hz1' hz2' hlen
  go_enter Tryz.func55, Tryz.ntmps55
  go_wp2_with (go_at_call 90; refine (KS0.out _ _ ((Ext.refl _).alloc _) (row_1 w _)).mono ?_; rintro e w1 ⟨rfl, x1⟩)
  have y1 : Ext w w1 := ((Ext.refl _).alloc _).trans x1
  have A0 := (LexAt.start B).blanks
  rw [Nat.zero_add, List.drop_zero] at A0
  have NB0 := after_blanks B 0
  rw [Nat.zero_add, List.drop_zero] at NB0
  generalize spanU [1] B = p0 at *
  go_loopg [5, 6] (len - p0) (fun g s i wr => ∃ (p : Nat) (o : List Tok), g = len - p ∧ i = .int .i64 p ∧ LexAt B o p ∧ (∀ c r, B.drop p = c :: r → clsU c ≠ 1) ∧ OwnToks wr w.heap.size s o ∧ Ext w wr)
  case atStart => exact ⟨p0, [], rfl, rfl, A0, NB0, World.ownsRow_nil _ _ _ _, y1⟩
  case round =>
    obtain ⟨p, o, rfl, rfl, hA, hNB, hO, hx⟩ := hrel
    have HA := Lib.hid hA
    have HNB := Lib.hid hNB
    have HO := Lib.hid hO
    have hple : p ≤ len := by have := HA.out.le; have := HLEN.out; omega
    have hfew := hA.few
    clear hA hNB hO A0 NB0
    by_cases hlt : p < len
    · obtain ⟨c0, b, o', g, rfl, q⟩ := (HR.out.ext hx).at_ hlt
      have hz1 : (p : Int) < (len : Int) := by omega
      have KN := Lib.hid (token_next B p wr b o' len cap h1 h2 (HR.out.ext hx) hlt (HK.out.ext hx))
      clear g q
      go_wp2_with fail
      refine (KN.out).mono ?_
      rintro e w2 ⟨x2, hres⟩
      have y2 : Ext w w2 := hx.trans x2
      cases ht : tokAt (B.drop p) with
      | none =>
        rw [ht] at hres
        obtain ⟨k, s, rfl⟩ := hres
        have HE := Lib.hid (HA.out.none_ HNB.out (by have := HLEN.out; omega) ht)
        have HX := Lib.hid (lexR_error HNL.out HE.out)
        clear ht
        go_wp2_with fail
        refine bodyPost_ret (v := .tuple #[.slice none 0 0, .int .i64 p, .int .i64 2]) (by simp [results, Tryz.results55, go_sem]) rfl ⟨none, 0, 0, by rw [HX.out], Nat.le_refl _, by omega, by rw [HX.out]; exact ⟨IsFlat.nil _ _ _, by simp⟩, by (exact eX)⟩
      | some nk =>
        obtain ⟨n, k⟩ := nk
        rw [ht] at hres
        have e1 : e = .returned (.tuple #[.agg #[.int .u8 k, .string (bs ((B.drop p).take n)), .int .i64 p], .bool true]) := hres
        clear hres
        subst e1
        have hbd := tokAt_bd ht
        have A1 := HA.out.tok HNB.out ht (by have := HLEN.out; omega)
        have A2 := A1.blanks
        have NB2 := after_blanks B (p + n)
        have hsl := spanU_le [1] (B.drop (p + n))
        have hsz : (bs ((B.drop p).take n)).size = n := by rw [bs_size, List.length_take]; omega
        have hpn : p + n ≤ len := by have := A1.le; have := HLEN.out; omega
        have HS := Lib.hid (show (((bs ((B.drop p).take n)).size : Nat) : Int) = (n : Int) from by rw [hsz])
        have KS2 := Lib.hid fun W a' (h : Ext w W) (hc : IsRow W (vby [1]) a' 1) => KS.out W (p + n) a' hpn h hc
        have HOT : Hid (∀ W v', Ext w W → W.ownsRow w.heap.size 37 3 v' (o.length + 1) ((o.map fun t => tkcells t.tk).flatten ++ [.int .u8 k, .string (bs ((B.drop p).take n)), .int .i64 p]) → OwnToks W w.heap.size v' (o ++ [⟨k, bs ((B.drop p).take n), p⟩])) := Lib.hid fun W v' _ h => by
          unfold OwnToks
          rw [toks_snoc, List.length_append]
          exact h
        rw [List.length_drop] at hbd hsl
        generalize hss : bs ((B.drop p).take n) = s at *
        have HA2 := Lib.hid A2
        have HNB2 := Lib.hid NB2
        obtain ⟨m, hm⟩ : ∃ m, m = spanU [1] (B.drop (p + n)) := ⟨_, rfl⟩
        rw [← hm] at KS2 HA2 HNB2 hsl
        have hpm : p + n + m ≤ len := by have := HA2.out.le; have := HLEN.out; omega
        have hw1 : IntKind.i64.wrap ((p : Int) + (n : Int)) = (p : Int) + n := IntWalk.i64_in _ ⟨by omega, by omega⟩
        have hw2 : IntKind.i64.wrap ((p : Int) + (n : Int) + (m : Int)) = (p : Int) + n + m := IntWalk.i64_in _ ⟨by omega, by omega⟩
        clear ht A1 A2 NB2 hss hm hsz
        obtain ⟨sa, sc, rfl, -, -, -⟩ := HO.out.open_ HA.out.fits
        have E9 := Lib.hid (show (w2.alloc (.cells #[.int .u8 k, .string s, .int .i64 p] 37)).heap.size = w2.heap.size + 1 from by simp)
        go_wp2_with (at_builtin; refine wpList_append_mine rfl (.tmp 34) (.tmp 36) 32 ?r0 w.heap.size 37 i0 (.agg #[.int .u8 0, .string ByteArray.empty, .int .i64 0]) 3 32 ?r1 ?r2 ?r3 ?r4 ?r5 ?r6 ?r7 (Value.slice sa o.length sc) o.length (o.map fun t => tkcells t.tk).flatten ?r8 ?r9 ⟨w2.heap.size + 1, 0, none⟩ 1 1 [.int .u8 k, .string s, .int .i64 p] ?r10 ?r11 ?r12 ?r13 ?r14 ?r15 ?r16 ?r17)
        case r0 => rfl
        case r1 => exact Tryz.underlying32
        case r2 => exact HIN.out.1
        case r3 => exact HIN.out.2.1
        case r4 => exact HIN.out.2.2.1
        case r5 => exact HIN.out.2.2.2
        case r6 => rfl
        case r7 => decide
        case r8 => rfl
        case r9 => exact owns_ext ((x2.alloc _).alloc _) HO.out
        case r10 => rfl
        case r11 => rfl
        case r12 =>
          have := tkcells_at (w2.alloc (.cells #[.int .u8 k, .string s, .int .i64 p] 37)) k s p 37
          rw [E9.out] at this
          exact this
        case r13 => exact tkcells_one k s p
        case r14 => unfold maxLen; omega
        case r15 => omega
        case r16 => have := y2.size; simp; omega
        case r17 =>
          intro v9 w9 ho9 hg9 _
          have hX9 := ext_grown hg9 ((y2.alloc _).alloc _) (fun k hk => (HO.out.lt k hk).1)
          have HO9 := Lib.hid (HOT.out w9 v9 hX9 ho9)
          have d1 : w9.cell? ⟨w2.heap.size, 1, none⟩ = some (.string s) := by
            have b9 := hg9.block w2.heap.size (by simp; omega) (fun e => by have := (HO.out.lt _ e.symm).2; have := x2.size; omega)
            exact (World.cell?_of_block (a := ⟨w2.heap.size, 1, none⟩) b9).trans (((Ext.refl _).alloc _).cell (tkcells_at w2 k s p _ 1 _ rfl))
          have hs := HS.out
          clear ho9 hg9
          go_wp2_with (go_at_call 90; refine (KS2.out _ _ (hX9.alloc _) (row_1 _ _)).mono ?_; rintro e w10 ⟨rfl, x10⟩)
          go_roundg (len - (p + n + m))
          case rel => exact ⟨p + n + m, _, rfl, by go_num, HA2.out, HNB2.out, owns_ext (((Ext.refl _).alloc _).trans x10) HO9.out, (hX9.alloc _).trans x10⟩
          case measure => omega
    · obtain rfl : p = len := by omega
      have HAE : Hid (LexAt B o B.length) := Lib.hid (by have := HA.out; rw [← HLEN.out]; exact this)
      have HX := Lib.hid (lexR_ok HNL.out HAE.out.end_)
      have HFE := Lib.hid (HAE.out.fitsEnd (by have := HNL.out; omega))
      obtain ⟨sa, sc, rfl, -, -, -⟩ := HO.out.open_ HA.out.fits
      go_wp2_with (at_builtin; refine wpList_append_mine rfl (.tmp 43) (.tmp 47) 32 ?r0 w.heap.size 37 i0 (.agg #[.int .u8 0, .string ByteArray.empty, .int .i64 0]) 3 32 ?r1 ?r2 ?r3 ?r4 ?r5 ?r6 ?r7 (Value.slice sa o.length sc) o.length (o.map fun t => tkcells t.tk).flatten ?r8 ?r9 ⟨wr.heap.size, 0, none⟩ 1 1 [.int .u8 6, .string ByteArray.empty, .int .i64 p] ?r10 ?r11 ?r12 ?r13 ?r14 ?r15 ?r16 ?r17)
      case r0 => rfl
      case r1 => exact Tryz.underlying32
      case r2 => exact HIN.out.1
      case r3 => exact HIN.out.2.1
      case r4 => exact HIN.out.2.2.1
      case r5 => exact HIN.out.2.2.2
      case r6 => rfl
      case r7 => decide
      case r8 => rfl
      case r9 => exact owns_ext ((Ext.refl _).alloc _) HO.out
      case r10 => rfl
      case r11 => rfl
      case r12 => exact tkcells_at wr 6 ByteArray.empty p _
      case r13 => exact tkcells_one 6 ByteArray.empty p
      case r14 => unfold maxLen; omega
      case r15 => omega
      case r16 => have := hx.size; simp; omega
      case r17 =>
        intro v9 w9 ho9 hg9 _
        have hX9 := ext_grown hg9 (hx.alloc _) (fun k hk => (HO.out.lt k hk).1)
        obtain ⟨na, nc, rfl, hn1, hn2, hn3⟩ := OwnToks.open_ (o := o ++ [(⟨6, ByteArray.empty, p⟩ : Tok)]) (w := w9) (base := w.heap.size) (by unfold OwnToks; rw [toks_snoc, List.length_append]; exact ho9) (by have := HFE.out; rw [← HLEN.out] at this; exact this)
        have HN3 := Lib.hid hn3
        have HXX : Hid (lexR B = ((o ++ [(⟨6, ByteArray.empty, p⟩ : Tok)]).map Tok.tk, 0, 0)) := Lib.hid (by have := HX.out; rw [← HLEN.out] at this; exact this)
        clear ho9 hg9 hn3
        go_wp2_with fail
        refine bodyPost_ret (v := .tuple #[.slice na (o ++ [(⟨6, ByteArray.empty, p⟩ : Tok)]).length nc, .int .i64 0, .int .i64 0]) (by simp [results, Tryz.results55, go_sem]) rfl ⟨na, (o ++ [(⟨6, ByteArray.empty, p⟩ : Tok)]).length, nc, by rw [HXX.out], hn1, hn2, by rw [HXX.out]; exact HN3.out, by (exact eX)⟩
end Go.Proofs.YtaioeailgknfjaaGreatDoor
namespace Go.Proofs.YtaioeailgknfjaaGreatDoor
open Go Go.RowKit Go.Sort

end Go.Proofs.YtaioeailgknfjaaGreatDoor

/- A parser in memory. -/
namespace Go.Proofs.YtaioeailgknfjaaGreatDoor
open Go Go.RowKit Go.Sort

/-- A parser at some tokens: those that are left. -/
def Prs (w : World) (pb : Nat) (l : List Tk) : Prop :=
  ∃ b o n c i L, Blk w pb 96 #[.slice (some ⟨b, o, none⟩) n c, .int .i64 (i : Nat)] ∧ n ≤ c ∧ c ≤ 9223372036854775807 ∧ IsToks w L (some ⟨b, o, none⟩) n ∧ b < pb ∧ l = L.drop i ∧ i < n
theorem IsToks.extx {A : Nat → Prop} {w w' : World} (hx : ExtX A w w') {l : List Tk} {b o n : Nat} (hb : ¬ A b) (h : IsToks w l (some ⟨b, o, none⟩) n) : IsToks w' l (some ⟨b, o, none⟩) n :=
  ⟨⟨h.1.1, h.1.2.1, fun i cs hi => by
    obtain ⟨b', o', e, q⟩ := h.1.2.2 i cs hi
    cases e
    exact ⟨_, _, rfl, fun j v hj => hx.cell hb (q j v hj)⟩⟩, h.2⟩
theorem Prs.ext {w w' : World} {pb : Nat} {l : List Tk} (h : Prs w pb l) (hx : Ext w w') : Prs w' pb l := by
  obtain ⟨b, o, n, c, i, L, hB, h1, h2, hT, hne, hl, hi⟩ := h
  exact ⟨b, o, n, c, i, L, hB.ext hx, h1, h2, hT.ext hx, hne, hl, hi⟩
theorem Prs.lt {w : World} {pb : Nat} {l : List Tk} (h : Prs w pb l) : pb < w.heap.size := by
  obtain ⟨b, o, n, c, i, L, hB, -⟩ := h
  exact hB.lt
theorem IsToks.far {w : World} {p : Addr} {u : Value} {l : List Tk} {b o n : Nat} (hb : b ≠ p.block) (h : IsToks w l (some ⟨b, o, none⟩) n) : IsToks (w.setCell p u) l (some ⟨b, o, none⟩) n :=
  ⟨⟨h.1.1, h.1.2.1, fun i cs hi => by
    obtain ⟨b', o', e, q⟩ := h.1.2.2 i cs hi
    cases e
    exact ⟨_, _, rfl, fun j v hj => (World.cell?_setCell_other w p _ u (by rintro rfl; exact hb rfl)).trans (q j v hj)⟩⟩, h.2⟩
theorem Prs.far {w : World} {pb : Nat} {l : List Tk} (h : Prs w pb l) {p : Addr} (hp : pb < p.block) (u : Value) : Prs (w.setCell p u) pb l := by
  obtain ⟨b, o, n, c, i, L, hB, h1, h2, hT, hne, hl, hi⟩ := h
  exact ⟨b, o, n, c, i, L, hB.far (by omega) u, h1, h2, hT.far (by omega), hne, hl, hi⟩
theorem Prs.alloc {w : World} {pb : Nat} {l : List Tk} (h : Prs w pb l) (o : Obj) : Prs (w.alloc o) pb l := h.ext ((Ext.refl w).alloc o)
theorem Prs.drew {w : World} {pb : Nat} {l : List Tk} (h : Prs w pb l) : Prs w.drew pb l := h.ext (Ext.refl w).drew
theorem Blk.extx {A : Nat → Prop} {w w' : World} {g : Nat} {t : TypeId} {cs : Array Value} (h : Blk w g t cs) (hx : ExtX A w w') (hg : ¬ A g) : Blk w' g t cs := (hx.block g h.lt hg).trans h
/-- The step that a walk's parser is shown by. -/
theorem prX {w : World} {pb : Nat} {l : List Tk} (h : Prs w pb l := by (repeat (first | (with_reducible assumption) | (with_reducible refine Prs.alloc ?_ _) | (with_reducible refine Prs.drew ?_) | ((with_reducible refine Prs.far ?_ ?_ _); rotate_left 1; (first | assumption | (focus (simp; done)) | (focus (simp; omega)) | omega))))) : Prs w pb l := h
/-- A parser's cells, and the token that stands next. -/
theorem Prs.open_ {w : World} {pb : Nat} {t : Tk} {l : List Tk} (h : Prs w pb (t :: l)) :
    ∃ b o n c i, Blk w pb 96 #[.slice (some ⟨b, o, none⟩) n c, .int .i64 (i : Nat)] ∧ n ≤ c ∧ c ≤ 9223372036854775807 ∧ i < n ∧ t.Fits ∧ w.cell? ⟨b, o + i * 3, none⟩ = some (.int .u8 t.k) ∧ w.cell? ⟨b, o + i * 3 + 1, none⟩ = some (.string t.text) ∧ w.cell? ⟨b, o + i * 3 + 2, none⟩ = some (.int .i64 t.pos) ∧
      ∀ w', ExtX (· = pb) w w' → Blk w' pb 96 #[.slice (some ⟨b, o, none⟩) n c, .int .i64 ((i + 1 : Nat) : Int)] → l ≠ [] → Prs w' pb l := by
  obtain ⟨b, o, n, c, i, L, hB, h1, h2, hT, hne, hl, hi⟩ := h
  obtain ⟨t', b', o', g, hf, e, q0, q1, q2⟩ := hT.at3 hi
  cases e
  have hL : n = L.length := hT.length
  have e : L.drop i = L[i]'(by omega) :: L.drop (i + 1) := List.drop_eq_getElem_cons (by omega)
  rw [e] at hl
  rw [List.getElem?_eq_getElem (by omega)] at g
  cases g
  cases hl
  refine ⟨b, o, n, c, i, hB, h1, h2, hi, hf, q0, q1, q2, fun w' hx hB' hl => ?_⟩
  refine ⟨b, o, n, c, i + 1, L, hB', h1, h2, hT.extx hx (by omega), hne, rfl, ?_⟩
  rcases Nat.lt_or_ge (i + 1) n with h | h
  · exact h
  · exact (hl (List.drop_eq_nil_of_le (by omega))).elim
/-- What is thrown where a token can't stand. -/
def thrown (l : List Tk) : Ending := .panicked [{ v := .iface 94 (.agg #[.int .i64 (posT l)]), recovered := false }]
/-- What a step of the parser comes to. -/
def RetP {α : Type} (pb : Nat) (w : World) (V : World → α → Value → Prop) (r : Res α) (e : Ending) (w' : World) : Prop :=
  ExtX (· = pb) w w' ∧ match r with
  | .ok (a, l) => ∃ v, e = .returned v ∧ V w' a v ∧ Prs w' pb l
  | .error l => e = thrown l
theorem RetP.ok {α : Type} {pb : Nat} {w : World} {V : World → α → Value → Prop} {a : α} {l : List Tk} {e : Ending} {w' : World} (h : RetP pb w V (.ok (a, l)) e w') : ∃ v, e = .returned v ∧ V w' a v ∧ Prs w' pb l ∧ ExtX (· = pb) w w' := by
  obtain ⟨hx, v, e, hv, hp⟩ := h
  exact ⟨v, e, hv, hp, hx⟩
theorem RetP.error {α : Type} {pb : Nat} {w : World} {V : World → α → Value → Prop} {l : List Tk} {e : Ending} {w' : World} (h : RetP pb w V (.error l : Res α) e w') : e = thrown l ∧ ExtX (· = pb) w w' := ⟨h.2, h.1⟩
end Go.Proofs.YtaioeailgknfjaaGreatDoor

/- The walks of package parse: now, is, take, kind, word, name, exn. The walks of package parse: kind, word, name, exn. -/
namespace Go.Proofs.YtaioeailgknfjaaGreatDoor
open Go Go.RowKit Go.Sort

set_option maxRecDepth 8000 in
set_option maxHeartbeats 1000000 in
theorem parse_now (pb : Nat) (t : Tk) (l : List Tk) (w : World) (h : Prs w pb (t :: l)) :
    Calls Tryz.prog 69 #[.pointer (some ⟨pb, 0, none⟩)] w fun e w' => e = .returned (.agg #[.int .u8 t.k, .string t.text, .int .i64 t.pos]) ∧ Ext w w' := by
  obtain ⟨b, o, n, c, i, hB, h1, h2, hi, hf, q0, q1, q2, -⟩ := h.open_
  have hz : (i : Int) < (n : Int) := by omega
  have c0 := hB.cell 0
  have c1 := hB.cell 1
  have f0 := hB.frozen 0
  have f1 := hB.frozen 1
  have hl := hB.lt
  simp at c0 c1
  have n0 := fun W (x : Ext w W) => x.cell c0
  have n1 := fun W (x : Ext w W) => x.cell c1
  have m0 := fun W (x : Ext w W) => x.cell q0
  have m1 := fun W (x : Ext w W) => x.cell q1
  have m2 := fun W (x : Ext w W) => x.cell q2
  clear h hB f0 f1
  go_enter Tryz.func69, Tryz.ntmps69
  go_wp2_with fail
  refine wp_region_held_drew (S := fun w' => Ext w w') (by kernel_rfl) (by (try dsimp only); (exact eX)) (fun hHeld => ?_)
  refine tK 0 (v := ?_) ?_ ?_;rotate_left;(focus (intro w hSw;(try dsimp only at hSw);go_simp;(try with_reducible rfl)));try simp only [Act.put,pA,pB,pC]
  refine tK 1 (v := ?_) ?_ ?_;rotate_left;(focus (intro w hSw;(try dsimp only at hSw);go_simp;(try with_reducible rfl)));try simp only [Act.put,pA,pB,pC]
  refine tK 2 (v := ?_) ?_ ?_;rotate_left;(focus (intro w hSw;(try dsimp only at hSw);go_simp;(try with_reducible rfl)));try simp only [Act.put,pA,pB,pC]
  refine tK 3 (v := ?_) ?_ ?_;rotate_left;(focus (intro w hSw;(try dsimp only at hSw);go_simp;(try with_reducible rfl)));try simp only [Act.put,pA,pB,pC]
  refine tK 4 (v := ?_) ?_ ?_;rotate_left;(focus (intro w hSw;(try dsimp only at hSw);go_simp;(try with_reducible rfl)));try simp only [Act.put,pA,pB,pC]
  refine tK 5 (v := ?_) ?_ ?_;rotate_left;(focus (intro w hSw;(try dsimp only at hSw);go_simp;(try with_reducible rfl)));try simp only [Act.put,pA,pB,pC]
  refine tK 6 (v := ?_) ?_ ?_;rotate_left;(focus (intro w hSw;(try dsimp only at hSw);go_simp;(try with_reducible rfl)));try simp only [Act.put,pA,pB,pC]
  refine tK 7 (v := ?_) ?_ ?_;rotate_left;(focus (intro w hSw;(try dsimp only at hSw);go_simp;(try with_reducible rfl)));try simp only [Act.put,pA,pB,pC]
  refine tK 8 (v := ?_) ?_ ?_;rotate_left;(focus (intro w hSw;(try dsimp only at hSw);go_simp;(try with_reducible rfl)));try simp only [Act.put,pA,pB,pC]
  refine tK 9 (v := ?_) ?_ ?_;rotate_left;(focus (intro w hSw;(try dsimp only at hSw);go_simp;(try with_reducible rfl)));try simp only [Act.put,pA,pB,pC]
  refine held_do 10 rfl (by kernel_rfl) (by rfl) (fun K hK => ?_); go_simp; refine hK.out _ _ (by (try dsimp only); (exact eX)) (fun hHeld => ?_); clear hK K; try simp only [Act.put,pA,pB,pC]
  refine wpAnyH_done (by kernel_rfl) ?_ _
  go_wp2_with fail
  exact bodyPost_ret (v := .agg #[.int .u8 t.k, .string t.text, .int .i64 t.pos]) (by simp [results, Tryz.results69, go_sem]) rfl ⟨rfl, hHeld⟩
theorem isT_cons (xs : List ByteArray) (t : Tk) (l : List Tk) : isT xs (t :: l) = ((t.k == 4 || t.k == 5) && inB xs t.text) := rfl
set_option maxRecDepth 8000 in
set_option maxHeartbeats 1000000 in
theorem parse_is (xs : List ByteArray) (pb : Nat) (t : Tk) (l : List Tk) (w : World) (a : Option Addr) (len cap : Nat) (h1 : len ≤ cap) (h2 : cap ≤ 9223372036854775807) (hr : IsRow w (vstr xs) a len) (h : Prs w pb (t :: l)) :
    Calls Tryz.prog 36 #[.pointer (some ⟨pb, 0, none⟩), .slice a len cap] w fun e w' => e = .returned (.bool (isT xs (t :: l))) ∧ Ext w w' := by
  have KN := Lib.hid fun W (x : Ext w W) => parse_now pb t l W (h.ext x)
  have KC := Lib.hid fun W (x : Ext w W) => strs_contains t.text xs W a len cap h1 h2 (hr.ext x)
  have HT := Lib.hid (isT_cons xs t l)
  clear hr h
  have hc : t.k = 4 ∨ t.k = 5 ∨ (t.k ≠ 4 ∧ t.k ≠ 5) := by omega
  generalize isT xs (t :: l) = r at *
  generalize inB xs t.text = c at *
  obtain ⟨k, s, p⟩ := t
  simp only at *
  rcases hc with rfl | rfl | ⟨n4, n5⟩
  · have HR : Hid (r = c) := Lib.hid (by rw [HT.out]; simp)
    go_enter Tryz.func36, Tryz.ntmps36
    go_wp2_with (first | (go_at_call 69; refine (KN.out _ (by (exact eX))).mono ?_; rintro e w1 ⟨rfl, x1⟩) | (go_at_call 70; refine (KC.out _ (by (exact eX))).mono ?_; rintro e w2 ⟨rfl, x2⟩))
    go_ret
    exact ⟨by rw [HR.out]; rfl, by (exact eX)⟩
  · have HR : Hid (r = c) := Lib.hid (by rw [HT.out]; simp)
    go_enter Tryz.func36, Tryz.ntmps36
    go_wp2_with (first | (go_at_call 69; refine (KN.out _ (by (exact eX))).mono ?_; rintro e w1 ⟨rfl, x1⟩) | (go_at_call 70; refine (KC.out _ (by (exact eX))).mono ?_; rintro e w2 ⟨rfl, x2⟩))
    go_ret
    exact ⟨by rw [HR.out]; rfl, by (exact eX)⟩
  · have HR : Hid (r = false) := Lib.hid (by rw [HT.out]; simp [n4, n5])
    have b4 : (k == 4) = false := by simpa using n4
    have b5 : (k == 5) = false := by simpa using n5
    clear n4 n5
    go_enter Tryz.func36, Tryz.ntmps36
    go_wp2_with (first | (go_at_call 69; refine (KN.out _ (by (exact eX))).mono ?_; rintro e w1 ⟨rfl, x1⟩) | (go_at_call 70; refine (KC.out _ (by (exact eX))).mono ?_; rintro e w2 ⟨rfl, x2⟩))
    go_ret
    exact ⟨by rw [HR.out]; rfl, by (exact eX)⟩
set_option maxRecDepth 8000 in
set_option maxHeartbeats 1000000 in
theorem parse_take (pb : Nat) (t : Tk) (l : List Tk) (w : World) (h : Prs w pb (t :: l)) :
    Calls Tryz.prog 37 #[.pointer (some ⟨pb, 0, none⟩)] w fun e w' => e = .returned (.agg #[.int .u8 t.k, .string t.text, .int .i64 t.pos]) ∧ ExtX (· = pb) w w' ∧ (l ≠ [] → Prs w' pb l) := by
  have KN := Lib.hid fun W (x : Ext w W) => parse_now pb t l W (h.ext x)
  obtain ⟨b, o, n, c, i, hB, h1, h2, hi, hf, q0, q1, q2, hP⟩ := h.open_
  have hw1 : IntKind.i64.wrap ((i : Int) + 1) = (i : Int) + 1 := IntWalk.i64_in _ ⟨by omega, by omega⟩
  have HP := Lib.hid hP
  have HB := Lib.hid hB
  have hlt := hB.lt
  clear h hB q0 q1 q2 hf hP
  go_enter Tryz.func37, Tryz.ntmps37
  go_wp2_with fail
  refine (KN.out _ (by (exact eX))).mono ?_
  rintro e w1 ⟨rfl, x1⟩
  have y1 : Ext w w1 := by (exact eX)
  have hB1 := HB.out.ext y1
  have c1 := hB1.cell 1
  have f1 := hB1.frozen 1
  have hl1 := hB1.lt
  simp at c1
  have hZ := (Blk.new w 37 #[.int .u8 0, .string ⟨#[]⟩, .int .i64 0]).ext x1
  have d0 := hZ.cell 0
  have d1 := hZ.cell 1
  have d2 := hZ.cell 2
  simp at d0 d1 d2
  have g0 := hZ.frozen 0
  have g1 := hZ.frozen 1
  have g2 := hZ.frozen 2
  have hlz := hZ.lt
  have hne : pb ≠ w.heap.size := by omega
  have hne' : w.heap.size ≠ pb := by omega
  have hB9 := Lib.hid (((((hB1.set_ 1 (.int .i64 (↑i + 1))).far (p := ⟨w.heap.size, 0, none⟩) hne (.int .u8 t.k)).far (p := ⟨w.heap.size, 1, none⟩) hne (.string t.text)).far (p := ⟨w.heap.size, 2, none⟩) hne (.int .i64 t.pos)).alloc (.cells #[.int .u8 t.k, .string t.text, .int .i64 t.pos] 37))
  have hZ9 := Lib.hid (((((hZ.far (p := ⟨pb, 1, none⟩) hne' (.int .i64 (↑i + 1))).set_ 0 (.int .u8 t.k)).set_ 1 (.string t.text)).set_ 2 (.int .i64 t.pos)).alloc (.cells #[.int .u8 t.k, .string t.text, .int .i64 t.pos] 37))
  have Y1 := Lib.hid y1
  clear hB1 hZ y1
  go_wp2_with fail
  obtain ⟨r0, r1, r2⟩ := tok_cells hZ9.out
  have X9 : ExtX (· = pb) w w1 := ExtX.of Y1.out
  refine bodyPost_ret (v := .agg #[.int .u8 t.k, .string t.text, .int .i64 t.pos]) (by simp [results, Tryz.results37, go_sem, r0, r1, r2]) rfl ⟨rfl, by (exact xX), fun hl => HP.out _ (by (exact xX)) ?_ hl⟩
  exact hB9.out
end Go.Proofs.YtaioeailgknfjaaGreatDoor
namespace Go.Proofs.YtaioeailgknfjaaGreatDoor
open Go Go.RowKit Go.Sort

theorem field_tk0 (k : Int) (s : ByteArray) (p : Int) (w : World) : (Instr.field 37 (.agg #[.int .u8 k, .string s, .int .i64 p]) 0).run Tryz.prog w = .ok (.int .u8 k) w := by kernel_rfl
theorem field_tk1 (k : Int) (s : ByteArray) (p : Int) (w : World) : (Instr.field 37 (.agg #[.int .u8 k, .string s, .int .i64 p]) 1).run Tryz.prog w = .ok (.string s) w := by kernel_rfl
theorem field_tk2 (k : Int) (s : ByteArray) (p : Int) (w : World) : (Instr.field 37 (.agg #[.int .u8 k, .string s, .int .i64 p]) 2).run Tryz.prog w = .ok (.int .i64 p) w := by kernel_rfl
set_option maxRecDepth 8000 in
set_option maxHeartbeats 2000000 in
theorem parse_kind_ok (pb : Nat) (t : Tk) (l : List Tk) (w : World) (h : Prs w pb (t :: l)) :
    Calls Tryz.prog 38 #[.pointer (some ⟨pb, 0, none⟩), .int .u8 t.k] w fun e w' => e = .returned (.agg #[.int .u8 t.k, .string t.text, .int .i64 t.pos]) ∧ ExtX (· = pb) w w' ∧ (l ≠ [] → Prs w' pb l) := by
  have KN := Lib.hid fun W (x : Ext w W) => parse_now pb t l W (h.ext x)
  have KT := Lib.hid fun W (x : Ext w W) => parse_take pb t l W (h.ext x)
  have hlt := h.lt
  clear h
  have F0 := field_tk0
  go_enter Tryz.func38, Tryz.ntmps38
  go_wp2_with fail
  refine (KN.out _ (by (exact eX))).mono ?_
  rintro e w1 ⟨rfl, x1⟩
  have y1 : Ext w w1 := by (exact eX)
  go_wp2_with fail
  refine (KT.out _ (by (exact eX))).mono ?_
  rintro e w2 ⟨rfl, x2, hp⟩
  have HP := Lib.hid hp
  have hZ := ((Blk.new w 37 #[.int .u8 0, .string ⟨#[]⟩, .int .i64 0]).ext x1).extx x2 (by omega)
  have d0 := hZ.cell 0
  have d1 := hZ.cell 1
  have d2 := hZ.cell 2
  simp at d0 d1 d2
  have g0 := hZ.frozen 0
  have g1 := hZ.frozen 1
  have g2 := hZ.frozen 2
  have hlz := hZ.lt
  have hZ9 := Lib.hid (((hZ.set_ 0 (.int .u8 t.k)).set_ 1 (.string t.text)).set_ 2 (.int .i64 t.pos))
  have Y2 := Lib.hid ((ExtX.of y1).trans x2)
  clear hZ y1 x1 x2 hp
  go_wp2_with fail
  obtain ⟨r0, r1, r2⟩ := tok_cells hZ9.out
  have X9 := Y2.out
  refine bodyPost_ret (v := .agg #[.int .u8 t.k, .string t.text, .int .i64 t.pos]) (by simp [results, Tryz.results38, go_sem, r0, r1, r2]) rfl ⟨rfl, by (exact xX), fun hl => ?_⟩
  have := HP.out hl
  (exact prX)
set_option maxRecDepth 8000 in
set_option maxHeartbeats 2000000 in
theorem parse_kind_no (k : Int) (pb : Nat) (t : Tk) (l : List Tk) (w : World) (h : Prs w pb (t :: l)) (hk : t.k ≠ k) :
    Calls Tryz.prog 38 #[.pointer (some ⟨pb, 0, none⟩), .int .u8 k] w fun e w' => e = thrown (t :: l) ∧ Ext w w' := by
  have KN := Lib.hid fun W (x : Ext w W) => parse_now pb t l W (h.ext x)
  have hlt := h.lt
  clear h
  have F0 := field_tk0
  have F2 := field_tk2
  have hb : (t.k != k) = true := by simpa using hk
  clear hk
  go_enter Tryz.func38, Tryz.ntmps38
  go_wp2_with (go_at_call 69; refine (KN.out _ (by (exact eX))).mono ?_; rintro e w1 ⟨rfl, x1⟩)
  exact ⟨rfl, rfl, by (exact eX)⟩
/-- A token as a value, by its text. -/
def IsTk (_ : World) (x : ByteArray) (v : Value) : Prop := ∃ k p, v = .agg #[.int .u8 k, .string x, .int .i64 p]
def IsSt (_ : World) (x : ByteArray) (v : Value) : Prop := v = .string x
theorem Ended.tail_ne {t : Tk} {l : List Tk} (h : Ended (t :: l)) (hk : t.k ≠ 6) : l ≠ [] ∧ Ended l := by
  have := h.tail hk
  refine ⟨?_, this.1⟩
  rintro rfl
  exact this.1
theorem parse_kind (k : Int) (pb : Nat) (l : List Tk) (w : World) (h : Prs w pb l) (he : Ended l) (hk : k ≠ 6) :
    Calls Tryz.prog 38 #[.pointer (some ⟨pb, 0, none⟩), .int .u8 k] w (RetP pb w IsTk (getK k l)) := by
  cases l with
  | nil => cases he
  | cons t l =>
    by_cases ht : t.k = k
    · have e : getK k (t :: l) = .ok (t.text, l) := by simp [getK, ht]
      rw [e]
      subst ht
      refine (parse_kind_ok pb t l w h).mono ?_
      rintro e w' ⟨rfl, hx, hp⟩
      exact ⟨hx, _, rfl, ⟨_, _, rfl⟩, hp (he.tail_ne hk).1⟩
    · have e : getK k (t :: l) = .error (t :: l) := by simp [getK, ht]
      rw [e]
      refine (parse_kind_no k pb t l w h ht).mono ?_
      rintro e w' ⟨rfl, hx⟩
      exact ⟨.of hx, rfl⟩
set_option maxRecDepth 8000 in
set_option maxHeartbeats 2000000 in
theorem parse_name (pb : Nat) (l : List Tk) (w : World) (h : Prs w pb l) (he : Ended l) :
    Calls Tryz.prog 60 #[.pointer (some ⟨pb, 0, none⟩)] w (RetP pb w IsSt (getK 2 l)) := by
  have KK := Lib.hid (parse_kind 2 pb l w h he (by omega))
  have F1 := field_tk1
  cases hg : getK 2 l with
  | error l' =>
    rw [hg] at KK
    clear hg h
    go_enter Tryz.func60, Tryz.ntmps60
    go_wp2_with fail
    refine KK.out.mono ?_
    intro e w1 hh
    obtain ⟨rfl, x1⟩ := hh.error
    exact ⟨rfl, x1, rfl⟩
  | ok p =>
    obtain ⟨x, l'⟩ := p
    rw [hg] at KK
    clear hg h
    go_enter Tryz.func60, Tryz.ntmps60
    go_wp2_with fail
    refine KK.out.mono ?_
    intro e w1 hh
    obtain ⟨v, rfl, ⟨k, q, rfl⟩, hp, x1⟩ := hh.ok
    have HP := Lib.hid hp
    clear hp hh
    go_wp2_with fail
    go_ret
    exact ⟨x1, _, rfl, rfl, HP.out⟩
set_option maxRecDepth 8000 in
set_option maxHeartbeats 2000000 in
theorem parse_exn (pb : Nat) (l : List Tk) (w : World) (h : Prs w pb l) (he : Ended l) :
    Calls Tryz.prog 61 #[.pointer (some ⟨pb, 0, none⟩)] w (RetP pb w IsSt (getK 3 l)) := by
  have KK := Lib.hid (parse_kind 3 pb l w h he (by omega))
  have F1 := field_tk1
  cases hg : getK 3 l with
  | error l' =>
    rw [hg] at KK
    clear hg h
    go_enter Tryz.func61, Tryz.ntmps61
    go_wp2_with fail
    refine KK.out.mono ?_
    intro e w1 hh
    obtain ⟨rfl, x1⟩ := hh.error
    exact ⟨rfl, x1, rfl⟩
  | ok p =>
    obtain ⟨x, l'⟩ := p
    rw [hg] at KK
    clear hg h
    go_enter Tryz.func61, Tryz.ntmps61
    go_wp2_with fail
    refine KK.out.mono ?_
    intro e w1 hh
    obtain ⟨v, rfl, ⟨k, q, rfl⟩, hp, x1⟩ := hh.ok
    have HP := Lib.hid hp
    clear hp hh
    go_wp2_with fail
    go_ret
    exact ⟨x1, _, rfl, rfl, HP.out⟩
/-- One of some words or signs is taken. -/
def getWs (xs : List ByteArray) (l : List Tk) : Res ByteArray := if isT xs l then .ok (textT l, l.tail) else .error l
set_option maxRecDepth 8000 in
set_option maxHeartbeats 2000000 in
theorem parse_word_ok (xs : List ByteArray) (pb : Nat) (t : Tk) (l : List Tk) (w : World) (a : Option Addr) (len cap : Nat) (h1 : len ≤ cap) (h2 : cap ≤ 9223372036854775807) (hr : IsRow w (vstr xs) a len) (h : Prs w pb (t :: l)) (hi : isT xs (t :: l) = true) :
    Calls Tryz.prog 39 #[.pointer (some ⟨pb, 0, none⟩), .slice a len cap] w fun e w' => e = .returned (.agg #[.int .u8 t.k, .string t.text, .int .i64 t.pos]) ∧ ExtX (· = pb) w w' ∧ (l ≠ [] → Prs w' pb l) := by
  have KI := Lib.hid fun W (x : Ext w W) => parse_is xs pb t l W a len cap h1 h2 (hr.ext x) (h.ext x)
  have KT := Lib.hid fun W (x : Ext w W) => parse_take pb t l W (h.ext x)
  rw [hi] at KI
  have hlt := h.lt
  clear h hr hi
  go_enter Tryz.func39, Tryz.ntmps39
  go_wp2_with fail
  refine (KI.out _ (by (exact eX))).mono ?_
  rintro e w1 ⟨rfl, x1⟩
  have y1 : Ext w w1 := by (exact eX)
  go_wp2_with fail
  refine (KT.out _ (by (exact eX))).mono ?_
  rintro e w2 ⟨rfl, x2, hp⟩
  have HP := Lib.hid hp
  have hZ := ((Blk.new w 37 #[.int .u8 0, .string ⟨#[]⟩, .int .i64 0]).ext x1).extx x2 (by omega)
  have d0 := hZ.cell 0
  have d1 := hZ.cell 1
  have d2 := hZ.cell 2
  simp at d0 d1 d2
  have g0 := hZ.frozen 0
  have g1 := hZ.frozen 1
  have g2 := hZ.frozen 2
  have hlz := hZ.lt
  have hZ9 := Lib.hid (((hZ.set_ 0 (.int .u8 t.k)).set_ 1 (.string t.text)).set_ 2 (.int .i64 t.pos))
  have Y2 := Lib.hid ((ExtX.of y1).trans x2)
  clear hZ y1 x1 x2 hp
  go_wp2_with fail
  obtain ⟨r0, r1, r2⟩ := tok_cells hZ9.out
  have X9 := Y2.out
  refine bodyPost_ret (v := .agg #[.int .u8 t.k, .string t.text, .int .i64 t.pos]) (by simp [results, Tryz.results39, go_sem, r0, r1, r2]) rfl ⟨rfl, by (exact xX), fun hl => ?_⟩
  have := HP.out hl
  (exact prX)
set_option maxRecDepth 8000 in
set_option maxHeartbeats 2000000 in
theorem parse_word_no (xs : List ByteArray) (pb : Nat) (t : Tk) (l : List Tk) (w : World) (a : Option Addr) (len cap : Nat) (h1 : len ≤ cap) (h2 : cap ≤ 9223372036854775807) (hr : IsRow w (vstr xs) a len) (h : Prs w pb (t :: l)) (hi : isT xs (t :: l) = false) :
    Calls Tryz.prog 39 #[.pointer (some ⟨pb, 0, none⟩), .slice a len cap] w fun e w' => e = thrown (t :: l) ∧ Ext w w' := by
  have KI := Lib.hid fun W (x : Ext w W) => parse_is xs pb t l W a len cap h1 h2 (hr.ext x) (h.ext x)
  have KN := Lib.hid fun W (x : Ext w W) => parse_now pb t l W (h.ext x)
  rw [hi] at KI
  have hlt := h.lt
  have F2 := field_tk2
  clear h hr hi
  go_enter Tryz.func39, Tryz.ntmps39
  go_wp2_with (first | (go_at_call 36; refine (KI.out _ (by (exact eX))).mono ?_; rintro e w1 ⟨rfl, x1⟩) | (go_at_call 69; refine (KN.out _ (by (exact eX))).mono ?_; rintro e w2 ⟨rfl, x2⟩))
  exact ⟨rfl, rfl, by (exact eX)⟩
theorem parse_word (xs : List ByteArray) (pb : Nat) (l : List Tk) (w : World) (a : Option Addr) (len cap : Nat) (h1 : len ≤ cap) (h2 : cap ≤ 9223372036854775807) (hr : IsRow w (vstr xs) a len) (h : Prs w pb l) (he : Ended l) :
    Calls Tryz.prog 39 #[.pointer (some ⟨pb, 0, none⟩), .slice a len cap] w (RetP pb w IsTk (getWs xs l)) := by
  cases l with
  | nil => cases he
  | cons t l =>
    cases hi : isT xs (t :: l) with
    | true =>
      have e : getWs xs (t :: l) = .ok (t.text, l) := by simp [getWs, hi, textT]
      rw [e]
      refine (parse_word_ok xs pb t l w a len cap h1 h2 hr h hi).mono ?_
      rintro e w' ⟨rfl, hx, hp⟩
      exact ⟨hx, _, rfl, ⟨_, _, rfl⟩, hp (he.tail_ne (isT_kind hi)).1⟩
    | false =>
      have e : getWs xs (t :: l) = .error (t :: l) := by simp [getWs, hi]
      rw [e]
      refine (parse_word_no xs pb t l w a len cap h1 h2 hr h hi).mono ?_
      rintro e w' ⟨rfl, hx⟩
      exact ⟨.of hx, rfl⟩
end Go.Proofs.YtaioeailgknfjaaGreatDoor

/- Terms that are laid anew, one by one: the memory. No program in sight. -/
namespace Go.Proofs.YtaioeailgknfjaaGreatDoor
open Go Go.RowKit Go.Sort

/-- Terms' cells, one behind the other; their kids in memory, in none of the blocks A. -/
def FlatA (A : Nat → Prop) (w : World) : List Tm → List Value → Prop
  | [], xs => xs = []
  | t :: l, xs => ∃ a len cap rest, xs = (tcells t.head a len cap).toList ++ rest ∧ t.head.Fits ∧ len ≤ cap ∧ cap ≤ maxLen ∧ IsTmsA A w t.kids a len ∧ FlatA A w l rest
theorem FlatA.append {A : Nat → Prop} {w : World} {l l' : List Tm} {xs ys : List Value} (h : FlatA A w l xs) (h' : FlatA A w l' ys) : FlatA A w (l ++ l') (xs ++ ys) := by
  induction l generalizing xs with
  | nil => simp only [FlatA] at h; subst h; simpa using h'
  | cons t l ih =>
    simp only [FlatA, List.cons_append] at h ⊢
    obtain ⟨a, len, cap, rest, rfl, hf, h1, h2, hk, hr⟩ := h
    exact ⟨a, len, cap, rest ++ ys, by simp, hf, h1, h2, hk, ih hr⟩
theorem FlatA.move {A A' : Nat → Prop} {w w' : World} (hA : ∀ b, b < w.heap.size → A' b → A b) (hc : ∀ p v, ¬ A p.block → w.cell? p = some v → w'.cell? p = some v) {l : List Tm} {xs : List Value} (h : FlatA A w l xs) : FlatA A' w' l xs := by
  induction l generalizing xs with
  | nil => simpa only [FlatA] using h
  | cons t l ih =>
    simp only [FlatA] at h ⊢
    obtain ⟨a, len, cap, rest, rfl, hf, h1, h2, hk, hr⟩ := h
    exact ⟨a, len, cap, rest, rfl, hf, h1, h2, hk.move hA hc, ih hr⟩
/-- Such cells in memory are a row of terms. -/
theorem FlatA.tms {A A' : Nat → Prop} {w : World} {l : List Tm} {xs : List Value} (h : FlatA A w l xs) (hA : ∀ b, A' b → A b) (b o : Nat) (hb : ¬ A' b) (hc : ∀ (j : Nat) u, xs[j]? = some u → w.cell? ⟨b, o + j, none⟩ = some u) : IsTmsA A' w l (some ⟨b, o, none⟩) l.length := by
  induction l generalizing xs o with
  | nil => exact IsTmsA.nil _
  | cons t l ih =>
    simp only [FlatA] at h
    obtain ⟨a, len, cap, rest, rfl, hf, h1, h2, hk, hr⟩ := h
    obtain ⟨x, k⟩ := t
    have hrest := ih hr (o + 8) fun j u hu => by
      have := hc (8 + j) u (by
        rw [List.getElem?_append_right (by simp [tcells])]
        simpa [tcells] using hu)
      rw [show o + 8 + j = o + (8 + j) from by omega]
      exact this
    unfold IsTmsA
    refine ⟨by simp, b, o, rfl, hb, ?_, by simpa using hrest⟩
    simp only [TmAt]
    exact ⟨⟨hc 0 _ rfl, hc 1 _ rfl, hc 2 _ rfl, hc 3 _ rfl, hc 4 _ rfl, hc 5 _ rfl, hc 6 _ rfl⟩, hf, a, len, cap, hc 7 _ rfl, h1, h2, hk.off fun b _ h => hA b h⟩
theorem FlatA.length {A : Nat → Prop} {w : World} {l : List Tm} {xs : List Value} (h : FlatA A w l xs) : xs.length = l.length * 8 := by
  induction l generalizing xs with
  | nil => simp only [FlatA] at h; subst h; rfl
  | cons t l ih =>
    simp only [FlatA] at h
    obtain ⟨a, len, cap, rest, rfl, hf, h1, h2, hk, hr⟩ := h
    rw [List.length_append, ih hr]
    simp [tcells]
    omega

end Go.Proofs.YtaioeailgknfjaaGreatDoor

/- The walks of package parse: node, op, prefix, begins. The walk of parse.op. -/
namespace Go.Proofs.YtaioeailgknfjaaGreatDoor
open Go Go.RowKit Go.Sort

theorem ExtX.mono {A A' : Nat → Prop} {w w' : World} (h : ExtX A w w') (hA : ∀ b, A b → A' b) : ExtX A' w w' := ⟨h.os, h.tape, h.output, h.size, fun k hk ha => h.block k hk fun g => ha (hA k g)⟩
theorem IsTmsA.extx {A X : Nat → Prop} {w w' : World} (hx : ExtX X w w') (hA : ∀ b, X b → A b) {l : List Tm} {a : Option Addr} {len : Nat} (h : IsTmsA A w l a len) : IsTmsA A w' l a len :=
  h.move (fun _ _ h => h) fun _ _ hq hv => hx.cell (fun g => hq (hA _ g)) hv
theorem blk_top {w w1 : World} {cs : Array Value} {T : TypeId} (x : Ext (w.alloc (.cells cs T)) w1) : Blk w1 w.heap.size T cs := (Blk.new w T cs).ext x
theorem blk_under {w w1 : World} {cs : Array Value} {T : TypeId} {o : Obj} (x : Ext ((w.alloc (.cells cs T)).alloc o) w1) : Blk w1 w.heap.size T cs := ((Blk.new w T cs).alloc o).ext x
theorem blk_under2 {w w1 : World} {cs : Array Value} {T : TypeId} {o o2 : Obj} (x : Ext (((w.alloc (.cells cs T)).alloc o).alloc o2) w1) : Blk w1 w.heap.size T cs := (((Blk.new w T cs).alloc o).alloc o2).ext x
/-- All of a term's cells. -/
theorem Blk.eight {w : World} {g : Nat} {t : TypeId} {c0 c1 c2 c3 c4 c5 c6 c7 : Value} (h : Blk w g t #[c0, c1, c2, c3, c4, c5, c6, c7]) :
    w.cell? ⟨g, 0, none⟩ = some c0 ∧ w.cell? ⟨g, 1, none⟩ = some c1 ∧ w.cell? ⟨g, 2, none⟩ = some c2 ∧ w.cell? ⟨g, 3, none⟩ = some c3 ∧ w.cell? ⟨g, 4, none⟩ = some c4 ∧ w.cell? ⟨g, 5, none⟩ = some c5 ∧ w.cell? ⟨g, 6, none⟩ = some c6 ∧ w.cell? ⟨g, 7, none⟩ = some c7 :=
  ⟨h.cell 0, h.cell 1, h.cell 2, h.cell 3, h.cell 4, h.cell 5, h.cell 6, h.cell 7⟩
theorem Blk.frozen8 {w : World} {g : Nat} {t : TypeId} {cs : Array Value} (h : Blk w g t cs) :
    w.frozen? ⟨g, 0, none⟩ = false ∧ w.frozen? ⟨g, 1, none⟩ = false ∧ w.frozen? ⟨g, 2, none⟩ = false ∧ w.frozen? ⟨g, 3, none⟩ = false ∧ w.frozen? ⟨g, 4, none⟩ = false ∧ w.frozen? ⟨g, 5, none⟩ = false ∧ w.frozen? ⟨g, 6, none⟩ = false ∧ w.frozen? ⟨g, 7, none⟩ = false :=
  ⟨h.frozen 0, h.frozen 1, h.frozen 2, h.frozen 3, h.frozen 4, h.frozen 5, h.frozen 6, h.frozen 7⟩
/-- A term's cells, all laid anew. -/
theorem Blk.lay8 {w : World} {g : Nat} {t : TypeId} {c0 c1 c2 c3 c4 c5 c6 c7 u0 u1 u2 u3 u4 u5 u6 u7 : Value} (h : Blk w g t #[c0, c1, c2, c3, c4, c5, c6, c7]) :
    Blk ((((((((w.setCell ⟨g, 0, none⟩ u0).setCell ⟨g, 1, none⟩ u1).setCell ⟨g, 2, none⟩ u2).setCell ⟨g, 3, none⟩ u3).setCell ⟨g, 4, none⟩ u4).setCell ⟨g, 5, none⟩ u5).setCell ⟨g, 6, none⟩ u6).setCell ⟨g, 7, none⟩ u7) g t #[u0, u1, u2, u3, u4, u5, u6, u7] := by
  have H := (((((((h.set_ 0 u0).set_ 1 u1).set_ 2 u2).set_ 3 u3).set_ 4 u4).set_ 5 u5).set_ 6 u6).set_ 7 u7
  have e : ((((((((#[c0, c1, c2, c3, c4, c5, c6, c7] : Array Value).setIfInBounds 0 u0).setIfInBounds 1 u1).setIfInBounds 2 u2).setIfInBounds 3 u3).setIfInBounds 4 u4).setIfInBounds 5 u5).setIfInBounds 6 u6).setIfInBounds 7 u7 = #[u0, u1, u2, u3, u4, u5, u6, u7] := by simp
  rw [e] at H
  exact H
theorem Blk.far8 {w : World} {b g : Nat} {t : TypeId} {cs : Array Value} {u0 u1 u2 u3 u4 u5 u6 u7 : Value} (h : Blk w b t cs) (hne : b ≠ g) :
    Blk ((((((((w.setCell ⟨g, 0, none⟩ u0).setCell ⟨g, 1, none⟩ u1).setCell ⟨g, 2, none⟩ u2).setCell ⟨g, 3, none⟩ u3).setCell ⟨g, 4, none⟩ u4).setCell ⟨g, 5, none⟩ u5).setCell ⟨g, 6, none⟩ u6).setCell ⟨g, 7, none⟩ u7) b t cs :=
  (((((((h.far (p := ⟨g, 0, none⟩) hne u0).far (p := ⟨g, 1, none⟩) hne u1).far (p := ⟨g, 2, none⟩) hne u2).far (p := ⟨g, 3, none⟩) hne u3).far (p := ⟨g, 4, none⟩) hne u4).far (p := ⟨g, 5, none⟩) hne u5).far (p := ⟨g, 6, none⟩) hne u6).far (p := ⟨g, 7, none⟩) hne u7
theorem Ext.set8 {a w : World} {g : Nat} {u0 u1 u2 u3 u4 u5 u6 u7 : Value} (h : Ext a w) (hg : a.heap.size ≤ g) :
    Ext a ((((((((w.setCell ⟨g, 0, none⟩ u0).setCell ⟨g, 1, none⟩ u1).setCell ⟨g, 2, none⟩ u2).setCell ⟨g, 3, none⟩ u3).setCell ⟨g, 4, none⟩ u4).setCell ⟨g, 5, none⟩ u5).setCell ⟨g, 6, none⟩ u6).setCell ⟨g, 7, none⟩ u7) :=
  (((((((h.setCell (p := ⟨g, 0, none⟩) hg u0).setCell (p := ⟨g, 1, none⟩) hg u1).setCell (p := ⟨g, 2, none⟩) hg u2).setCell (p := ⟨g, 3, none⟩) hg u3).setCell (p := ⟨g, 4, none⟩) hg u4).setCell (p := ⟨g, 5, none⟩) hg u5).setCell (p := ⟨g, 6, none⟩) hg u6).setCell (p := ⟨g, 7, none⟩) hg u7
theorem ExtX.set8 {A : Nat → Prop} {a w : World} {g : Nat} {u0 u1 u2 u3 u4 u5 u6 u7 : Value} (h : ExtX A a w) (hg : A g ∨ a.heap.size ≤ g) :
    ExtX A a ((((((((w.setCell ⟨g, 0, none⟩ u0).setCell ⟨g, 1, none⟩ u1).setCell ⟨g, 2, none⟩ u2).setCell ⟨g, 3, none⟩ u3).setCell ⟨g, 4, none⟩ u4).setCell ⟨g, 5, none⟩ u5).setCell ⟨g, 6, none⟩ u6).setCell ⟨g, 7, none⟩ u7) :=
  (((((((h.setCell (p := ⟨g, 0, none⟩) hg u0).setCell (p := ⟨g, 1, none⟩) hg u1).setCell (p := ⟨g, 2, none⟩) hg u2).setCell (p := ⟨g, 3, none⟩) hg u3).setCell (p := ⟨g, 4, none⟩) hg u4).setCell (p := ⟨g, 5, none⟩) hg u5).setCell (p := ⟨g, 6, none⟩) hg u6).setCell (p := ⟨g, 7, none⟩) hg u7
theorem Prs.set8 {w : World} {pb : Nat} {l : List Tk} {g : Nat} {u0 u1 u2 u3 u4 u5 u6 u7 : Value} (h : Prs w pb l) (hg : pb < g) :
    Prs ((((((((w.setCell ⟨g, 0, none⟩ u0).setCell ⟨g, 1, none⟩ u1).setCell ⟨g, 2, none⟩ u2).setCell ⟨g, 3, none⟩ u3).setCell ⟨g, 4, none⟩ u4).setCell ⟨g, 5, none⟩ u5).setCell ⟨g, 6, none⟩ u6).setCell ⟨g, 7, none⟩ u7) pb l :=
  (((((((h.far (p := ⟨g, 0, none⟩) hg u0).far (p := ⟨g, 1, none⟩) hg u1).far (p := ⟨g, 2, none⟩) hg u2).far (p := ⟨g, 3, none⟩) hg u3).far (p := ⟨g, 4, none⟩) hg u4).far (p := ⟨g, 5, none⟩) hg u5).far (p := ⟨g, 6, none⟩) hg u6).far (p := ⟨g, 7, none⟩) hg u7
theorem IsTmsA.set8 {A : Nat → Prop} {w : World} {g : Nat} {u0 u1 u2 u3 u4 u5 u6 u7 : Value} {l : List Tm} {a : Option Addr} {len : Nat} (h : IsTmsA A w l a len) (hg : A g) :
    IsTmsA A ((((((((w.setCell ⟨g, 0, none⟩ u0).setCell ⟨g, 1, none⟩ u1).setCell ⟨g, 2, none⟩ u2).setCell ⟨g, 3, none⟩ u3).setCell ⟨g, 4, none⟩ u4).setCell ⟨g, 5, none⟩ u5).setCell ⟨g, 6, none⟩ u6).setCell ⟨g, 7, none⟩ u7) l a len :=
  (((((((h.setCell (p := ⟨g, 0, none⟩) hg u0).setCell (p := ⟨g, 1, none⟩) hg u1).setCell (p := ⟨g, 2, none⟩) hg u2).setCell (p := ⟨g, 3, none⟩) hg u3).setCell (p := ⟨g, 4, none⟩) hg u4).setCell (p := ⟨g, 5, none⟩) hg u5).setCell (p := ⟨g, 6, none⟩) hg u6).setCell (p := ⟨g, 7, none⟩) hg u7
/-- A result that lies in a block of the call's own. -/
theorem ret8 {P : Program} {fn : Func} {R : Ending → World → Prop} {a : Act} {w : World} {g : Nat} {t : TypeId} {c0 c1 c2 c3 c4 c5 c6 c7 : Value} (h : Blk w g t #[c0, c1, c2, c3, c4, c5, c6, c7])
    (hr : w.cell? ⟨g, 0, none⟩ = some c0 ∧ w.cell? ⟨g, 1, none⟩ = some c1 ∧ w.cell? ⟨g, 2, none⟩ = some c2 ∧ w.cell? ⟨g, 3, none⟩ = some c3 ∧ w.cell? ⟨g, 4, none⟩ = some c4 ∧ w.cell? ⟨g, 5, none⟩ = some c5 ∧ w.cell? ⟨g, 6, none⟩ = some c6 ∧ w.cell? ⟨g, 7, none⟩ = some c7 → (results fn a.tmps).run P w = .ok (.agg #[c0, c1, c2, c3, c4, c5, c6, c7]) w)
    (hd : a.defers = []) (hR : R (.returned (.agg #[c0, c1, c2, c3, c4, c5, c6, c7])) w) : bodyPost P fn R .ret a w := ⟨hd, _, hr h.eight, hR⟩
def zeroT : Array Value := #[.int .u8 0, .int .u8 0, .int .i64 0, .int .i64 0, .string ⟨#[]⟩, .string ⟨#[]⟩, .string ⟨#[]⟩, .slice none 0 0]
set_option maxRecDepth 8000 in
set_option maxHeartbeats 1000000 in
theorem parse_node (k pos : Int) (a : Option Addr) (len cap : Nat) (w : World) :
    Calls Tryz.prog 58 #[.int .u8 k, .int .i64 pos, .slice a len cap] w fun e w' => e = .returned (.agg #[.int .u8 k, .int .u8 0, .int .i64 pos, .int .i64 0, .string ByteArray.empty, .string ByteArray.empty, .string ByteArray.empty, .slice a len cap]) ∧ Ext w w' := by
  go_enter Tryz.func58, Tryz.ntmps58
  go_wp2_with fail
  exact bodyPost_ret (v := .agg #[.int .u8 k, .int .u8 0, .int .i64 pos, .int .i64 0, .string ByteArray.empty, .string ByteArray.empty, .string ByteArray.empty, .slice a len cap]) (by simp [results, Tryz.results58, go_sem]; try rfl) rfl ⟨rfl, by (exact eX)⟩
theorem toList_beq (x y : ByteArray) : (x.toList == y.toList) = decide (x = y) := by
  rw [Bool.eq_iff_iff, decide_eq_true_iff, beq_iff_eq]
  constructor
  · intro h
    rw [ByteArray.toList_eq, ByteArray.toList_eq] at h
    cases x; cases y
    simp at h
    simp [h]
  · rintro rfl; rfl
theorem row_keep {A : Nat → Prop} {w w' : World} (hx : ExtX A w w') {l : List Value} {a : Option Addr} {len : Nat} (hA : ∀ p, a = some p → ¬ A p.block) (h : IsRow w l a len) : IsRow w' l a len :=
  ⟨h.1, fun i v hi => by
    obtain ⟨b, o, e, q⟩ := h.2 i v hi
    exact ⟨b, o, e, hx.cell (show ¬ A b from hA _ e) q⟩⟩
/-- A prefix' kind, as the program finds it. -/
def preP (x : ByteArray) : Int := if x = s_bang then 7 else if x = w_ref then 6 else if x = w_fst then 4 else 5
theorem preP_K {x : ByteArray} (h : inB [s_bang, w_ref, w_fst, w_snd] x = true) : preP x = preK x := by
  rw [inB_iff] at h
  simp only [List.mem_cons, List.not_mem_nil, or_false] at h
  rcases h with rfl | rfl | rfl | rfl <;> decide +kernel
set_option maxHeartbeats 1000000 in
theorem parse_prefix (x : ByteArray) (w : World) : Calls Tryz.prog 150 #[.string x] w fun e w' => e = .returned (.int .u8 (preP x)) ∧ w = w' := by
  have HP : Hid (preP x = if x = s_bang then 7 else if x = w_ref then 6 else if x = w_fst then 4 else 5) := Lib.hid rfl
  have e1 : (x.toList == ([33] : List UInt8)) = decide (x = s_bang) := by rw [← toList_beq, show s_bang.toList = [33] from by rw [ByteArray.toList_eq]; rfl]
  have e2 : (x.toList == ([114, 101, 102] : List UInt8)) = decide (x = w_ref) := by rw [← toList_beq, show w_ref.toList = [114, 101, 102] from by rw [ByteArray.toList_eq]; rfl]
  have e3 : (x.toList == ([102, 115, 116] : List UInt8)) = decide (x = w_fst) := by rw [← toList_beq, show w_fst.toList = [102, 115, 116] from by rw [ByteArray.toList_eq]; rfl]
  have HB : Hid (preP x = if decide (x = s_bang) = true then 7 else if decide (x = w_ref) = true then 6 else if decide (x = w_fst) = true then 4 else 5) := Lib.hid (by simp only [decide_eq_true_eq]; exact HP.out)
  clear HP
  generalize preP x = r at *
  generalize decide (x = s_bang) = b1 at *
  generalize decide (x = w_ref) = b2 at *
  generalize decide (x = w_fst) = b3 at *
  cases b1 <;> cases b2 <;> cases b3
  all_goals
    go_enter Tryz.func150, Tryz.ntmps150
    go_wp2_with fail
    go_ret
    exact ⟨by rw [HB.out]; rfl, rfl⟩
set_option maxRecDepth 8000 in
set_option maxHeartbeats 1000000 in
theorem parse_begins (pb : Nat) (t : Tk) (l : List Tk) (w : World) (h : Prs w pb (t :: l)) :
    Calls Tryz.prog 140 #[.pointer (some ⟨pb, 0, none⟩)] w fun e w' => e = .returned (.bool (beginsT (t :: l))) ∧ Ext w w' := by
  have KN := Lib.hid fun W (x : Ext w W) => parse_now pb t l W (h.ext x)
  have KI := Lib.hid fun W (x : Ext w W) => parse_is [s_bang, w_ref, w_fst, w_snd, w_raise, s_open] pb t l (W.alloc (.cells #[.string ⟨#[33]⟩, .string ⟨#[114, 101, 102]⟩, .string ⟨#[102, 115, 116]⟩, .string ⟨#[115, 110, 100]⟩, .string ⟨#[114, 97, 105, 115, 101]⟩, .string ⟨#[40]⟩] 9)) (some ⟨W.heap.size, 0, none⟩) 6 6 (Nat.le_refl _) (by omega) (IsRow.new W 9 (vstr [s_bang, w_ref, w_fst, w_snd, w_raise, s_open])) (h.ext (x.alloc _))
  have HT : Hid (beginsT (t :: l) = (t.k == 1 || (t.k == 2 || isT [s_bang, w_ref, w_fst, w_snd, w_raise, s_open] (t :: l)))) := Lib.hid rfl
  have F0 := field_tk0
  clear h
  have hc : t.k = 1 ∨ t.k = 2 ∨ (t.k ≠ 1 ∧ t.k ≠ 2) := by omega
  generalize beginsT (t :: l) = r at *
  generalize isT [s_bang, w_ref, w_fst, w_snd, w_raise, s_open] (t :: l) = c at *
  obtain ⟨k, s, p⟩ := t
  simp only at *
  rcases hc with rfl | rfl | ⟨n4, n5⟩
  · have HR : Hid (r = true) := Lib.hid (by rw [HT.out]; simp)
    go_enter Tryz.func140, Tryz.ntmps140
    go_wp2_with (first | (go_at_call 69; refine (KN.out _ (by (exact eX))).mono ?_; rintro e w1 ⟨rfl, x1⟩) | (go_at_call 36; refine (KI.out _ (by (exact eX))).mono ?_; rintro e w2 ⟨rfl, x2⟩))
    go_ret
    exact ⟨by rw [HR.out]; rfl, by (exact eX)⟩
  · have HR : Hid (r = true) := Lib.hid (by rw [HT.out]; simp)
    go_enter Tryz.func140, Tryz.ntmps140
    go_wp2_with (first | (go_at_call 69; refine (KN.out _ (by (exact eX))).mono ?_; rintro e w1 ⟨rfl, x1⟩) | (go_at_call 36; refine (KI.out _ (by (exact eX))).mono ?_; rintro e w2 ⟨rfl, x2⟩))
    go_ret
    exact ⟨by rw [HR.out]; rfl, by (exact eX)⟩
  · have b4 : (k == 1) = false := by simpa using n4
    have b5 : (k == 2) = false := by simpa using n5
    have HR : Hid (r = c) := Lib.hid (by rw [HT.out, b4, b5]; rfl)
    clear n4 n5
    go_enter Tryz.func140, Tryz.ntmps140
    go_wp2_with (first | (go_at_call 69; refine (KN.out _ (by (exact eX))).mono ?_; rintro e w1 ⟨rfl, x1⟩) | (go_at_call 36; refine (KI.out _ (by (exact eX))).mono ?_; rintro e w2 ⟨rfl, x2⟩))
    go_ret
    exact ⟨by rw [HR.out]; rfl, by (exact eX)⟩
/-- Two terms in a new row: each in its place. -/
theorem pair_row {A : Nat → Prop} {w w' : World} {ha hb : Hd} {la lb : List Tm} {aa ab : Option Addr} {na nb ca cb g : Nat} (hx : Ext w w') (h1 : na ≤ ca) (h2 : ca ≤ 9223372036854775807) (h3 : nb ≤ cb) (h4 : cb ≤ 9223372036854775807)
    (fa : ha.Fits) (fb : hb.Fits) (ia : IsTmsA A w la aa na) (ib : IsTmsA A w lb ab nb) (hg : ¬ A g) (hB : Blk w' g 28 #[.int .u8 ha.k, .int .u8 ha.op, .int .i64 ha.pos, .int .i64 ha.n, .string ha.name, .string ha.arg, .string ha.exn, .slice aa na ca, .int .u8 hb.k, .int .u8 hb.op, .int .i64 hb.pos, .int .i64 hb.n, .string hb.name, .string hb.arg, .string hb.exn, .slice ab nb cb]) :
    IsTmsA A w' [.mk ha la, .mk hb lb] (some ⟨g, 0, none⟩) 2 := by
  refine IsTmsA.of_places [.mk ha la, .mk hb lb] g 0 hg fun i t hi => ?_
  match i, hi with
  | 0, hi =>
    simp at hi
    subst hi
    simp only [TmAt]
    exact ⟨⟨hB.cell 0, hB.cell 1, hB.cell 2, hB.cell 3, hB.cell 4, hB.cell 5, hB.cell 6⟩, fa, aa, na, ca, hB.cell 7, h1, h2, ia.ext hx⟩
  | 1, hi =>
    simp at hi
    subst hi
    simp only [TmAt]
    exact ⟨⟨hB.cell 8, hB.cell 9, hB.cell 10, hB.cell 11, hB.cell 12, hB.cell 13, hB.cell 14⟩, fb, ab, nb, cb, hB.cell 15, h3, h4, ib.ext hx⟩
/-- One term in a new row. -/
theorem one_row {A : Nat → Prop} {w w' : World} {ha : Hd} {la : List Tm} {aa : Option Addr} {na ca g : Nat} (hx : Ext w w') (h1 : na ≤ ca) (h2 : ca ≤ 9223372036854775807)
    (fa : ha.Fits) (ia : IsTmsA A w la aa na) (hg : ¬ A g) (hB : Blk w' g 28 #[.int .u8 ha.k, .int .u8 ha.op, .int .i64 ha.pos, .int .i64 ha.n, .string ha.name, .string ha.arg, .string ha.exn, .slice aa na ca]) :
    IsTmsA A w' [.mk ha la] (some ⟨g, 0, none⟩) 1 := by
  refine IsTmsA.of_places [.mk ha la] g 0 hg fun i t hi => ?_
  match i, hi with
  | 0, hi =>
    simp at hi
    subst hi
    simp only [TmAt]
    exact ⟨⟨hB.cell 0, hB.cell 1, hB.cell 2, hB.cell 3, hB.cell 4, hB.cell 5, hB.cell 6⟩, fa, aa, na, ca, hB.cell 7, h1, h2, ia.ext hx⟩
end Go.Proofs.YtaioeailgknfjaaGreatDoor
namespace Go.Proofs.YtaioeailgknfjaaGreatDoor
open Go Go.RowKit Go.Sort

theorem row_new1 (w : World) (o : Obj) (t : TypeId) (l : List Value) : IsRow ((w.alloc o).alloc (.cells l.toArray t)) l (some ⟨w.heap.size + 1, 0, none⟩) l.length := by
  have := IsRow.new (w.alloc o) t l
  rw [World.size_alloc] at this
  exact this
theorem u8_in (n : Int) (h0 : 0 ≤ n) (h1 : n ≤ 255) : IntKind.u8.wrap n = n := IntWalk.u8_in _ ⟨h0, h1⟩
set_option maxRecDepth 8000 in
set_option maxHeartbeats 4000000 in
theorem parse_op (A : Nat → Prop) (x : ByteArray) (j : Nat) (hj : j ≤ 4) (hx : fidx (fun y : ByteArray => x.toList == y.toList) [s_plus, s_minus, s_star, s_less, s_eq] = (j : Int)) (ha hb : Hd) (la lb : List Tm) (aa ab : Option Addr) (na nb ca cb : Nat) (w : World)
    (h1 : na ≤ ca) (h2 : ca ≤ 9223372036854775807) (h3 : nb ≤ cb) (h4 : cb ≤ 9223372036854775807) (fa : ha.Fits) (fb : hb.Fits) (ia : IsTmsA A w la aa na) (ib : IsTmsA A w lb ab nb) (hb0 : ∀ b, A b → b < w.heap.size) :
    Calls Tryz.prog 118 #[.string x, .agg #[.int .u8 ha.k, .int .u8 ha.op, .int .i64 ha.pos, .int .i64 ha.n, .string ha.name, .string ha.arg, .string ha.exn, .slice aa na ca], .agg #[.int .u8 hb.k, .int .u8 hb.op, .int .i64 hb.pos, .int .i64 hb.n, .string hb.name, .string hb.arg, .string hb.exn, .slice ab nb cb]] w fun e w' =>
      ∃ g, e = .returned (.agg #[.int .u8 9, .int .u8 ((j : Int) + 1), .int .i64 ha.pos, .int .i64 0, .string ByteArray.empty, .string ByteArray.empty, .string ByteArray.empty, .slice (some ⟨g, 0, none⟩) 2 2]) ∧ IsTmsA A w' [.mk ha la, .mk hb lb] (some ⟨g, 0, none⟩) 2 ∧ Ext w w' := by
  have KI := Lib.hid fun (W : World) (o : Obj) => strs_index x [s_plus, s_minus, s_star, s_less, s_eq] ((W.alloc o).alloc (.cells #[.string ⟨#[43]⟩, .string ⟨#[45]⟩, .string ⟨#[42]⟩, .string ⟨#[60]⟩, .string ⟨#[61]⟩] 9)) (some ⟨W.heap.size + 1, 0, none⟩) 5 5 (Nat.le_refl _) (by omega) (row_new1 W o 9 (vstr [s_plus, s_minus, s_star, s_less, s_eq]))
  rw [hx] at KI
  have HR := Lib.hid fun (w' : World) (g : Nat) (hx : Ext w w') (hg : ¬ A g) (hB : Blk w' g 28 _) => pair_row (A := A) (g := g) hx h1 h2 h3 h4 fa fb ia ib hg hB
  have hw0 : IntKind.u8.wrap (j : Int) = j := u8_in _ (by omega) (by omega)
  have hw1 : IntKind.u8.wrap ((j : Int) + 1) = (j : Int) + 1 := u8_in _ (by omega) (by omega)
  have HA := Lib.hid hb0
  clear ia ib fa fb hx hb0
  go_enter Tryz.func118, Tryz.ntmps118
  go_wp2_with fail
  refine (parse_node _ _ _ _ _ _).mono ?_
  rintro e w1 ⟨rfl, x1⟩
  have hG := blk_top x1
  have hZ := blk_under x1
  simp only [World.size_alloc] at hG hZ
  have y1 : Ext w w1 := by (exact eX)
  have hlz := hZ.lt
  have hlg := hG.lt
  have HG := Lib.hid hG
  have HZ := Lib.hid hZ
  have Y1 := Lib.hid y1
  clear hG hZ y1 x1
  go_wp2_with fail
  trace "1"
  refine (KI.out _ _).mono ?_
  trace "2"
  rintro e w2 ⟨rfl, x2⟩
  have hT := blk_under x2
  have hZ := HZ.out.ext ((Ext.refl w1 |>.alloc _ |>.alloc _).trans x2)
  obtain ⟨c0, c1, c2, c3, c4, c5, c6, c7⟩ := hT.eight
  obtain ⟨f0, f1, f2, f3, f4, f5, f6, f7⟩ := hT.frozen8
  obtain ⟨z0, z1, z2, z3, z4, z5, z6, z7⟩ := hZ.eight
  obtain ⟨g0, g1, g2, g3, g4, g5, g6, g7⟩ := hZ.frozen8
  have hlt := hT.lt
  have hlz2 := hZ.lt
  have Y2 := Lib.hid (Y1.out.trans ((Ext.refl w1 |>.alloc _ |>.alloc _).trans x2))
  have HZ2 := Lib.hid hZ
  have HG2 := Lib.hid (HG.out.ext ((Ext.refl w1 |>.alloc _ |>.alloc _).trans x2))
  have hne : w1.heap.size ≠ w.heap.size + 1 + 1 := by omega
  have hne' : w.heap.size + 1 + 1 ≠ w1.heap.size := by omega
  clear hT hZ x2
  go_wp2_with fail
  have hF := hne'
  have HZ9 := (HZ2.out.far (p := ⟨w1.heap.size, 1, none⟩) hF (.int .u8 ((j : Int) + 1))).lay8 (u0 := .int .u8 9) (u1 := .int .u8 ((j : Int) + 1)) (u2 := .int .i64 ha.pos) (u3 := .int .i64 0) (u4 := .string ByteArray.empty) (u5 := .string ByteArray.empty) (u6 := .string ByteArray.empty) (u7 := .slice (some ⟨w.heap.size + 1 + 1 + 1, 0, none⟩) 2 2)
  have Y9 := ((Y2.out.setCell (p := ⟨w1.heap.size, 1, none⟩) (by show w.heap.size ≤ w1.heap.size; omega) (.int .u8 ((j : Int) + 1))).set8 (g := w.heap.size + 1 + 1) (u0 := .int .u8 9) (u1 := .int .u8 ((j : Int) + 1)) (u2 := .int .i64 ha.pos) (u3 := .int .i64 0) (u4 := .string ByteArray.empty) (u5 := .string ByteArray.empty) (u6 := .string ByteArray.empty) (u7 := .slice (some ⟨w.heap.size + 1 + 1 + 1, 0, none⟩) 2 2) (by omega))
  have HG9 := (HG2.out.far (p := ⟨w1.heap.size, 1, none⟩) (by show w.heap.size + 1 + 1 + 1 ≠ w1.heap.size; omega) (.int .u8 ((j : Int) + 1))).far8 (g := w.heap.size + 1 + 1) (u0 := .int .u8 9) (u1 := .int .u8 ((j : Int) + 1)) (u2 := .int .i64 ha.pos) (u3 := .int .i64 0) (u4 := .string ByteArray.empty) (u5 := .string ByteArray.empty) (u6 := .string ByteArray.empty) (u7 := .slice (some ⟨w.heap.size + 1 + 1 + 1, 0, none⟩) 2 2) (by omega)
  refine ret8 HZ9 (fun ⟨r0, r1, r2, r3, r4, r5, r6, r7⟩ => by simp [results, Tryz.results118, go_sem, r0, r1, r2, r3, r4, r5, r6, r7]) rfl ⟨_, rfl, HR.out _ _ Y9 (fun h => by have := HA.out _ h; omega) HG9, Y9⟩
end Go.Proofs.YtaioeailgknfjaaGreatDoor

/- The walk of enclaveref05.put. -/
namespace Go.Proofs.YtaioeailgknfjaaGreatDoor
open Go Go.RowKit Go.Sort

/-- The head of two terms with a sign between them. -/
def putH (x : ByteArray) (pos : Int) : Hd := if x = s_set then hd0 8 pos else { hd0 9 pos with op := opOf x }
theorem putT_H (x : ByteArray) (a b : Tm) : putT x a b = .mk (putH x a.head.pos) [a, b] := by unfold putT putH; split <;> rfl
theorem ne_beq {x y : ByteArray} (h : x ≠ y) : (x.toList == y.toList) = false := by simp only [beq_eq_false_iff_ne]; exact fun e => h (toList_inj e)
/-- What put hands back. -/
def RetPut (x : ByteArray) (ha hb : Hd) (aa ab : Option Addr) (na nb ca cb : Nat) (w : World) (e : Ending) (w' : World) : Prop :=
  ∃ g, e = .returned (.agg #[.int .u8 (putH x ha.pos).k, .int .u8 (putH x ha.pos).op, .int .i64 ha.pos, .int .i64 0, .string ⟨#[]⟩, .string ⟨#[]⟩, .string ⟨#[]⟩, .slice (some ⟨g, 0, none⟩) 2 2]) ∧ w.heap.size ≤ g ∧
    Blk w' g 28 #[.int .u8 ha.k, .int .u8 ha.op, .int .i64 ha.pos, .int .i64 ha.n, .string ha.name, .string ha.arg, .string ha.exn, .slice aa na ca, .int .u8 hb.k, .int .u8 hb.op, .int .i64 hb.pos, .int .i64 hb.n, .string hb.name, .string hb.arg, .string hb.exn, .slice ab nb cb] ∧ Ext w w'
theorem blk_at2 {w w1 : World} {o1 o2 o4 : Obj} {cs : Array Value} {T : TypeId} (x : Ext ((((w.alloc o1).alloc o2).alloc (.cells cs T)).alloc o4) w1) : Blk w1 (w.heap.size + 1 + 1) T cs := by
  have h := Blk.new ((w.alloc o1).alloc o2) T cs
  rw [World.size_alloc, World.size_alloc] at h
  exact (h.alloc o4).ext x
theorem blk_at3 {w w1 : World} {o1 o2 o3 : Obj} {cs : Array Value} {T : TypeId} (x : Ext ((((w.alloc o1).alloc o2).alloc o3).alloc (.cells cs T)) w1) : Blk w1 (w.heap.size + 1 + 1 + 1) T cs := by
  have h := Blk.new (((w.alloc o1).alloc o2).alloc o3) T cs
  rw [World.size_alloc, World.size_alloc, World.size_alloc] at h
  exact h.ext x
set_option maxRecDepth 60000 in
set_option maxHeartbeats 8000000 in
theorem ref5_put (x : ByteArray) (ha hb : Hd) (aa ab : Option Addr) (na nb ca cb : Nat) (w : World) :
    Calls Tryz.prog 98 #[.string x, .agg #[.int .u8 ha.k, .int .u8 ha.op, .int .i64 ha.pos, .int .i64 ha.n, .string ha.name, .string ha.arg, .string ha.exn, .slice aa na ca], .agg #[.int .u8 hb.k, .int .u8 hb.op, .int .i64 hb.pos, .int .i64 hb.n, .string hb.name, .string hb.arg, .string hb.exn, .slice ab nb cb]] w (RetPut x ha hb aa ab na nb ca cb w) := by
  have e1 : (x.toList == ([58, 61] : List UInt8)) = decide (x = s_set) := by rw [← toList_beq, show s_set.toList = [58, 61] from by rw [ByteArray.toList_eq]; rfl]
  have e2 : (x.toList == ([43] : List UInt8)) = decide (x = s_plus) := by rw [← toList_beq, show s_plus.toList = [43] from by rw [ByteArray.toList_eq]; rfl]
  have e3 : (x.toList == ([45] : List UInt8)) = decide (x = s_minus) := by rw [← toList_beq, show s_minus.toList = [45] from by rw [ByteArray.toList_eq]; rfl]
  have e4 : (x.toList == ([42] : List UInt8)) = decide (x = s_star) := by rw [← toList_beq, show s_star.toList = [42] from by rw [ByteArray.toList_eq]; rfl]
  have e5 : (x.toList == ([60] : List UInt8)) = decide (x = s_less) := by rw [← toList_beq, show s_less.toList = [60] from by rw [ByteArray.toList_eq]; rfl]
  have e6 : (x.toList == ([61] : List UInt8)) = decide (x = s_eq) := by rw [← toList_beq, show s_eq.toList = [61] from by rw [ByteArray.toList_eq]; rfl]
  have HH : Hid (putH x ha.pos = if decide (x = s_set) = true then hd0 8 ha.pos else { hd0 9 ha.pos with op := if decide (x = s_plus) = true then 1 else if decide (x = s_minus) = true then 2 else if decide (x = s_star) = true then 3 else if decide (x = s_less) = true then 4 else if decide (x = s_eq) = true then 5 else 0 }) := Lib.hid (by simp only [decide_eq_true_eq]; rfl)
  unfold RetPut
  generalize putH x ha.pos = H at *
  generalize decide (x = s_set) = b1 at *
  generalize decide (x = s_plus) = b2 at *
  generalize decide (x = s_minus) = b3 at *
  generalize decide (x = s_star) = b4 at *
  generalize decide (x = s_less) = b5 at *
  generalize decide (x = s_eq) = b6 at *
  go_enter Tryz.func98, Tryz.ntmps98
  go_upto_region 2 with (go_at_call 121; refine (ref5_term _ _ _ _ _ _).mono ?_; rintro e w1 ⟨rfl, x1⟩)
  have hZ1 := blk_at2 x1
  have hG1 := blk_at3 x1
  have y1 : Ext w w1 := by (exact eX)
  have hs1 : w.heap.size + 1 + 1 + 1 < w1.heap.size := hG1.lt
  have W7e : ∃ W7, W7 = w1.alloc (.cells #[.int .u8 9, .int .u8 0, .int .i64 ha.pos, .int .i64 0, .string ⟨#[]⟩, .string ⟨#[]⟩, .string ⟨#[]⟩, .slice (some ⟨w.heap.size + 1 + 1 + 1, 0, none⟩) 2 2] 28) := ⟨_, rfl⟩
  obtain ⟨W7, hW7⟩ := W7e
  have hT7 := Blk.new w1 28 #[.int .u8 9, .int .u8 0, .int .i64 ha.pos, .int .i64 0, .string ⟨#[]⟩, .string ⟨#[]⟩, .string ⟨#[]⟩, .slice (some ⟨w.heap.size + 1 + 1 + 1, 0, none⟩) 2 2]
  have hZ7 := hZ1.alloc (.cells #[.int .u8 9, .int .u8 0, .int .i64 ha.pos, .int .i64 0, .string ⟨#[]⟩, .string ⟨#[]⟩, .string ⟨#[]⟩, .slice (some ⟨w.heap.size + 1 + 1 + 1, 0, none⟩) 2 2] 28)
  have hG7 := hG1.alloc (.cells #[.int .u8 9, .int .u8 0, .int .i64 ha.pos, .int .i64 0, .string ⟨#[]⟩, .string ⟨#[]⟩, .string ⟨#[]⟩, .slice (some ⟨w.heap.size + 1 + 1 + 1, 0, none⟩) 2 2] 28)
  have y7 := y1.alloc (.cells #[.int .u8 9, .int .u8 0, .int .i64 ha.pos, .int .i64 0, .string ⟨#[]⟩, .string ⟨#[]⟩, .string ⟨#[]⟩, .slice (some ⟨w.heap.size + 1 + 1 + 1, 0, none⟩) 2 2] 28)
  rw [← hW7] at hT7 hZ7 hG7 y7
  rw [← hW7]
  clear hZ1 hG1 y1 x1 hW7
  generalize w1.heap.size = t7 at *
  obtain ⟨c0, c1, c2, c3, c4, c5, c6, c7⟩ := hT7.eight
  obtain ⟨f0, f1, f2, f3, f4, f5, f6, f7⟩ := hT7.frozen8
  obtain ⟨z0, z1, z2, z3, z4, z5, z6, z7⟩ := hZ7.eight
  obtain ⟨g0, g1, g2, g3, g4, g5, g6, g7⟩ := hZ7.frozen8
  have l1 := hT7.lt
  have l2 := hZ7.lt
  have HZ := Lib.hid hZ7
  have HG := Lib.hid hG7
  have HY := Lib.hid y7
  have hne : t7 ≠ w.heap.size + 1 + 1 := by omega
  have hne' : w.heap.size + 1 + 1 ≠ t7 := by omega
  clear hT7 hZ7 hG7 y7
  cases b1
  · cases b2
    · cases b3
      · cases b4
        · cases b5
          · cases b6
            · have B9 := (HZ.out).lay8 (u0 := .int .u8 9) (u1 := .int .u8 0) (u2 := .int .i64 ha.pos) (u3 := .int .i64 0) (u4 := .string ⟨#[]⟩) (u5 := .string ⟨#[]⟩) (u6 := .string ⟨#[]⟩) (u7 := .slice (some ⟨w.heap.size + 1 + 1 + 1, 0, none⟩) 2 2)
              have Y9 := (HY.out).set8 (g := w.heap.size + 1 + 1) (u0 := .int .u8 9) (u1 := .int .u8 0) (u2 := .int .i64 ha.pos) (u3 := .int .i64 0) (u4 := .string ⟨#[]⟩) (u5 := .string ⟨#[]⟩) (u6 := .string ⟨#[]⟩) (u7 := .slice (some ⟨w.heap.size + 1 + 1 + 1, 0, none⟩) 2 2) (by omega)
              have G9 := (HG.out).far8 (g := w.heap.size + 1 + 1) (u0 := .int .u8 9) (u1 := .int .u8 0) (u2 := .int .i64 ha.pos) (u3 := .int .i64 0) (u4 := .string ⟨#[]⟩) (u5 := .string ⟨#[]⟩) (u6 := .string ⟨#[]⟩) (u7 := .slice (some ⟨w.heap.size + 1 + 1 + 1, 0, none⟩) 2 2) (by omega)
              have HB9 := Lib.hid B9
              have HY9 := Lib.hid Y9
              have HG9 := Lib.hid G9
              clear B9 Y9 G9
              have eH := HH.out
              subst eH
              go_wp2_with fail
              exact ret8 HB9.out (fun ⟨r0, r1, r2, r3, r4, r5, r6, r7⟩ => by simp [results, Tryz.results98, go_sem, r0, r1, r2, r3, r4, r5, r6, r7]) rfl ⟨_, rfl, by omega, HG9.out, HY9.out⟩
            · have B9 := (HZ.out.far (p := ⟨t7, 1, none⟩) hne' (.int .u8 5)).lay8 (u0 := .int .u8 9) (u1 := .int .u8 5) (u2 := .int .i64 ha.pos) (u3 := .int .i64 0) (u4 := .string ⟨#[]⟩) (u5 := .string ⟨#[]⟩) (u6 := .string ⟨#[]⟩) (u7 := .slice (some ⟨w.heap.size + 1 + 1 + 1, 0, none⟩) 2 2)
              have Y9 := (HY.out.setCell (p := ⟨t7, 1, none⟩) (by show w.heap.size ≤ t7; omega) (.int .u8 5)).set8 (g := w.heap.size + 1 + 1) (u0 := .int .u8 9) (u1 := .int .u8 5) (u2 := .int .i64 ha.pos) (u3 := .int .i64 0) (u4 := .string ⟨#[]⟩) (u5 := .string ⟨#[]⟩) (u6 := .string ⟨#[]⟩) (u7 := .slice (some ⟨w.heap.size + 1 + 1 + 1, 0, none⟩) 2 2) (by omega)
              have G9 := (HG.out.far (p := ⟨t7, 1, none⟩) (by show w.heap.size + 1 + 1 + 1 ≠ t7; omega) (.int .u8 5)).far8 (g := w.heap.size + 1 + 1) (u0 := .int .u8 9) (u1 := .int .u8 5) (u2 := .int .i64 ha.pos) (u3 := .int .i64 0) (u4 := .string ⟨#[]⟩) (u5 := .string ⟨#[]⟩) (u6 := .string ⟨#[]⟩) (u7 := .slice (some ⟨w.heap.size + 1 + 1 + 1, 0, none⟩) 2 2) (by omega)
              have HB9 := Lib.hid B9
              have HY9 := Lib.hid Y9
              have HG9 := Lib.hid G9
              clear B9 Y9 G9
              have eH := HH.out
              subst eH
              go_wp2_with fail
              exact ret8 HB9.out (fun ⟨r0, r1, r2, r3, r4, r5, r6, r7⟩ => by simp [results, Tryz.results98, go_sem, r0, r1, r2, r3, r4, r5, r6, r7]) rfl ⟨_, rfl, by omega, HG9.out, HY9.out⟩
          · have B9 := (HZ.out.far (p := ⟨t7, 1, none⟩) hne' (.int .u8 4)).lay8 (u0 := .int .u8 9) (u1 := .int .u8 4) (u2 := .int .i64 ha.pos) (u3 := .int .i64 0) (u4 := .string ⟨#[]⟩) (u5 := .string ⟨#[]⟩) (u6 := .string ⟨#[]⟩) (u7 := .slice (some ⟨w.heap.size + 1 + 1 + 1, 0, none⟩) 2 2)
            have Y9 := (HY.out.setCell (p := ⟨t7, 1, none⟩) (by show w.heap.size ≤ t7; omega) (.int .u8 4)).set8 (g := w.heap.size + 1 + 1) (u0 := .int .u8 9) (u1 := .int .u8 4) (u2 := .int .i64 ha.pos) (u3 := .int .i64 0) (u4 := .string ⟨#[]⟩) (u5 := .string ⟨#[]⟩) (u6 := .string ⟨#[]⟩) (u7 := .slice (some ⟨w.heap.size + 1 + 1 + 1, 0, none⟩) 2 2) (by omega)
            have G9 := (HG.out.far (p := ⟨t7, 1, none⟩) (by show w.heap.size + 1 + 1 + 1 ≠ t7; omega) (.int .u8 4)).far8 (g := w.heap.size + 1 + 1) (u0 := .int .u8 9) (u1 := .int .u8 4) (u2 := .int .i64 ha.pos) (u3 := .int .i64 0) (u4 := .string ⟨#[]⟩) (u5 := .string ⟨#[]⟩) (u6 := .string ⟨#[]⟩) (u7 := .slice (some ⟨w.heap.size + 1 + 1 + 1, 0, none⟩) 2 2) (by omega)
            have HB9 := Lib.hid B9
            have HY9 := Lib.hid Y9
            have HG9 := Lib.hid G9
            clear B9 Y9 G9
            have eH := HH.out
            subst eH
            go_wp2_with fail
            exact ret8 HB9.out (fun ⟨r0, r1, r2, r3, r4, r5, r6, r7⟩ => by simp [results, Tryz.results98, go_sem, r0, r1, r2, r3, r4, r5, r6, r7]) rfl ⟨_, rfl, by omega, HG9.out, HY9.out⟩
        · have B9 := (HZ.out.far (p := ⟨t7, 1, none⟩) hne' (.int .u8 3)).lay8 (u0 := .int .u8 9) (u1 := .int .u8 3) (u2 := .int .i64 ha.pos) (u3 := .int .i64 0) (u4 := .string ⟨#[]⟩) (u5 := .string ⟨#[]⟩) (u6 := .string ⟨#[]⟩) (u7 := .slice (some ⟨w.heap.size + 1 + 1 + 1, 0, none⟩) 2 2)
          have Y9 := (HY.out.setCell (p := ⟨t7, 1, none⟩) (by show w.heap.size ≤ t7; omega) (.int .u8 3)).set8 (g := w.heap.size + 1 + 1) (u0 := .int .u8 9) (u1 := .int .u8 3) (u2 := .int .i64 ha.pos) (u3 := .int .i64 0) (u4 := .string ⟨#[]⟩) (u5 := .string ⟨#[]⟩) (u6 := .string ⟨#[]⟩) (u7 := .slice (some ⟨w.heap.size + 1 + 1 + 1, 0, none⟩) 2 2) (by omega)
          have G9 := (HG.out.far (p := ⟨t7, 1, none⟩) (by show w.heap.size + 1 + 1 + 1 ≠ t7; omega) (.int .u8 3)).far8 (g := w.heap.size + 1 + 1) (u0 := .int .u8 9) (u1 := .int .u8 3) (u2 := .int .i64 ha.pos) (u3 := .int .i64 0) (u4 := .string ⟨#[]⟩) (u5 := .string ⟨#[]⟩) (u6 := .string ⟨#[]⟩) (u7 := .slice (some ⟨w.heap.size + 1 + 1 + 1, 0, none⟩) 2 2) (by omega)
          have HB9 := Lib.hid B9
          have HY9 := Lib.hid Y9
          have HG9 := Lib.hid G9
          clear B9 Y9 G9
          have eH := HH.out
          subst eH
          go_wp2_with fail
          exact ret8 HB9.out (fun ⟨r0, r1, r2, r3, r4, r5, r6, r7⟩ => by simp [results, Tryz.results98, go_sem, r0, r1, r2, r3, r4, r5, r6, r7]) rfl ⟨_, rfl, by omega, HG9.out, HY9.out⟩
      · have B9 := (HZ.out.far (p := ⟨t7, 1, none⟩) hne' (.int .u8 2)).lay8 (u0 := .int .u8 9) (u1 := .int .u8 2) (u2 := .int .i64 ha.pos) (u3 := .int .i64 0) (u4 := .string ⟨#[]⟩) (u5 := .string ⟨#[]⟩) (u6 := .string ⟨#[]⟩) (u7 := .slice (some ⟨w.heap.size + 1 + 1 + 1, 0, none⟩) 2 2)
        have Y9 := (HY.out.setCell (p := ⟨t7, 1, none⟩) (by show w.heap.size ≤ t7; omega) (.int .u8 2)).set8 (g := w.heap.size + 1 + 1) (u0 := .int .u8 9) (u1 := .int .u8 2) (u2 := .int .i64 ha.pos) (u3 := .int .i64 0) (u4 := .string ⟨#[]⟩) (u5 := .string ⟨#[]⟩) (u6 := .string ⟨#[]⟩) (u7 := .slice (some ⟨w.heap.size + 1 + 1 + 1, 0, none⟩) 2 2) (by omega)
        have G9 := (HG.out.far (p := ⟨t7, 1, none⟩) (by show w.heap.size + 1 + 1 + 1 ≠ t7; omega) (.int .u8 2)).far8 (g := w.heap.size + 1 + 1) (u0 := .int .u8 9) (u1 := .int .u8 2) (u2 := .int .i64 ha.pos) (u3 := .int .i64 0) (u4 := .string ⟨#[]⟩) (u5 := .string ⟨#[]⟩) (u6 := .string ⟨#[]⟩) (u7 := .slice (some ⟨w.heap.size + 1 + 1 + 1, 0, none⟩) 2 2) (by omega)
        have HB9 := Lib.hid B9
        have HY9 := Lib.hid Y9
        have HG9 := Lib.hid G9
        clear B9 Y9 G9
        have eH := HH.out
        subst eH
        go_wp2_with fail
        exact ret8 HB9.out (fun ⟨r0, r1, r2, r3, r4, r5, r6, r7⟩ => by simp [results, Tryz.results98, go_sem, r0, r1, r2, r3, r4, r5, r6, r7]) rfl ⟨_, rfl, by omega, HG9.out, HY9.out⟩
    · have B9 := (HZ.out.far (p := ⟨t7, 1, none⟩) hne' (.int .u8 1)).lay8 (u0 := .int .u8 9) (u1 := .int .u8 1) (u2 := .int .i64 ha.pos) (u3 := .int .i64 0) (u4 := .string ⟨#[]⟩) (u5 := .string ⟨#[]⟩) (u6 := .string ⟨#[]⟩) (u7 := .slice (some ⟨w.heap.size + 1 + 1 + 1, 0, none⟩) 2 2)
      have Y9 := (HY.out.setCell (p := ⟨t7, 1, none⟩) (by show w.heap.size ≤ t7; omega) (.int .u8 1)).set8 (g := w.heap.size + 1 + 1) (u0 := .int .u8 9) (u1 := .int .u8 1) (u2 := .int .i64 ha.pos) (u3 := .int .i64 0) (u4 := .string ⟨#[]⟩) (u5 := .string ⟨#[]⟩) (u6 := .string ⟨#[]⟩) (u7 := .slice (some ⟨w.heap.size + 1 + 1 + 1, 0, none⟩) 2 2) (by omega)
      have G9 := (HG.out.far (p := ⟨t7, 1, none⟩) (by show w.heap.size + 1 + 1 + 1 ≠ t7; omega) (.int .u8 1)).far8 (g := w.heap.size + 1 + 1) (u0 := .int .u8 9) (u1 := .int .u8 1) (u2 := .int .i64 ha.pos) (u3 := .int .i64 0) (u4 := .string ⟨#[]⟩) (u5 := .string ⟨#[]⟩) (u6 := .string ⟨#[]⟩) (u7 := .slice (some ⟨w.heap.size + 1 + 1 + 1, 0, none⟩) 2 2) (by omega)
      have HB9 := Lib.hid B9
      have HY9 := Lib.hid Y9
      have HG9 := Lib.hid G9
      clear B9 Y9 G9
      have eH := HH.out
      subst eH
      go_wp2_with fail
      exact ret8 HB9.out (fun ⟨r0, r1, r2, r3, r4, r5, r6, r7⟩ => by simp [results, Tryz.results98, go_sem, r0, r1, r2, r3, r4, r5, r6, r7]) rfl ⟨_, rfl, by omega, HG9.out, HY9.out⟩
  · have B9 := (HZ.out.far (p := ⟨t7, 0, none⟩) hne' (.int .u8 8)).lay8 (u0 := .int .u8 8) (u1 := .int .u8 0) (u2 := .int .i64 ha.pos) (u3 := .int .i64 0) (u4 := .string ⟨#[]⟩) (u5 := .string ⟨#[]⟩) (u6 := .string ⟨#[]⟩) (u7 := .slice (some ⟨w.heap.size + 1 + 1 + 1, 0, none⟩) 2 2)
    have Y9 := (HY.out.setCell (p := ⟨t7, 0, none⟩) (by show w.heap.size ≤ t7; omega) (.int .u8 8)).set8 (g := w.heap.size + 1 + 1) (u0 := .int .u8 8) (u1 := .int .u8 0) (u2 := .int .i64 ha.pos) (u3 := .int .i64 0) (u4 := .string ⟨#[]⟩) (u5 := .string ⟨#[]⟩) (u6 := .string ⟨#[]⟩) (u7 := .slice (some ⟨w.heap.size + 1 + 1 + 1, 0, none⟩) 2 2) (by omega)
    have G9 := (HG.out.far (p := ⟨t7, 0, none⟩) (by show w.heap.size + 1 + 1 + 1 ≠ t7; omega) (.int .u8 8)).far8 (g := w.heap.size + 1 + 1) (u0 := .int .u8 8) (u1 := .int .u8 0) (u2 := .int .i64 ha.pos) (u3 := .int .i64 0) (u4 := .string ⟨#[]⟩) (u5 := .string ⟨#[]⟩) (u6 := .string ⟨#[]⟩) (u7 := .slice (some ⟨w.heap.size + 1 + 1 + 1, 0, none⟩) 2 2) (by omega)
    have HB9 := Lib.hid B9
    have HY9 := Lib.hid Y9
    have HG9 := Lib.hid G9
    clear B9 Y9 G9
    have eH := HH.out
    subst eH
    go_wp2_with fail
    exact ret8 HB9.out (fun ⟨r0, r1, r2, r3, r4, r5, r6, r7⟩ => by simp [results, Tryz.results98, go_sem, r0, r1, r2, r3, r4, r5, r6, r7]) rfl ⟨_, rfl, by omega, HG9.out, HY9.out⟩
end Go.Proofs.YtaioeailgknfjaaGreatDoor

/- enclaveref05: its states, good or bad; want and get of any state; a bad state goes through. -/
namespace Go.Proofs.YtaioeailgknfjaaGreatDoor
open Go Go.RowKit Go.Sort

/-- A state: good at some tokens, or bad. -/
def StS {α : Type} (L : List Tk) (n i : Nat) (bad : Bool) (r : Res α) : Prop := match r with
  | .ok (_, l) => bad = false ∧ AtS L n i l ∧ Ended l
  | .error l => bad = true ∧ AtS L n i l
/-- One step behind a state. -/
def thenR {α β : Type} (s : Res α) (k : List Tk → Res β) : Res β := match s with
  | .error l => .error l
  | .ok (_, l) => k l
theorem getW_next {x : ByteArray} {l l' : List Tk} {u : Unit} (he : Ended l) (h : getW x l = .ok (u, l')) : Ended l' := by
  unfold getW at h
  split at h
  · rename_i hi
    cases h
    exact (he.is_ hi).1
  · cases h
theorem getK_next {k : Int} (hk : k ≠ 6) {x : ByteArray} {l l' : List Tk} (he : Ended l) (h : getK k l = .ok (x, l')) : Ended l' := by
  have := getK_behind he hk
  rw [h] at this
  exact this.1
theorem ref5_wantS {α : Type} (L : List Tk) (a : Option Addr) (n c i : Nat) (bad : Bool) (s : Res α) (x : ByteArray) (hx : x ≠ ByteArray.empty) (w : World) (hL : IsL w L a n c) (hs : StS L n i bad s) :
    Calls Tryz.prog 43 #[.agg #[.slice a n c, .int .i64 (i : Nat), .bool bad], .string x] w fun e w' => Ext w w' ∧ ∃ i' bad', e = .returned (.agg #[.slice a n c, .int .i64 (i' : Nat), .bool bad']) ∧ StS L n i' bad' (thenR s (getW x)) := by
  cases s with
  | error l =>
    obtain ⟨rfl, hA⟩ := hs
    refine (ref5_want_bad a n c i x w).mono ?_
    rintro e w' ⟨rfl, hx⟩
    exact ⟨hx, i, true, rfl, rfl, hA⟩
  | ok q =>
    obtain ⟨u, l⟩ := q
    obtain ⟨rfl, hA, he⟩ := hs
    refine (ref5_want L a n c i x hx l w hL hA he).mono ?_
    rintro e w' ⟨hx, i', hh⟩
    refine ⟨hx, i', ?_⟩
    show ∃ bad', _ ∧ StS L n i' bad' (getW x l)
    cases hg : getW x l with
    | error l' =>
      rw [hg] at hh
      exact ⟨true, hh.1, rfl, hh.2⟩
    | ok q =>
      obtain ⟨u, l'⟩ := q
      rw [hg] at hh
      exact ⟨false, hh.1, rfl, hh.2, getW_next he hg⟩
theorem ref5_getS {α : Type} (L : List Tk) (a : Option Addr) (n c i : Nat) (bad : Bool) (s : Res α) (k : Int) (hk : k ≠ 6) (w : World) (hL : IsL w L a n c) (hs : StS L n i bad s) :
    Calls Tryz.prog 42 #[.agg #[.slice a n c, .int .i64 (i : Nat), .bool bad], .int .u8 k] w fun e w' => Ext w w' ∧ ∃ i' bad' tx, e = .returned (.tuple #[.agg #[.slice a n c, .int .i64 (i' : Nat), .bool bad'], .string tx]) ∧ StS L n i' bad' (thenR s (getK k)) ∧ ∀ x l', thenR s (getK k) = .ok (x, l') → tx = x := by
  cases s with
  | error l =>
    obtain ⟨rfl, hA⟩ := hs
    refine (ref5_get_bad a n c i k w).mono ?_
    rintro e w' ⟨rfl, hx⟩
    exact ⟨hx, i, true, _, rfl, ⟨rfl, hA⟩, fun x l' h => by cases h⟩
  | ok q =>
    obtain ⟨u, l⟩ := q
    obtain ⟨rfl, hA, he⟩ := hs
    refine (ref5_get L a n c i k hk l w hL hA he).mono ?_
    rintro e w' ⟨hx, i', v, hh⟩
    refine ⟨hx, i', ?_⟩
    show ∃ bad' tx, _ ∧ StS L n i' bad' (getK k l) ∧ ∀ x l', getK k l = .ok (x, l') → tx = x
    cases hg : getK k l with
    | error l' =>
      rw [hg] at hh
      obtain ⟨e1, hA', tx, rfl⟩ := hh
      exact ⟨true, tx, e1, ⟨rfl, hA'⟩, fun x l' h => by cases h⟩
    | ok q =>
      obtain ⟨x, l'⟩ := q
      rw [hg] at hh
      obtain ⟨e1, hA', hv⟩ := hh
      have hv : v = .string x := hv
      subst hv
      exact ⟨false, x, e1, ⟨rfl, hA', getK_next hk he hg⟩, fun x' l'' h => by cases h; rfl⟩
/-- What a part of the grammar hands back. -/
def RetE (L : List Tk) (a : Option Addr) (n c : Nat) (w : World) (r : Res Tm) (e : Ending) (w' : World) : Prop :=
  Ext w w' ∧ ∃ (i : Nat) (bad : Bool) (x : Hd) (a' : Option Addr) (n' c' : Nat), e = .returned (.tuple #[.agg #[.slice a n c, .int .i64 (i : Nat), .bool bad], .agg #[.int .u8 x.k, .int .u8 x.op, .int .i64 x.pos, .int .i64 x.n, .string x.name, .string x.arg, .string x.exn, .slice a' n' c']]) ∧ StS L n i bad r ∧
    (∀ t l, r = .ok (t, l) → t.head = x ∧ x.Fits ∧ n' ≤ c' ∧ c' ≤ 9223372036854775807 ∧ IsTmsA (fun b => b < w.heap.size) w' t.kids a' n')
/-- What a part of the grammar does to a good state. -/
def DoesS (F : Nat) (more : Array Value) (nt : NT) (f : Nat) : Prop := ∀ (L : List Tk) (a : Option Addr) (n c i : Nat) (l : List Tk) (r : Res Tm) (w : World), IsL w L a n c → AtS L n i l → Ended l → parseF f nt l = some r → Calls Tryz.prog F (#[.agg #[.slice a n c, .int .i64 (i : Nat), .bool false]] ++ more) w (RetE L a n c w r)
/-- Tokens are short enough to be terms' heads. -/
def zeroH : Hd := ⟨0, 0, 0, 0, ⟨#[]⟩, ⟨#[]⟩, ⟨#[]⟩⟩
set_option maxRecDepth 60000 in
set_option maxHeartbeats 2000000 in
theorem ref5_expr_bad (a : Option Addr) (n c i : Nat) (w : World) :
    Calls Tryz.prog 44 #[.agg #[.slice a n c, .int .i64 (i : Nat), .bool true]] w fun e w' => Ext w w' ∧ e = .returned (.tuple #[.agg #[.slice a n c, .int .i64 (i : Nat), .bool true], .agg #[.int .u8 0, .int .u8 0, .int .i64 0, .int .i64 0, .string ⟨#[]⟩, .string ⟨#[]⟩, .string ⟨#[]⟩, .slice none 0 0]]) := by
  go_enter Tryz.func44, Tryz.ntmps44
  go_wp2_with fail
  exact bodyPost_ret (v := .tuple #[.agg #[.slice a n c, .int .i64 (i : Nat), .bool true], .agg #[.int .u8 0, .int .u8 0, .int .i64 0, .int .i64 0, .string ⟨#[]⟩, .string ⟨#[]⟩, .string ⟨#[]⟩, .slice none 0 0]]) (by simp [results, Tryz.results44, go_sem]) rfl ⟨by (exact eX), rfl⟩
set_option maxRecDepth 60000 in
set_option maxHeartbeats 2000000 in
theorem ref5_unary_bad (a : Option Addr) (n c i : Nat) (w : World) :
    Calls Tryz.prog 119 #[.agg #[.slice a n c, .int .i64 (i : Nat), .bool true]] w fun e w' => Ext w w' ∧ e = .returned (.tuple #[.agg #[.slice a n c, .int .i64 (i : Nat), .bool true], .agg #[.int .u8 0, .int .u8 0, .int .i64 0, .int .i64 0, .string ⟨#[]⟩, .string ⟨#[]⟩, .string ⟨#[]⟩, .slice none 0 0]]) := by
  go_enter Tryz.func119, Tryz.ntmps119
  go_wp2_with fail
  exact bodyPost_ret (v := .tuple #[.agg #[.slice a n c, .int .i64 (i : Nat), .bool true], .agg #[.int .u8 0, .int .u8 0, .int .i64 0, .int .i64 0, .string ⟨#[]⟩, .string ⟨#[]⟩, .string ⟨#[]⟩, .slice none 0 0]]) (by simp [results, Tryz.results119, go_sem]) rfl ⟨by (exact eX), rfl⟩
/-- expr, or unary, of any state. -/
theorem ref5_exprS {α : Type} {f : Nat} (hE : DoesS 44 #[] .expr f) (L : List Tk) (a : Option Addr) (n c i : Nat) (bad : Bool) (s : Res α) (r : Res Tm) (w : World) (hL : IsL w L a n c) (hs : StS L n i bad s) (hr : ∀ u l, s = .ok (u, l) → parseF f .expr l = some r) (he : ∀ l, s = .error l → r = .error l) :
    Calls Tryz.prog 44 #[.agg #[.slice a n c, .int .i64 (i : Nat), .bool bad]] w (RetE L a n c w r) := by
  cases s with
  | error l =>
    obtain ⟨rfl, hA⟩ := hs
    obtain rfl := he l rfl
    refine (ref5_expr_bad a n c i w).mono ?_
    rintro e w' ⟨hx, rfl⟩
    exact ⟨hx, i, true, zeroH, none, 0, 0, rfl, ⟨rfl, hA⟩, fun t l h => by cases h⟩
  | ok q =>
    obtain ⟨u, l⟩ := q
    obtain ⟨rfl, hA, hE'⟩ := hs
    exact hE L a n c i l r w hL hA hE' (hr u l rfl)
theorem ref5_unaryS {α : Type} {f : Nat} (hE : DoesS 119 #[] .unary f) (L : List Tk) (a : Option Addr) (n c i : Nat) (bad : Bool) (s : Res α) (r : Res Tm) (w : World) (hL : IsL w L a n c) (hs : StS L n i bad s) (hr : ∀ u l, s = .ok (u, l) → parseF f .unary l = some r) (he : ∀ l, s = .error l → r = .error l) :
    Calls Tryz.prog 119 #[.agg #[.slice a n c, .int .i64 (i : Nat), .bool bad]] w (RetE L a n c w r) := by
  cases s with
  | error l =>
    obtain ⟨rfl, hA⟩ := hs
    obtain rfl := he l rfl
    refine (ref5_unary_bad a n c i w).mono ?_
    rintro e w' ⟨hx, rfl⟩
    exact ⟨hx, i, true, zeroH, none, 0, 0, rfl, ⟨rfl, hA⟩, fun t l h => by cases h⟩
  | ok q =>
    obtain ⟨u, l⟩ := q
    obtain ⟨rfl, hA, hE'⟩ := hs
    exact hE L a n c i l r w hL hA hE' (hr u l rfl)
end Go.Proofs.YtaioeailgknfjaaGreatDoor

/- The walk of parse.row: parts with signs between them. The walk of parse.apply: unaries, one behind the other. -/
namespace Go.Proofs.YtaioeailgknfjaaGreatDoor
open Go Go.RowKit Go.Sort

/-- A term that a call hands back: its rows lie in new blocks alone. -/
def IsNew (base : Nat) (w : World) (t : Tm) (v : Value) : Prop := ∃ a len cap, v = .agg #[.int .u8 t.head.k, .int .u8 t.head.op, .int .i64 t.head.pos, .int .i64 t.head.n, .string t.head.name, .string t.head.arg, .string t.head.exn, .slice a len cap] ∧ t.head.Fits ∧ len ≤ cap ∧ cap ≤ 9223372036854775807 ∧ IsTmsA (fun b => b < base) w t.kids a len
/-- What a part of the parser does, at tokens for which so many calls are enough. -/
def Does (F : Nat) (nt : NT) (f : Nat) : Prop := ∀ (pb : Nat) (W : World) (l : List Tk) (r : Res Tm), Prs W pb l → Ended l → parseF f nt l = some r → Calls Tryz.prog F #[.pointer (some ⟨pb, 0, none⟩)] W (RetP pb W (IsNew W.heap.size) r)
/-- A sign's place among the operations' signs. -/
theorem sign_at {k : Nat} (hk : 1 ≤ k) {x : ByteArray} (h : x ∈ signsL k) : ∃ j : Nat, j ≤ 4 ∧ fidx (fun y : ByteArray => x.toList == y.toList) [s_plus, s_minus, s_star, s_less, s_eq] = (j : Int) ∧ opOf x = (j : Int) + 1 ∧ x ≠ s_set := by
  have key : ∀ y, y ∈ [s_less, s_eq, s_plus, s_minus, s_star] → ∃ j : Nat, j ≤ 4 ∧ fidx (fun z : ByteArray => y.toList == z.toList) [s_plus, s_minus, s_star, s_less, s_eq] = (j : Int) ∧ opOf y = (j : Int) + 1 ∧ y ≠ s_set := by
    intro y hy
    simp only [toList_beq]
    simp only [List.mem_cons, List.not_mem_nil, or_false] at hy
    rcases hy with rfl | rfl | rfl | rfl | rfl
    · exact ⟨3, by omega, by decide +kernel, by decide +kernel, by decide +kernel⟩
    · exact ⟨4, by omega, by decide +kernel, by decide +kernel, by decide +kernel⟩
    · exact ⟨0, by omega, by decide +kernel, by decide +kernel, by decide +kernel⟩
    · exact ⟨1, by omega, by decide +kernel, by decide +kernel, by decide +kernel⟩
    · exact ⟨2, by omega, by decide +kernel, by decide +kernel, by decide +kernel⟩
  refine key x ?_
  match k, hk with
  | 1, _ => simp only [signsL, List.mem_cons, List.not_mem_nil, or_false] at h ⊢; rcases h with h | h <;> simp [h]
  | 2, _ => simp only [signsL, List.mem_cons, List.not_mem_nil, or_false] at h ⊢; rcases h with h | h <;> simp [h]
  | k + 3, _ => simp only [signsL, List.mem_cons, List.not_mem_nil, or_false] at h ⊢; simp [h]
theorem parseF_told {f : Nat} {nt : NT} {l : List Tk} {x : Res Tm} (he : Ended l) (h : parseF f nt l = some x) : nt.Told l.length x := by
  have e := parseL_eq he h
  obtain ⟨f', _, t⟩ := parseL_some (nt := nt) he
  rw [e] at t
  exact t
/-- What a term's rows must not lie in: what was there ahead of the call, the result's block, and another one. -/
def AvP (s g : Nat) : Nat → Prop := fun b => b ≤ s ∨ b = g
theorem hd9_fits {x : Hd} (h : x.Fits) {j : Int} (h0 : 0 ≤ j) (h1 : j ≤ 255) (k : Int) (k0 : 0 ≤ k) (k1 : k ≤ 255) : ({ hd0 k x.pos with op := j } : Hd).Fits :=
  ⟨k0, k1, h0, h1, h.pos0, h.pos1, by simp [hd0], by simp [hd0], by simp [hd0], by simp [hd0], by simp [hd0]⟩
theorem hd0_fits {k p : Int} (k0 : 0 ≤ k) (k1 : k ≤ 255) (p0 : -9223372036854775808 ≤ p) (p1 : p ≤ 9223372036854775807) : (hd0 k p).Fits :=
  ⟨k0, k1, by simp [hd0], by simp [hd0], p0, p1, by simp [hd0], by simp [hd0], by simp [hd0], by simp [hd0], by simp [hd0]⟩
theorem Blk.nez {w : World} {pb g : Nat} {t : TypeId} {cs : Array Value} (h : Blk w g t cs) {w' : World} (hx : ExtX (· = pb) w w') (hne : g ≠ pb) : Blk w' g t cs := h.extx hx hne
set_option maxRecDepth 8000 in
set_option maxHeartbeats 8000000 in
theorem parse_row (k K f : Nat) (hk : k = 2 ∨ k = 3) (eK : ∀ args w, (callFunc K args).run Tryz.prog w = .ok (.enter K args) w) (hF : ∀ g, g ≤ f → Does K (.lvl (k + 1)) g)
    (pb : Nat) (l : List Tk) (r : Res Tm) (w : World) (a : Option Addr) (len cap : Nat) (h1 : len ≤ cap) (h2 : cap ≤ 9223372036854775807) (hr : IsRow w (vstr (signsL k)) a len) (hra : ∀ p, a = some p → p.block ≠ pb) (h : Prs w pb l) (he : Ended l) (hp : parseF (f + 1) (.lvl k) l = some r) :
    Calls Tryz.prog 116 #[.pointer (some ⟨pb, 0, none⟩), .func (.func K) #[.pointer (some ⟨pb, 0, none⟩)] #[], .slice a len cap] w (RetP pb w (IsNew w.heap.size) r) := by
  have hp2 : andThen (parseF f (.lvl (k + 1)) l) (fun a l1 => parseF f (.more k a) l1) = some r := by
    unfold parseF at hp
    rw [if_neg (by omega), if_pos (by omega)] at hp
    exact hp
  have HR := Lib.hid hr
  have hlt := h.lt
  cases e1 : parseF f (.lvl (k + 1)) l with
  | none => rw [e1] at hp2; cases hp2
  | some r1 =>
    have KP := Lib.hid fun W (x : Ext w W) => hF f (Nat.le_refl _) pb W l r1 (h.ext x) he e1
    rw [e1] at hp2
    cases r1 with
    | error l' =>
      cases hp2
      clear hp e1 h hr hF
      go_enter Tryz.func116, Tryz.ntmps116
      go_wp2_with fail
      refine (KP.out _ (by (exact eX))).mono ?_
      intro e w1 hh
      obtain ⟨rfl, x1⟩ := hh.error
      exact ⟨rfl, ((ExtX.refl w).alloc _).trans x1, rfl⟩
    | ok p =>
      obtain ⟨t0, l0⟩ := p
      rw [andThen_ok] at hp2
      have he0 : Ended l0 := (parseF_told he e1).1
      have HF := Lib.hid hF
      have HP2 := Lib.hid hp2
      clear hp e1 h hr hF hp2
      go_enter Tryz.func116, Tryz.ntmps116
      go_wp2_with fail
      refine (KP.out _ (by (exact eX))).mono ?_
      intro e w1 hh
      obtain ⟨v, rfl, ⟨aa, na, ca, rfl, hf0, g1, g2, hT0⟩, hp1, x1⟩ := hh.ok
      rw [World.size_alloc] at hT0
      have hZ1 := (Blk.new w 28 #[.int .u8 0, .int .u8 0, .int .i64 0, .int .i64 0, .string ⟨#[]⟩, .string ⟨#[]⟩, .string ⟨#[]⟩, .slice none 0 0]).extx x1 (by omega)
      have hs1 := hZ1.lt
      have y1 : ExtX (· = pb) w w1 := ((ExtX.refl w).alloc _).trans x1
      have HT0 := Lib.hid hT0
      have HF0 := Lib.hid hf0
      have HP1 := Lib.hid hp1
      have HZ1 := Lib.hid hZ1
      have Y1 := Lib.hid y1
      clear hh hT0 hf0 hp1 hZ1 x1 y1
      go_wp2_with fail
      go_loopg [8] l0.length (fun g u wr => ∃ (m : Nat) (x : Hd) (ks : List Tm) (ak : Option Addr) (nk ck : Nat) (l1 : List Tk), g = l1.length ∧ m ≤ f ∧ parseF m (.more k (.mk x ks)) l1 = some r ∧ Ended l1 ∧ Prs wr pb l1 ∧ Blk wr w1.heap.size 28 #[.int .u8 x.k, .int .u8 x.op, .int .i64 x.pos, .int .i64 x.n, .string x.name, .string x.arg, .string x.exn, .slice ak nk ck] ∧ x.Fits ∧ nk ≤ ck ∧ ck ≤ 9223372036854775807 ∧ IsTmsA (AvP w.heap.size w1.heap.size) wr ks ak nk ∧ Blk wr w.heap.size 28 #[.int .u8 0, .int .u8 0, .int .i64 0, .int .i64 0, .string ⟨#[]⟩, .string ⟨#[]⟩, .string ⟨#[]⟩, .slice none 0 0] ∧ ExtX (· = pb) w wr)
      case atStart =>
        refine ⟨f, t0.head, t0.kids, aa, na, ca, l0, rfl, Nat.le_refl _, by have := HP2.out; cases t0; exact this, he0, by have := HP1.out; (exact prX), Blk.new w1 _ _, HF0.out, g1, g2, (HT0.out.off fun b hb h => by rcases h with h | h <;> omega).ext ((Ext.refl w1).alloc _), HZ1.out.alloc _, Y1.out.alloc _⟩
      case round =>
        obtain ⟨m, x, ks, ak, nk, ck, l1, rfl, hm, hpm, he1, hP, hB, hfx, k1, k2, hTk, hZ, hx⟩ := hrel
        cases m with
        | zero => cases hpm
        | succ m =>
        cases l1 with
        | nil => cases he1
        | cons tk l2 =>
        have hlg := hB.lt
        have hlr := hx.size
        have HP3 := Lib.hid hP
        have HTk := Lib.hid hTk
        have HFX := Lib.hid hfx
        have HZ3 := Lib.hid hZ
        have HB3 := Lib.hid hB
        have HX3 := Lib.hid hx
        have HE1 := Lib.hid he1
        have HROW := Lib.hid (row_keep hx (fun p e => hra p e) HR.out)
        have KI := Lib.hid fun W (y : Ext wr W) => parse_is (signsL k) pb tk l2 W a len cap h1 h2 (HROW.out.ext y) (HP3.out.ext y)
        unfold parseF at hpm
        cases hi : isT (signsL k) (tk :: l2) with
        | false =>
          rw [if_neg (by rw [hi]; simp)] at hpm
          cases hpm
          rw [hi] at KI
          clear hi hP hTk hfx hZ hB hx he1
          go_wp2_with fail
          refine (KI.out _ (by (exact eX))).mono ?_
          rintro e w2 ⟨rfl, x2⟩
          have hB2 := HB3.out.ext x2
          have hZ2 := HZ3.out.ext x2
          obtain ⟨c0, c1, c2, c3, c4, c5, c6, c7⟩ := hB2.eight
          obtain ⟨z0, z1, z2, z3, z4, z5, z6, z7⟩ := hZ2.eight
          obtain ⟨f0, f1, f2, f3, f4, f5, f6, f7⟩ := hZ2.frozen8
          have hlz2 := hZ2.lt
          have HZ9 := Lib.hid (hZ2.lay8 (u0 := .int .u8 x.k) (u1 := .int .u8 x.op) (u2 := .int .i64 x.pos) (u3 := .int .i64 x.n) (u4 := .string x.name) (u5 := .string x.arg) (u6 := .string x.exn) (u7 := .slice ak nk ck))
          have X2 := Lib.hid x2
          clear hB2 hZ2 x2
          go_wp2_with fail
          have Y2 := HX3.out.then_ X2.out
          refine ret8 HZ9.out (fun ⟨r0, r1, r2, r3, r4, r5, r6, r7⟩ => by simp [results, Tryz.results116, go_sem, r0, r1, r2, r3, r4, r5, r6, r7]) rfl ⟨Y2.set8 (.inr (Nat.le_refl _)), _, rfl, ⟨ak, nk, ck, rfl, HFX.out, k1, k2, ?_⟩, (HP3.out.ext X2.out).set8 hlt⟩
          exact ((HTk.out.ext X2.out).set8 (.inl (Nat.le_refl _))).off fun b _ hb => .inl (Nat.le_of_lt hb)
        | true =>
          rw [if_pos hi] at hpm
          rw [hi] at KI
          have hk6 : tk.k ≠ 6 := isT_kind hi
          obtain ⟨hl2, he2⟩ := he1.tail_ne hk6
          obtain ⟨tk', r', e', -, hsg, -⟩ := isT_ne hi
          cases e'
          obtain ⟨j, hj, hjx, hop, hns⟩ := sign_at (by omega) hsg
          have KT := Lib.hid fun W (y : Ext wr W) => parse_take pb tk l2 W (HP3.out.ext y)
          have HJX := Lib.hid hjx
          have HPM := Lib.hid hpm
          have HOP := Lib.hid (And.intro hop hns)
          have HE2 := Lib.hid he2
          have HL2 := Lib.hid hl2
          clear hi hP hTk hfx hZ hB hx he1 hjx hpm hop hns he2 hl2 hsg
          go_wp2_with fail
          refine (KI.out _ (by (exact eX))).mono ?_
          rintro e w2 ⟨rfl, x2⟩
          go_wp2_with fail
          refine (KT.out _ (by (exact eX))).mono ?_
          rintro e w3 ⟨rfl, x3, hp3⟩
          have y3 : ExtX (· = pb) wr w3 := (ExtX.of x2).trans x3
          have P3 := hp3 HL2.out
          obtain ⟨W4, hW4⟩ : ∃ W4, W4 = w3.alloc (.cells #[.int .u8 tk.k, .string tk.text, .int .i64 tk.pos] 37) := ⟨_, rfl⟩
          have y4 : ExtX (· = pb) wr W4 := by rw [hW4]; exact y3.alloc _
          have P4 : Prs W4 pb l2 := by rw [hW4]; exact P3.alloc _
          have q1 : W4.cell? ⟨w3.heap.size, 1, none⟩ = some (.string tk.text) := by rw [hW4]; exact tkcells_at w3 tk.k tk.text tk.pos _ 1 _ rfl
          have hl4 : w3.heap.size < W4.heap.size := by rw [hW4]; simp
          have hl3 := y3.size
          have hB4 := HB3.out.nez y4 (by omega)
          have hZ4 := HZ3.out.nez y4 (by omega)
          have hT4 := HTk.out.extx (X := (· = pb)) y4 (fun b e => .inl (by have e : b = pb := e; omega))
          have HP4 := Lib.hid P4
          have Y4 := Lib.hid y4
          have HW4 := Lib.hid hW4
          have c0 := fun W (h : ExtX (· = pb) W4 W) => (hB4.nez h (by omega)).eight.1
          have c1 := fun W (h : ExtX (· = pb) W4 W) => (hB4.nez h (by omega)).eight.2.1
          have c2 := fun W (h : ExtX (· = pb) W4 W) => (hB4.nez h (by omega)).eight.2.2.1
          have c3 := fun W (h : ExtX (· = pb) W4 W) => (hB4.nez h (by omega)).eight.2.2.2.1
          have c4 := fun W (h : ExtX (· = pb) W4 W) => (hB4.nez h (by omega)).eight.2.2.2.2.1
          have c5 := fun W (h : ExtX (· = pb) W4 W) => (hB4.nez h (by omega)).eight.2.2.2.2.2.1
          have c6 := fun W (h : ExtX (· = pb) W4 W) => (hB4.nez h (by omega)).eight.2.2.2.2.2.2.1
          have c7 := fun W (h : ExtX (· = pb) W4 W) => (hB4.nez h (by omega)).eight.2.2.2.2.2.2.2
          have n1 := fun W (h : ExtX (· = pb) W4 W) => h.cell (p := ⟨w3.heap.size, 1, none⟩) (show ¬ w3.heap.size = pb by omega) q1
          have HB4 := Lib.hid hB4
          have HZ4 := Lib.hid hZ4
          have HT4 := Lib.hid hT4
          clear hB4 hZ4 hT4 q1 y4 P4 y3 P3 hp3 x3 x2
          cases e5 : parseF m (.lvl (k + 1)) l2 with
          | none => have := HPM.out; rw [List.tail_cons, e5] at this; cases this
          | some r5 =>
            have KP5 := Lib.hid fun W (hP : Prs W pb l2) => HF.out m (by omega) pb W l2 r5 hP HE2.out e5
            have hpm := HPM.out
            rw [List.tail_cons, e5] at hpm
            cases r5 with
            | error l' =>
              cases hpm
              clear e5
              go_upto_region 4 with fail
              rw [← hW4]
              clear hW4
              refine wp_region_held_drew (S := fun w' => ExtX (· = pb) W4 w') (by kernel_rfl) (by (try dsimp only); (exact xX)) (fun hHeld => ?_)
              refine tK 0 (v := ?_) ?_ ?_;rotate_left;(focus (intro w hSw;(try dsimp only at hSw);go_simp;(try with_reducible rfl)));try simp only [Act.put,pA,pB,pC]
              refine tK 1 (v := ?_) ?_ ?_;rotate_left;(focus (intro w hSw;(try dsimp only at hSw);go_simp;(try with_reducible rfl)));try simp only [Act.put,pA,pB,pC]
              refine tK 2 (v := ?_) ?_ ?_;rotate_left;(focus (intro w hSw;(try dsimp only at hSw);go_simp;(try with_reducible rfl)));try simp only [Act.put,pA,pB,pC]
              refine tK 3 (v := ?_) ?_ ?_;rotate_left;(focus (intro w hSw;(try dsimp only at hSw);go_simp;(try with_reducible rfl)));try simp only [Act.put,pA,pB,pC]
              refine held_do 4 rfl (by kernel_rfl) (by rfl) (fun K hK => ?_); go_simp; (first | (refine (KP5.out _ (by have := HP4.out; (exact prX))).mono ?_; intro e w5 hh; obtain ⟨rfl, x5⟩ := hh.error; exact ⟨rfl, (HX3.out.trans Y4.out).trans ((by (exact xX) : ExtX (· = pb) W4 _).trans x5), rfl⟩))
            | ok p5 =>
              obtain ⟨⟨xb, kb⟩, l3⟩ := p5
              rw [andThen_ok] at hpm
              have he3 : Ended l3 := (parseF_told HE2.out e5).1
              have hln : l3.length < l2.length := (parseF_told HE2.out e5).2
              have HPM5 := Lib.hid hpm
              have HE3 := Lib.hid he3
              have hl41 : w1.heap.size < W4.heap.size := HB4.out.lt
              have hl40 : w.heap.size < W4.heap.size := HZ4.out.lt
              have hput : putT tk.text (.mk x ks) (.mk xb kb) = .mk { hd0 9 x.pos with op := (j : Int) + 1 } [.mk x ks, .mk xb kb] := by
                unfold putT
                rw [if_neg HOP.out.2, HOP.out.1]
                rfl
              have HPUT := Lib.hid hput
              obtain ⟨k0, k1', k2', k3, k4, k5, k6, k7⟩ := HB4.out.eight
              have n2 := fun W (h : ExtX (fun b => b = pb ∨ b = w1.heap.size) W4 W) => h.cell (p := ⟨w3.heap.size, 1, none⟩) (show ¬ (w3.heap.size = pb ∨ w3.heap.size = w1.heap.size) by omega) (n1 W4 (ExtX.refl _))
              clear e5 hpm he3 hput c0 c1 c2 c3 c4 c5 c6 c7 n1
              go_upto_region 4 with fail
              rw [← hW4]
              clear hW4
              refine wp_region_held_drew (S := fun w' => ExtX (fun b => b = pb ∨ b = w1.heap.size) W4 w') (by kernel_rfl) (by (try dsimp only); (exact xX)) (fun hHeld => ?_)
              refine tK 0 (v := ?_) ?_ ?_;rotate_left;(focus (intro w hSw;(try dsimp only at hSw);go_simp;(try with_reducible rfl)));try simp only [Act.put,pA,pB,pC]
              refine tK 1 (v := ?_) ?_ ?_;rotate_left;(focus (intro w hSw;(try dsimp only at hSw);go_simp;(try with_reducible rfl)));try simp only [Act.put,pA,pB,pC]
              refine tK 3 (v := ?_) ?_ ?_;rotate_left;(focus (intro w hSw;(try dsimp only at hSw);go_simp;(try with_reducible rfl)));try simp only [Act.put,pA,pB,pC]
              refine wpAnyH_ready (rs := [2, 4]) (by kernel_rfl) (by simp) ?_
              refine held_cons 2 rfl (by rfl) (fun K hK => ?_) (held_cons 4 rfl (by rfl) (fun K hK => ?_) AllReadyH.nil)
              go_simp; refine hK.out _ _ (by (try dsimp only); (exact xX)) (fun hHeld => ?_); clear hK K; try simp only [Act.put,pA,pB,pC]
              refine held_do 4 rfl (by kernel_rfl) (by rfl) (fun K hK => ?_); go_simp; (first | (go_at_call 118; refine (KO.out _ (by (exact eX))).mono ?_; rintro e w6 ⟨g6, rfl, h6, x6⟩; have y6 : ExtX (· = pb) W4 w6 := ExtX.then_ y5 ((by (exact eX) : Ext w5 _).trans x6); have z6 := y6.mono (A' := fun b => b = pb ∨ b = w1.heap.size) (fun b h => .inl h); have hB6 := HB4.out.nez y6 (by omega); obtain ⟨d0, d1, d2, d3, d4, d5, d6, d7⟩ := hB6.eight; obtain ⟨f0, f1, f2, f3, f4, f5, f6, f7⟩ := hB6.frozen8; have hl6 := hB6.lt; have HB6 := Lib.hid hB6; have H6 := Lib.hid h6; have HP6 := Lib.hid (hp5.ext ((by (exact eX) : Ext w5 _).trans x6)); clear hB6 h6) | (refine (KP5.out _ (by have := HP4.out; (exact prX))).mono ?_; intro e w5 hh; obtain ⟨v5, rfl, ⟨ab, nb, cb, rfl, fb, b1, b2, hTb⟩, hp5, x5⟩ := hh.ok; have y5 : ExtX (· = pb) W4 w5 := ((ExtX.refl W4).drew).trans x5; have z5 := y5.mono (A' := fun b => b = pb ∨ b = w1.heap.size) (fun b h => .inl h); have hTb2 : IsTmsA (AvP w.heap.size w1.heap.size) w5 kb ab nb := hTb.off (fun b _ hb => by rcases hb with hb | hb <;> (simp; omega)); have hTk5 := HT4.out.extx (X := (· = pb)) y5 (fun b e => .inl (by have e : b = pb := e; omega)); have hs5 := y5.size; obtain ⟨e0, e1, e2, e3, e4, e5, e6, e7⟩ := (HB4.out.nez y5 (by omega)).eight; have KO := Lib.hid fun W (y : Ext w5 W) => parse_op (AvP w.heap.size w1.heap.size) tk.text j hj HJX.out x xb ks kb ak ab nk nb ck cb W k1 k2 b1 b2 HFX.out fb (hTk5.ext y) (hTb2.ext y) (fun b hb => by have := y.size; rcases hb with hb | hb <;> omega); clear hTb hTb2 hTk5 hh)); (try (focus (go_wp2_with fail))); refine hK.out _ _ (by (try dsimp only); (exact xX)) (fun hHeld => ?_); clear hK K; try simp only [Act.put,pA,pB,pC]
              refine held_do 5 rfl (by kernel_rfl) (by rfl) (fun K hK => ?_); go_simp; (first | (go_at_call 118; refine (KO.out _ (by (exact eX))).mono ?_; rintro e w6 ⟨g6, rfl, h6, x6⟩; have y6 : ExtX (· = pb) W4 w6 := ExtX.then_ y5 ((by (exact eX) : Ext w5 _).trans x6); have z6 := y6.mono (A' := fun b => b = pb ∨ b = w1.heap.size) (fun b h => .inl h); have hB6 := HB4.out.nez y6 (by omega); obtain ⟨d0, d1, d2, d3, d4, d5, d6, d7⟩ := hB6.eight; obtain ⟨f0, f1, f2, f3, f4, f5, f6, f7⟩ := hB6.frozen8; have hl6 := hB6.lt; have HB6 := Lib.hid hB6; have H6 := Lib.hid h6; have HP6 := Lib.hid (hp5.ext ((by (exact eX) : Ext w5 _).trans x6)); clear hB6 h6) | (refine (KP5.out _ (by have := HP4.out; (exact prX))).mono ?_; intro e w5 hh; obtain ⟨v5, rfl, ⟨ab, nb, cb, rfl, fb, b1, b2, hTb⟩, hp5, x5⟩ := hh.ok; have y5 : ExtX (· = pb) W4 w5 := ((ExtX.refl W4).drew).trans x5; have z5 := y5.mono (A' := fun b => b = pb ∨ b = w1.heap.size) (fun b h => .inl h); have hTb2 : IsTmsA (AvP w.heap.size w1.heap.size) w5 kb ab nb := hTb.off (fun b _ hb => by rcases hb with hb | hb <;> (simp; omega)); have hTk5 := HT4.out.extx (X := (· = pb)) y5 (fun b e => .inl (by have e : b = pb := e; omega)); have hs5 := y5.size; obtain ⟨e0, e1, e2, e3, e4, e5, e6, e7⟩ := (HB4.out.nez y5 (by omega)).eight; have KO := Lib.hid fun W (y : Ext w5 W) => parse_op (AvP w.heap.size w1.heap.size) tk.text j hj HJX.out x xb ks kb ak ab nk nb ck cb W k1 k2 b1 b2 HFX.out fb (hTk5.ext y) (hTb2.ext y) (fun b hb => by have := y.size; rcases hb with hb | hb <;> omega); clear hTb hTb2 hTk5 hh)); (try (focus (go_wp2_with fail))); refine hK.out _ _ (by (try dsimp only); (exact xX)) (fun hHeld => ?_); clear hK K; try simp only [Act.put,pA,pB,pC]
              refine held_do 6 rfl (by kernel_rfl) (by rfl) (fun K hK => ?_); go_simp; refine hK.out _ _ (by (try dsimp only); (exact xX)) (fun hHeld => ?_); clear hK K; try simp only [Act.put,pA,pB,pC]
              refine wpAnyH_done (by kernel_rfl) ?_ _
              rotate_left 1
              go_simp; (first | (go_at_call 118; refine (KO.out _ (by (exact eX))).mono ?_; rintro e w6 ⟨g6, rfl, h6, x6⟩; have y6 : ExtX (· = pb) W4 w6 := ExtX.then_ y5 ((by (exact eX) : Ext w5 _).trans x6); have z6 := y6.mono (A' := fun b => b = pb ∨ b = w1.heap.size) (fun b h => .inl h); have hB6 := HB4.out.nez y6 (by omega); obtain ⟨d0, d1, d2, d3, d4, d5, d6, d7⟩ := hB6.eight; obtain ⟨f0, f1, f2, f3, f4, f5, f6, f7⟩ := hB6.frozen8; have hl6 := hB6.lt; have HB6 := Lib.hid hB6; have H6 := Lib.hid h6; have HP6 := Lib.hid (hp5.ext ((by (exact eX) : Ext w5 _).trans x6)); clear hB6 h6) | (refine (KP5.out _ (by have := HP4.out; (exact prX))).mono ?_; intro e w5 hh; obtain ⟨v5, rfl, ⟨ab, nb, cb, rfl, fb, b1, b2, hTb⟩, hp5, x5⟩ := hh.ok; have y5 : ExtX (· = pb) W4 w5 := ((ExtX.refl W4).drew).trans x5; have z5 := y5.mono (A' := fun b => b = pb ∨ b = w1.heap.size) (fun b h => .inl h); have hTb2 : IsTmsA (AvP w.heap.size w1.heap.size) w5 kb ab nb := hTb.off (fun b _ hb => by rcases hb with hb | hb <;> (simp; omega)); have hTk5 := HT4.out.extx (X := (· = pb)) y5 (fun b e => .inl (by have e : b = pb := e; omega)); have hs5 := y5.size; obtain ⟨e0, e1, e2, e3, e4, e5, e6, e7⟩ := (HB4.out.nez y5 (by omega)).eight; have KO := Lib.hid fun W (y : Ext w5 W) => parse_op (AvP w.heap.size w1.heap.size) tk.text j hj HJX.out x xb ks kb ak ab nk nb ck cb W k1 k2 b1 b2 HFX.out fb (hTk5.ext y) (hTb2.ext y) (fun b hb => by have := y.size; rcases hb with hb | hb <;> omega); clear hTb hTb2 hTk5 hh)); (try (focus (go_wp2_with fail))); refine hK.out _ _ (by (try dsimp only); (exact xX)) (fun hHeld => ?_); clear hK K; try simp only [Act.put,pA,pB,pC]
              refine held_do 2 rfl (by kernel_rfl) (by rfl) (fun K hK => ?_); go_simp; refine hK.out _ _ (by (try dsimp only); (exact xX)) (fun hHeld => ?_); clear hK K; try simp only [Act.put,pA,pB,pC]
              refine held_do 5 rfl (by kernel_rfl) (by rfl) (fun K hK => ?_); go_simp; (first | (go_at_call 118; refine (KO.out _ (by (exact eX))).mono ?_; rintro e w6 ⟨g6, rfl, h6, x6⟩; have y6 : ExtX (· = pb) W4 w6 := ExtX.then_ y5 ((by (exact eX) : Ext w5 _).trans x6); have z6 := y6.mono (A' := fun b => b = pb ∨ b = w1.heap.size) (fun b h => .inl h); have hB6 := HB4.out.nez y6 (by omega); obtain ⟨d0, d1, d2, d3, d4, d5, d6, d7⟩ := hB6.eight; obtain ⟨f0, f1, f2, f3, f4, f5, f6, f7⟩ := hB6.frozen8; have hl6 := hB6.lt; have HB6 := Lib.hid hB6; have H6 := Lib.hid h6; have HP6 := Lib.hid (hp5.ext ((by (exact eX) : Ext w5 _).trans x6)); clear hB6 h6) | (refine (KP5.out _ (by have := HP4.out; (exact prX))).mono ?_; intro e w5 hh; obtain ⟨v5, rfl, ⟨ab, nb, cb, rfl, fb, b1, b2, hTb⟩, hp5, x5⟩ := hh.ok; have y5 : ExtX (· = pb) W4 w5 := ((ExtX.refl W4).drew).trans x5; have z5 := y5.mono (A' := fun b => b = pb ∨ b = w1.heap.size) (fun b h => .inl h); have hTb2 : IsTmsA (AvP w.heap.size w1.heap.size) w5 kb ab nb := hTb.off (fun b _ hb => by rcases hb with hb | hb <;> (simp; omega)); have hTk5 := HT4.out.extx (X := (· = pb)) y5 (fun b e => .inl (by have e : b = pb := e; omega)); have hs5 := y5.size; obtain ⟨e0, e1, e2, e3, e4, e5, e6, e7⟩ := (HB4.out.nez y5 (by omega)).eight; have KO := Lib.hid fun W (y : Ext w5 W) => parse_op (AvP w.heap.size w1.heap.size) tk.text j hj HJX.out x xb ks kb ak ab nk nb ck cb W k1 k2 b1 b2 HFX.out fb (hTk5.ext y) (hTb2.ext y) (fun b hb => by have := y.size; rcases hb with hb | hb <;> omega); clear hTb hTb2 hTk5 hh)); (try (focus (go_wp2_with fail))); refine hK.out _ _ (by (try dsimp only); (exact xX)) (fun hHeld => ?_); clear hK K; try simp only [Act.put,pA,pB,pC]
              refine held_do 6 rfl (by kernel_rfl) (by rfl) (fun K hK => ?_); go_simp; refine hK.out _ _ (by (try dsimp only); (exact xX)) (fun hHeld => ?_); clear hK K; try simp only [Act.put,pA,pB,pC]
              refine wpAnyH_done (by kernel_rfl) ?_ _
              rotate_left 1
              all_goals
                have X9 := HX3.out.trans (Y4.out.trans y6)
                go_wp2_with fail
                go_roundg l3.length
                case rel =>
                  refine ⟨m, { hd0 9 x.pos with op := (j : Int) + 1 }, [.mk x ks, .mk xb kb], some ⟨g6, 0, none⟩, 2, 2, l3, rfl, by omega, by have := HPM5.out; rw [show textT (tk :: l2) = tk.text from rfl, HPUT.out] at this; exact this, HE3.out, HP6.out.set8 (by omega), HB6.out.lay8, hd9_fits HFX.out (by omega) (by omega) 9 (by omega) (by omega), Nat.le_refl _, by omega, H6.out.set8 (.inr rfl), (HZ4.out.nez y6 (by omega)).far8 (by omega), X9.set8 (.inr (by omega))⟩
                case measure => simp only [List.length_cons]; omega
end Go.Proofs.YtaioeailgknfjaaGreatDoor
namespace Go.Proofs.YtaioeailgknfjaaGreatDoor
open Go Go.RowKit Go.Sort

set_option maxRecDepth 8000 in
set_option maxHeartbeats 8000000 in
theorem parse_apply (f : Nat) (hF : ∀ g, g ≤ f → Does 139 .unary g) : Does 131 (.lvl 4) (f + 1) := by
  intro pb w l r h he hp
  have hp2 : andThen (parseF f .unary l) (fun a l1 => parseF f (.args a) l1) = some r := by
    unfold parseF at hp
    rw [if_neg (by omega), if_neg (by omega)] at hp
    exact hp
  have hlt := h.lt
  cases e1 : parseF f .unary l with
  | none => rw [e1] at hp2; cases hp2
  | some r1 =>
    have KP := Lib.hid fun W (x : Ext w W) => hF f (Nat.le_refl _) pb W l r1 (h.ext x) he e1
    rw [e1] at hp2
    cases r1 with
    | error l' =>
      cases hp2
      clear hp e1 h hF
      go_enter Tryz.func131, Tryz.ntmps131
      go_wp2_with fail
      refine (KP.out _ (by (exact eX))).mono ?_
      intro e w1 hh
      obtain ⟨rfl, x1⟩ := hh.error
      exact ⟨rfl, ((ExtX.refl w).alloc _).trans x1, rfl⟩
    | ok p =>
      obtain ⟨t0, l0⟩ := p
      rw [andThen_ok] at hp2
      have he0 : Ended l0 := (parseF_told he e1).1
      have HF := Lib.hid hF
      have HP2 := Lib.hid hp2
      clear hp e1 h hF hp2
      go_enter Tryz.func131, Tryz.ntmps131
      go_wp2_with fail
      refine (KP.out _ (by (exact eX))).mono ?_
      intro e w1 hh
      obtain ⟨v, rfl, ⟨aa, na, ca, rfl, hf0, g1, g2, hT0⟩, hp1, x1⟩ := hh.ok
      rw [World.size_alloc] at hT0
      have hZ1 := (Blk.new w 28 #[.int .u8 0, .int .u8 0, .int .i64 0, .int .i64 0, .string ⟨#[]⟩, .string ⟨#[]⟩, .string ⟨#[]⟩, .slice none 0 0]).extx x1 (by omega)
      have hs1 := hZ1.lt
      have y1 : ExtX (· = pb) w w1 := ((ExtX.refl w).alloc _).trans x1
      have HT0 := Lib.hid hT0
      have HF0 := Lib.hid hf0
      have HP1 := Lib.hid hp1
      have HZ1 := Lib.hid hZ1
      have Y1 := Lib.hid y1
      clear hh hT0 hf0 hp1 hZ1 x1 y1
      go_wp2_with fail
      go_loopg [6] l0.length (fun g u wr => ∃ (m : Nat) (x : Hd) (ks : List Tm) (ak : Option Addr) (nk ck : Nat) (l1 : List Tk), g = l1.length ∧ m ≤ f ∧ parseF m (.args (.mk x ks)) l1 = some r ∧ Ended l1 ∧ Prs wr pb l1 ∧ Blk wr w1.heap.size 28 #[.int .u8 x.k, .int .u8 x.op, .int .i64 x.pos, .int .i64 x.n, .string x.name, .string x.arg, .string x.exn, .slice ak nk ck] ∧ x.Fits ∧ nk ≤ ck ∧ ck ≤ 9223372036854775807 ∧ IsTmsA (AvP w.heap.size w1.heap.size) wr ks ak nk ∧ Blk wr w.heap.size 28 #[.int .u8 0, .int .u8 0, .int .i64 0, .int .i64 0, .string ⟨#[]⟩, .string ⟨#[]⟩, .string ⟨#[]⟩, .slice none 0 0] ∧ ExtX (· = pb) w wr)
      case atStart =>
        refine ⟨f, t0.head, t0.kids, aa, na, ca, l0, rfl, Nat.le_refl _, by have := HP2.out; cases t0; exact this, he0, by have := HP1.out; (exact prX), Blk.new w1 _ _, HF0.out, g1, g2, (HT0.out.off fun b hb h => by rcases h with h | h <;> omega).ext ((Ext.refl w1).alloc _), HZ1.out.alloc _, Y1.out.alloc _⟩
      case round =>
        obtain ⟨m, x, ks, ak, nk, ck, l1, rfl, hm, hpm, he1, hP, hB, hfx, k1, k2, hTk, hZ, hx⟩ := hrel
        cases m with
        | zero => cases hpm
        | succ m =>
        cases l1 with
        | nil => cases he1
        | cons tk l2 =>
        have hlg := hB.lt
        have hlr := hx.size
        have HP3 := Lib.hid hP
        have HTk := Lib.hid hTk
        have HFX := Lib.hid hfx
        have HZ3 := Lib.hid hZ
        have HB3 := Lib.hid hB
        have HX3 := Lib.hid hx
        have HE1 := Lib.hid he1
        have KI := Lib.hid fun W (y : Ext wr W) => parse_begins pb tk l2 W (HP3.out.ext y)
        unfold parseF at hpm
        cases hi : beginsT (tk :: l2) with
        | false =>
          rw [if_neg (by rw [hi]; simp)] at hpm
          cases hpm
          rw [hi] at KI
          clear hi hP hTk hfx hZ hB hx he1
          go_wp2_with fail
          refine (KI.out _ (by (exact eX))).mono ?_
          rintro e w2 ⟨rfl, x2⟩
          have hB2 := HB3.out.ext x2
          have hZ2 := HZ3.out.ext x2
          obtain ⟨c0, c1, c2, c3, c4, c5, c6, c7⟩ := hB2.eight
          obtain ⟨z0, z1, z2, z3, z4, z5, z6, z7⟩ := hZ2.eight
          obtain ⟨f0, f1, f2, f3, f4, f5, f6, f7⟩ := hZ2.frozen8
          have hlz2 := hZ2.lt
          have HZ9 := Lib.hid (hZ2.lay8 (u0 := .int .u8 x.k) (u1 := .int .u8 x.op) (u2 := .int .i64 x.pos) (u3 := .int .i64 x.n) (u4 := .string x.name) (u5 := .string x.arg) (u6 := .string x.exn) (u7 := .slice ak nk ck))
          have X2 := Lib.hid x2
          clear hB2 hZ2 x2
          go_wp2_with fail
          have Y2 := HX3.out.then_ X2.out
          refine ret8 HZ9.out (fun ⟨r0, r1, r2, r3, r4, r5, r6, r7⟩ => by simp [results, Tryz.results131, go_sem, r0, r1, r2, r3, r4, r5, r6, r7]) rfl ⟨Y2.set8 (.inr (Nat.le_refl _)), _, rfl, ⟨ak, nk, ck, rfl, HFX.out, k1, k2, ?_⟩, (HP3.out.ext X2.out).set8 hlt⟩
          exact ((HTk.out.ext X2.out).set8 (.inl (Nat.le_refl _))).off fun b _ hb => .inl (Nat.le_of_lt hb)
        | true =>
          rw [if_pos hi] at hpm
          rw [hi] at KI
          have HPM := Lib.hid hpm
          clear hi hP hTk hfx hZ hB hx he1 hpm
          go_wp2_with fail
          refine (KI.out _ (by (exact eX))).mono ?_
          rintro e W4 ⟨rfl, x2⟩
          have y4 : ExtX (· = pb) wr W4 := ExtX.of x2
          have P4 : Prs W4 pb (tk :: l2) := HP3.out.ext x2
          have hB4 := HB3.out.ext x2
          have hZ4 := HZ3.out.ext x2
          have hT4 := HTk.out.ext x2
          have HP4 := Lib.hid P4
          have Y4 := Lib.hid y4
          have hl41 : w1.heap.size < W4.heap.size := hB4.lt
          have hl40 : w.heap.size < W4.heap.size := hZ4.lt
          have HB4 := Lib.hid hB4
          have HZ4 := Lib.hid hZ4
          have HT4 := Lib.hid hT4
          clear hB4 hZ4 hT4 y4 P4 x2
          cases e5 : parseF m .unary (tk :: l2) with
          | none => have := HPM.out; rw [e5] at this; cases this
          | some r5 =>
            have KP5 := Lib.hid fun W (hP : Prs W pb (tk :: l2)) => HF.out m (by omega) pb W (tk :: l2) r5 hP HE1.out e5
            have hpm := HPM.out
            rw [e5] at hpm
            cases r5 with
            | error l' =>
              cases hpm
              have c0 := fun W (h : ExtX (· = pb) W4 W) => (HB4.out.nez h (by omega)).eight.1
              have c1 := fun W (h : ExtX (· = pb) W4 W) => (HB4.out.nez h (by omega)).eight.2.1
              have c2 := fun W (h : ExtX (· = pb) W4 W) => (HB4.out.nez h (by omega)).eight.2.2.1
              have c3 := fun W (h : ExtX (· = pb) W4 W) => (HB4.out.nez h (by omega)).eight.2.2.2.1
              have c4 := fun W (h : ExtX (· = pb) W4 W) => (HB4.out.nez h (by omega)).eight.2.2.2.2.1
              have c5 := fun W (h : ExtX (· = pb) W4 W) => (HB4.out.nez h (by omega)).eight.2.2.2.2.2.1
              have c6 := fun W (h : ExtX (· = pb) W4 W) => (HB4.out.nez h (by omega)).eight.2.2.2.2.2.2.1
              have c7 := fun W (h : ExtX (· = pb) W4 W) => (HB4.out.nez h (by omega)).eight.2.2.2.2.2.2.2
              clear e5
              go_upto_region 3 with fail
              refine wp_region_held_drew (S := fun w' => ExtX (· = pb) W4 w') (by kernel_rfl) (by (try dsimp only); (exact xX)) (fun hHeld => ?_)
              refine tK 0 (v := ?_) ?_ ?_;rotate_left;(focus (intro w hSw;(try dsimp only at hSw);go_simp;(try with_reducible rfl)));try simp only [Act.put,pA,pB,pC]
              refine tK 1 (v := ?_) ?_ ?_;rotate_left;(focus (intro w hSw;(try dsimp only at hSw);go_simp;(try with_reducible rfl)));try simp only [Act.put,pA,pB,pC]
              refine tK 2 (v := ?_) ?_ ?_;rotate_left;(focus (intro w hSw;(try dsimp only at hSw);go_simp;(try with_reducible rfl)));try simp only [Act.put,pA,pB,pC]
              refine tK 3 (v := ?_) ?_ ?_;rotate_left;(focus (intro w hSw;(try dsimp only at hSw);go_simp;(try with_reducible rfl)));try simp only [Act.put,pA,pB,pC]
              refine tK 4 (v := ?_) ?_ ?_;rotate_left;(focus (intro w hSw;(try dsimp only at hSw);go_simp;(try with_reducible rfl)));try simp only [Act.put,pA,pB,pC]
              refine held_do 5 rfl (by kernel_rfl) (by rfl) (fun K hK => ?_); go_simp; (first | (refine (KP5.out _ (by have := HP4.out; (exact prX))).mono ?_; intro e w5 hh; obtain ⟨rfl, x5⟩ := hh.error; exact ⟨rfl, (HX3.out.trans Y4.out).trans ((by (exact xX) : ExtX (· = pb) W4 _).trans x5), rfl⟩))
            | ok p5 =>
              obtain ⟨⟨xb, kb⟩, l3⟩ := p5
              rw [andThen_ok] at hpm
              have he3 : Ended l3 := (parseF_told HE1.out e5).1
              have hln : l3.length < (tk :: l2).length := (parseF_told HE1.out e5).2
              have HPM5 := Lib.hid hpm
              have HE3 := Lib.hid he3
              obtain ⟨k0, k1', k2', k3, k4, k5, k6, k7⟩ := HB4.out.eight
              clear e5 hpm he3
              go_upto_region 3 with fail
              refine wp_region_held_drew (S := fun w' => ExtX (fun b => b = pb ∨ b = w1.heap.size) W4 w') (by kernel_rfl) (by (try dsimp only); (exact xX)) (fun hHeld => ?_)
              refine tK 0 (v := ?_) ?_ ?_;rotate_left;(focus (intro w hSw;(try dsimp only at hSw);go_simp;(try with_reducible rfl)));try simp only [Act.put,pA,pB,pC]
              refine tK 1 (v := ?_) ?_ ?_;rotate_left;(focus (intro w hSw;(try dsimp only at hSw);go_simp;(try with_reducible rfl)));try simp only [Act.put,pA,pB,pC]
              refine tK 4 (v := ?_) ?_ ?_;rotate_left;(focus (intro w hSw;(try dsimp only at hSw);go_simp;(try with_reducible rfl)));try simp only [Act.put,pA,pB,pC]
              refine wpAnyH_ready (rs := [2, 3, 5]) (by kernel_rfl) (by simp) ?_
              refine held_cons 2 rfl (by rfl) (fun K hK => ?_) (held_cons 3 rfl (by rfl) (fun K hK => ?_) (held_cons 5 rfl (by rfl) (fun K hK => ?_) AllReadyH.nil))
              go_simp; refine hK.out _ _ (by (try dsimp only); (exact xX)) (fun hHeld => ?_); clear hK K; try simp only [Act.put,pA,pB,pC]
              refine wpAnyH_ready (rs := [3, 5]) (by kernel_rfl) (by simp) ?_
              refine held_cons 3 rfl (by rfl) (fun K hK => ?_) (held_cons 5 rfl (by rfl) (fun K hK => ?_) AllReadyH.nil)
              go_simp; refine hK.out _ _ (by (try dsimp only); (exact xX)) (fun hHeld => ?_); clear hK K; try simp only [Act.put,pA,pB,pC]
              refine held_do 5 rfl (by kernel_rfl) (by rfl) (fun K hK => ?_); go_simp; (first | (refine (KP5.out _ (by have := HP4.out; (exact prX))).mono ?_; intro e w5 hh; obtain ⟨v5, rfl, ⟨ab, nb, cb, rfl, fb, b1, b2, hTb⟩, hp5, x5⟩ := hh.ok; have y5 : ExtX (· = pb) W4 w5 := ((ExtX.refl W4).drew).trans x5; have z5 := y5.mono (A' := fun b => b = pb ∨ b = w1.heap.size) (fun b h => .inl h); have hTb2 : IsTmsA (AvP w.heap.size w1.heap.size) w5 kb ab nb := hTb.off (fun b _ hb => by rcases hb with hb | hb <;> (simp; omega)); have HTk5 := Lib.hid (HT4.out.extx (X := (· = pb)) y5 (fun b e => .inl (by have e : b = pb := e; omega))); have HTb2 := Lib.hid hTb2; have hs5 := y5.size; have hl51 : w1.heap.size < w5.heap.size := (by omega); obtain ⟨e0, e1, e2, e3, e4, e5, e6, e7⟩ := (HB4.out.nez y5 (by omega)).eight; clear hTb hTb2 hh)); (try (focus (go_wp2_with fail))); refine hK.out _ _ (by (try dsimp only); (exact xX)) (fun hHeld => ?_); clear hK K; try simp only [Act.put,pA,pB,pC]
              refine held_do 6 rfl (by kernel_rfl) (by rfl) (fun K hK => ?_); go_simp; refine hK.out _ _ (by (try dsimp only); (exact xX)) (fun hHeld => ?_); clear hK K; try simp only [Act.put,pA,pB,pC]
              refine held_do 7 rfl (by kernel_rfl) (by rfl) (fun K hK => ?_); go_simp; (first | (go_at_call 58; refine (parse_node _ _ _ _ _ _).mono ?_; rintro e w6 ⟨rfl, x6⟩; have hG6 := blk_top x6; have y56 : Ext w5 w6 := (by (exact eX) : Ext w5 _).trans x6; have y6 : ExtX (· = pb) W4 w6 := ExtX.then_ y5 y56; have z6 := y6.mono (A' := fun b => b = pb ∨ b = w1.heap.size) (fun b h => .inl h); have hB6 := HB4.out.nez y6 (by omega); obtain ⟨d0, d1, d2, d3, d4, d5, d6, d7⟩ := hB6.eight; obtain ⟨f0, f1, f2, f3, f4, f5, f6, f7⟩ := hB6.frozen8; have hl6 := hB6.lt; have HB6 := Lib.hid hB6; have hrow6 := pair_row (A := AvP w.heap.size w1.heap.size) y56 k1 k2 b1 b2 HFX.out fb HTk5.out HTb2.out (fun hb => by rcases hb with hb | hb <;> omega) hG6; have H6 := Lib.hid hrow6; have HP6 := Lib.hid (hp5.ext y56); clear hB6 hG6 hrow6) | (refine (KP5.out _ (by have := HP4.out; (exact prX))).mono ?_; intro e w5 hh; obtain ⟨v5, rfl, ⟨ab, nb, cb, rfl, fb, b1, b2, hTb⟩, hp5, x5⟩ := hh.ok; have y5 : ExtX (· = pb) W4 w5 := ((ExtX.refl W4).drew).trans x5; have z5 := y5.mono (A' := fun b => b = pb ∨ b = w1.heap.size) (fun b h => .inl h); have hTb2 : IsTmsA (AvP w.heap.size w1.heap.size) w5 kb ab nb := hTb.off (fun b _ hb => by rcases hb with hb | hb <;> (simp; omega)); have HTk5 := Lib.hid (HT4.out.extx (X := (· = pb)) y5 (fun b e => .inl (by have e : b = pb := e; omega))); have HTb2 := Lib.hid hTb2; have hs5 := y5.size; have hl51 : w1.heap.size < w5.heap.size := (by omega); obtain ⟨e0, e1, e2, e3, e4, e5, e6, e7⟩ := (HB4.out.nez y5 (by omega)).eight; clear hTb hTb2 hh)); (try (focus (go_wp2_with fail))); refine hK.out _ _ (by (try dsimp only); (exact xX)) (fun hHeld => ?_); clear hK K; try simp only [Act.put,pA,pB,pC]
              refine held_do 8 rfl (by kernel_rfl) (by rfl) (fun K hK => ?_); go_simp; refine hK.out _ _ (by (try dsimp only); (exact xX)) (fun hHeld => ?_); clear hK K; try simp only [Act.put,pA,pB,pC]
              refine wpAnyH_done (by kernel_rfl) ?_ _
              rotate_left 1
              go_simp; (first | (refine (KP5.out _ (by have := HP4.out; (exact prX))).mono ?_; intro e w5 hh; obtain ⟨v5, rfl, ⟨ab, nb, cb, rfl, fb, b1, b2, hTb⟩, hp5, x5⟩ := hh.ok; have y5 : ExtX (· = pb) W4 w5 := ((ExtX.refl W4).drew).trans x5; have z5 := y5.mono (A' := fun b => b = pb ∨ b = w1.heap.size) (fun b h => .inl h); have hTb2 : IsTmsA (AvP w.heap.size w1.heap.size) w5 kb ab nb := hTb.off (fun b _ hb => by rcases hb with hb | hb <;> (simp; omega)); have HTk5 := Lib.hid (HT4.out.extx (X := (· = pb)) y5 (fun b e => .inl (by have e : b = pb := e; omega))); have HTb2 := Lib.hid hTb2; have hs5 := y5.size; have hl51 : w1.heap.size < w5.heap.size := (by omega); obtain ⟨e0, e1, e2, e3, e4, e5, e6, e7⟩ := (HB4.out.nez y5 (by omega)).eight; clear hTb hTb2 hh)); (try (focus (go_wp2_with fail))); refine hK.out _ _ (by (try dsimp only); (exact xX)) (fun hHeld => ?_); clear hK K; try simp only [Act.put,pA,pB,pC]
              refine held_do 3 rfl (by kernel_rfl) (by rfl) (fun K hK => ?_); go_simp; refine hK.out _ _ (by (try dsimp only); (exact xX)) (fun hHeld => ?_); clear hK K; try simp only [Act.put,pA,pB,pC]
              refine held_do 6 rfl (by kernel_rfl) (by rfl) (fun K hK => ?_); go_simp; refine hK.out _ _ (by (try dsimp only); (exact xX)) (fun hHeld => ?_); clear hK K; try simp only [Act.put,pA,pB,pC]
              refine held_do 7 rfl (by kernel_rfl) (by rfl) (fun K hK => ?_); go_simp; (first | (go_at_call 58; refine (parse_node _ _ _ _ _ _).mono ?_; rintro e w6 ⟨rfl, x6⟩; have hG6 := blk_top x6; have y56 : Ext w5 w6 := (by (exact eX) : Ext w5 _).trans x6; have y6 : ExtX (· = pb) W4 w6 := ExtX.then_ y5 y56; have z6 := y6.mono (A' := fun b => b = pb ∨ b = w1.heap.size) (fun b h => .inl h); have hB6 := HB4.out.nez y6 (by omega); obtain ⟨d0, d1, d2, d3, d4, d5, d6, d7⟩ := hB6.eight; obtain ⟨f0, f1, f2, f3, f4, f5, f6, f7⟩ := hB6.frozen8; have hl6 := hB6.lt; have HB6 := Lib.hid hB6; have hrow6 := pair_row (A := AvP w.heap.size w1.heap.size) y56 k1 k2 b1 b2 HFX.out fb HTk5.out HTb2.out (fun hb => by rcases hb with hb | hb <;> omega) hG6; have H6 := Lib.hid hrow6; have HP6 := Lib.hid (hp5.ext y56); clear hB6 hG6 hrow6) | (refine (KP5.out _ (by have := HP4.out; (exact prX))).mono ?_; intro e w5 hh; obtain ⟨v5, rfl, ⟨ab, nb, cb, rfl, fb, b1, b2, hTb⟩, hp5, x5⟩ := hh.ok; have y5 : ExtX (· = pb) W4 w5 := ((ExtX.refl W4).drew).trans x5; have z5 := y5.mono (A' := fun b => b = pb ∨ b = w1.heap.size) (fun b h => .inl h); have hTb2 : IsTmsA (AvP w.heap.size w1.heap.size) w5 kb ab nb := hTb.off (fun b _ hb => by rcases hb with hb | hb <;> (simp; omega)); have HTk5 := Lib.hid (HT4.out.extx (X := (· = pb)) y5 (fun b e => .inl (by have e : b = pb := e; omega))); have HTb2 := Lib.hid hTb2; have hs5 := y5.size; have hl51 : w1.heap.size < w5.heap.size := (by omega); obtain ⟨e0, e1, e2, e3, e4, e5, e6, e7⟩ := (HB4.out.nez y5 (by omega)).eight; clear hTb hTb2 hh)); (try (focus (go_wp2_with fail))); refine hK.out _ _ (by (try dsimp only); (exact xX)) (fun hHeld => ?_); clear hK K; try simp only [Act.put,pA,pB,pC]
              refine held_do 8 rfl (by kernel_rfl) (by rfl) (fun K hK => ?_); go_simp; refine hK.out _ _ (by (try dsimp only); (exact xX)) (fun hHeld => ?_); clear hK K; try simp only [Act.put,pA,pB,pC]
              refine wpAnyH_done (by kernel_rfl) ?_ _
              rotate_left 1
              go_simp; refine hK.out _ _ (by (try dsimp only); (exact xX)) (fun hHeld => ?_); clear hK K; try simp only [Act.put,pA,pB,pC]
              refine wpAnyH_ready (rs := [2, 5]) (by kernel_rfl) (by simp) ?_
              refine held_cons 2 rfl (by rfl) (fun K hK => ?_) (held_cons 5 rfl (by rfl) (fun K hK => ?_) AllReadyH.nil)
              go_simp; refine hK.out _ _ (by (try dsimp only); (exact xX)) (fun hHeld => ?_); clear hK K; try simp only [Act.put,pA,pB,pC]
              refine held_do 5 rfl (by kernel_rfl) (by rfl) (fun K hK => ?_); go_simp; (first | (refine (KP5.out _ (by have := HP4.out; (exact prX))).mono ?_; intro e w5 hh; obtain ⟨v5, rfl, ⟨ab, nb, cb, rfl, fb, b1, b2, hTb⟩, hp5, x5⟩ := hh.ok; have y5 : ExtX (· = pb) W4 w5 := ((ExtX.refl W4).drew).trans x5; have z5 := y5.mono (A' := fun b => b = pb ∨ b = w1.heap.size) (fun b h => .inl h); have hTb2 : IsTmsA (AvP w.heap.size w1.heap.size) w5 kb ab nb := hTb.off (fun b _ hb => by rcases hb with hb | hb <;> (simp; omega)); have HTk5 := Lib.hid (HT4.out.extx (X := (· = pb)) y5 (fun b e => .inl (by have e : b = pb := e; omega))); have HTb2 := Lib.hid hTb2; have hs5 := y5.size; have hl51 : w1.heap.size < w5.heap.size := (by omega); obtain ⟨e0, e1, e2, e3, e4, e5, e6, e7⟩ := (HB4.out.nez y5 (by omega)).eight; clear hTb hTb2 hh)); (try (focus (go_wp2_with fail))); refine hK.out _ _ (by (try dsimp only); (exact xX)) (fun hHeld => ?_); clear hK K; try simp only [Act.put,pA,pB,pC]
              refine held_do 6 rfl (by kernel_rfl) (by rfl) (fun K hK => ?_); go_simp; refine hK.out _ _ (by (try dsimp only); (exact xX)) (fun hHeld => ?_); clear hK K; try simp only [Act.put,pA,pB,pC]
              refine held_do 7 rfl (by kernel_rfl) (by rfl) (fun K hK => ?_); go_simp; (first | (go_at_call 58; refine (parse_node _ _ _ _ _ _).mono ?_; rintro e w6 ⟨rfl, x6⟩; have hG6 := blk_top x6; have y56 : Ext w5 w6 := (by (exact eX) : Ext w5 _).trans x6; have y6 : ExtX (· = pb) W4 w6 := ExtX.then_ y5 y56; have z6 := y6.mono (A' := fun b => b = pb ∨ b = w1.heap.size) (fun b h => .inl h); have hB6 := HB4.out.nez y6 (by omega); obtain ⟨d0, d1, d2, d3, d4, d5, d6, d7⟩ := hB6.eight; obtain ⟨f0, f1, f2, f3, f4, f5, f6, f7⟩ := hB6.frozen8; have hl6 := hB6.lt; have HB6 := Lib.hid hB6; have hrow6 := pair_row (A := AvP w.heap.size w1.heap.size) y56 k1 k2 b1 b2 HFX.out fb HTk5.out HTb2.out (fun hb => by rcases hb with hb | hb <;> omega) hG6; have H6 := Lib.hid hrow6; have HP6 := Lib.hid (hp5.ext y56); clear hB6 hG6 hrow6) | (refine (KP5.out _ (by have := HP4.out; (exact prX))).mono ?_; intro e w5 hh; obtain ⟨v5, rfl, ⟨ab, nb, cb, rfl, fb, b1, b2, hTb⟩, hp5, x5⟩ := hh.ok; have y5 : ExtX (· = pb) W4 w5 := ((ExtX.refl W4).drew).trans x5; have z5 := y5.mono (A' := fun b => b = pb ∨ b = w1.heap.size) (fun b h => .inl h); have hTb2 : IsTmsA (AvP w.heap.size w1.heap.size) w5 kb ab nb := hTb.off (fun b _ hb => by rcases hb with hb | hb <;> (simp; omega)); have HTk5 := Lib.hid (HT4.out.extx (X := (· = pb)) y5 (fun b e => .inl (by have e : b = pb := e; omega))); have HTb2 := Lib.hid hTb2; have hs5 := y5.size; have hl51 : w1.heap.size < w5.heap.size := (by omega); obtain ⟨e0, e1, e2, e3, e4, e5, e6, e7⟩ := (HB4.out.nez y5 (by omega)).eight; clear hTb hTb2 hh)); (try (focus (go_wp2_with fail))); refine hK.out _ _ (by (try dsimp only); (exact xX)) (fun hHeld => ?_); clear hK K; try simp only [Act.put,pA,pB,pC]
              refine held_do 8 rfl (by kernel_rfl) (by rfl) (fun K hK => ?_); go_simp; refine hK.out _ _ (by (try dsimp only); (exact xX)) (fun hHeld => ?_); clear hK K; try simp only [Act.put,pA,pB,pC]
              refine wpAnyH_done (by kernel_rfl) ?_ _
              rotate_left 1
              go_simp; (first | (refine (KP5.out _ (by have := HP4.out; (exact prX))).mono ?_; intro e w5 hh; obtain ⟨v5, rfl, ⟨ab, nb, cb, rfl, fb, b1, b2, hTb⟩, hp5, x5⟩ := hh.ok; have y5 : ExtX (· = pb) W4 w5 := ((ExtX.refl W4).drew).trans x5; have z5 := y5.mono (A' := fun b => b = pb ∨ b = w1.heap.size) (fun b h => .inl h); have hTb2 : IsTmsA (AvP w.heap.size w1.heap.size) w5 kb ab nb := hTb.off (fun b _ hb => by rcases hb with hb | hb <;> (simp; omega)); have HTk5 := Lib.hid (HT4.out.extx (X := (· = pb)) y5 (fun b e => .inl (by have e : b = pb := e; omega))); have HTb2 := Lib.hid hTb2; have hs5 := y5.size; have hl51 : w1.heap.size < w5.heap.size := (by omega); obtain ⟨e0, e1, e2, e3, e4, e5, e6, e7⟩ := (HB4.out.nez y5 (by omega)).eight; clear hTb hTb2 hh)); (try (focus (go_wp2_with fail))); refine hK.out _ _ (by (try dsimp only); (exact xX)) (fun hHeld => ?_); clear hK K; try simp only [Act.put,pA,pB,pC]
              refine wpAnyH_ready (rs := [2, 6]) (by kernel_rfl) (by simp) ?_
              refine held_cons 2 rfl (by rfl) (fun K hK => ?_) (held_cons 6 rfl (by rfl) (fun K hK => ?_) AllReadyH.nil)
              go_simp; refine hK.out _ _ (by (try dsimp only); (exact xX)) (fun hHeld => ?_); clear hK K; try simp only [Act.put,pA,pB,pC]
              refine held_do 6 rfl (by kernel_rfl) (by rfl) (fun K hK => ?_); go_simp; refine hK.out _ _ (by (try dsimp only); (exact xX)) (fun hHeld => ?_); clear hK K; try simp only [Act.put,pA,pB,pC]
              refine held_do 7 rfl (by kernel_rfl) (by rfl) (fun K hK => ?_); go_simp; (first | (go_at_call 58; refine (parse_node _ _ _ _ _ _).mono ?_; rintro e w6 ⟨rfl, x6⟩; have hG6 := blk_top x6; have y56 : Ext w5 w6 := (by (exact eX) : Ext w5 _).trans x6; have y6 : ExtX (· = pb) W4 w6 := ExtX.then_ y5 y56; have z6 := y6.mono (A' := fun b => b = pb ∨ b = w1.heap.size) (fun b h => .inl h); have hB6 := HB4.out.nez y6 (by omega); obtain ⟨d0, d1, d2, d3, d4, d5, d6, d7⟩ := hB6.eight; obtain ⟨f0, f1, f2, f3, f4, f5, f6, f7⟩ := hB6.frozen8; have hl6 := hB6.lt; have HB6 := Lib.hid hB6; have hrow6 := pair_row (A := AvP w.heap.size w1.heap.size) y56 k1 k2 b1 b2 HFX.out fb HTk5.out HTb2.out (fun hb => by rcases hb with hb | hb <;> omega) hG6; have H6 := Lib.hid hrow6; have HP6 := Lib.hid (hp5.ext y56); clear hB6 hG6 hrow6) | (refine (KP5.out _ (by have := HP4.out; (exact prX))).mono ?_; intro e w5 hh; obtain ⟨v5, rfl, ⟨ab, nb, cb, rfl, fb, b1, b2, hTb⟩, hp5, x5⟩ := hh.ok; have y5 : ExtX (· = pb) W4 w5 := ((ExtX.refl W4).drew).trans x5; have z5 := y5.mono (A' := fun b => b = pb ∨ b = w1.heap.size) (fun b h => .inl h); have hTb2 : IsTmsA (AvP w.heap.size w1.heap.size) w5 kb ab nb := hTb.off (fun b _ hb => by rcases hb with hb | hb <;> (simp; omega)); have HTk5 := Lib.hid (HT4.out.extx (X := (· = pb)) y5 (fun b e => .inl (by have e : b = pb := e; omega))); have HTb2 := Lib.hid hTb2; have hs5 := y5.size; have hl51 : w1.heap.size < w5.heap.size := (by omega); obtain ⟨e0, e1, e2, e3, e4, e5, e6, e7⟩ := (HB4.out.nez y5 (by omega)).eight; clear hTb hTb2 hh)); (try (focus (go_wp2_with fail))); refine hK.out _ _ (by (try dsimp only); (exact xX)) (fun hHeld => ?_); clear hK K; try simp only [Act.put,pA,pB,pC]
              refine held_do 8 rfl (by kernel_rfl) (by rfl) (fun K hK => ?_); go_simp; refine hK.out _ _ (by (try dsimp only); (exact xX)) (fun hHeld => ?_); clear hK K; try simp only [Act.put,pA,pB,pC]
              refine wpAnyH_done (by kernel_rfl) ?_ _
              rotate_left 1
              go_simp; refine hK.out _ _ (by (try dsimp only); (exact xX)) (fun hHeld => ?_); clear hK K; try simp only [Act.put,pA,pB,pC]
              refine held_do 2 rfl (by kernel_rfl) (by rfl) (fun K hK => ?_); go_simp; refine hK.out _ _ (by (try dsimp only); (exact xX)) (fun hHeld => ?_); clear hK K; try simp only [Act.put,pA,pB,pC]
              refine held_do 7 rfl (by kernel_rfl) (by rfl) (fun K hK => ?_); go_simp; (first | (go_at_call 58; refine (parse_node _ _ _ _ _ _).mono ?_; rintro e w6 ⟨rfl, x6⟩; have hG6 := blk_top x6; have y56 : Ext w5 w6 := (by (exact eX) : Ext w5 _).trans x6; have y6 : ExtX (· = pb) W4 w6 := ExtX.then_ y5 y56; have z6 := y6.mono (A' := fun b => b = pb ∨ b = w1.heap.size) (fun b h => .inl h); have hB6 := HB4.out.nez y6 (by omega); obtain ⟨d0, d1, d2, d3, d4, d5, d6, d7⟩ := hB6.eight; obtain ⟨f0, f1, f2, f3, f4, f5, f6, f7⟩ := hB6.frozen8; have hl6 := hB6.lt; have HB6 := Lib.hid hB6; have hrow6 := pair_row (A := AvP w.heap.size w1.heap.size) y56 k1 k2 b1 b2 HFX.out fb HTk5.out HTb2.out (fun hb => by rcases hb with hb | hb <;> omega) hG6; have H6 := Lib.hid hrow6; have HP6 := Lib.hid (hp5.ext y56); clear hB6 hG6 hrow6) | (refine (KP5.out _ (by have := HP4.out; (exact prX))).mono ?_; intro e w5 hh; obtain ⟨v5, rfl, ⟨ab, nb, cb, rfl, fb, b1, b2, hTb⟩, hp5, x5⟩ := hh.ok; have y5 : ExtX (· = pb) W4 w5 := ((ExtX.refl W4).drew).trans x5; have z5 := y5.mono (A' := fun b => b = pb ∨ b = w1.heap.size) (fun b h => .inl h); have hTb2 : IsTmsA (AvP w.heap.size w1.heap.size) w5 kb ab nb := hTb.off (fun b _ hb => by rcases hb with hb | hb <;> (simp; omega)); have HTk5 := Lib.hid (HT4.out.extx (X := (· = pb)) y5 (fun b e => .inl (by have e : b = pb := e; omega))); have HTb2 := Lib.hid hTb2; have hs5 := y5.size; have hl51 : w1.heap.size < w5.heap.size := (by omega); obtain ⟨e0, e1, e2, e3, e4, e5, e6, e7⟩ := (HB4.out.nez y5 (by omega)).eight; clear hTb hTb2 hh)); (try (focus (go_wp2_with fail))); refine hK.out _ _ (by (try dsimp only); (exact xX)) (fun hHeld => ?_); clear hK K; try simp only [Act.put,pA,pB,pC]
              refine held_do 8 rfl (by kernel_rfl) (by rfl) (fun K hK => ?_); go_simp; refine hK.out _ _ (by (try dsimp only); (exact xX)) (fun hHeld => ?_); clear hK K; try simp only [Act.put,pA,pB,pC]
              refine wpAnyH_done (by kernel_rfl) ?_ _
              rotate_left 1
              go_simp; (first | (refine (KP5.out _ (by have := HP4.out; (exact prX))).mono ?_; intro e w5 hh; obtain ⟨v5, rfl, ⟨ab, nb, cb, rfl, fb, b1, b2, hTb⟩, hp5, x5⟩ := hh.ok; have y5 : ExtX (· = pb) W4 w5 := ((ExtX.refl W4).drew).trans x5; have z5 := y5.mono (A' := fun b => b = pb ∨ b = w1.heap.size) (fun b h => .inl h); have hTb2 : IsTmsA (AvP w.heap.size w1.heap.size) w5 kb ab nb := hTb.off (fun b _ hb => by rcases hb with hb | hb <;> (simp; omega)); have HTk5 := Lib.hid (HT4.out.extx (X := (· = pb)) y5 (fun b e => .inl (by have e : b = pb := e; omega))); have HTb2 := Lib.hid hTb2; have hs5 := y5.size; have hl51 : w1.heap.size < w5.heap.size := (by omega); obtain ⟨e0, e1, e2, e3, e4, e5, e6, e7⟩ := (HB4.out.nez y5 (by omega)).eight; clear hTb hTb2 hh)); (try (focus (go_wp2_with fail))); refine hK.out _ _ (by (try dsimp only); (exact xX)) (fun hHeld => ?_); clear hK K; try simp only [Act.put,pA,pB,pC]
              refine wpAnyH_ready (rs := [2, 3]) (by kernel_rfl) (by simp) ?_
              refine held_cons 2 rfl (by rfl) (fun K hK => ?_) (held_cons 3 rfl (by rfl) (fun K hK => ?_) AllReadyH.nil)
              go_simp; refine hK.out _ _ (by (try dsimp only); (exact xX)) (fun hHeld => ?_); clear hK K; try simp only [Act.put,pA,pB,pC]
              refine held_do 3 rfl (by kernel_rfl) (by rfl) (fun K hK => ?_); go_simp; refine hK.out _ _ (by (try dsimp only); (exact xX)) (fun hHeld => ?_); clear hK K; try simp only [Act.put,pA,pB,pC]
              refine held_do 6 rfl (by kernel_rfl) (by rfl) (fun K hK => ?_); go_simp; refine hK.out _ _ (by (try dsimp only); (exact xX)) (fun hHeld => ?_); clear hK K; try simp only [Act.put,pA,pB,pC]
              refine held_do 7 rfl (by kernel_rfl) (by rfl) (fun K hK => ?_); go_simp; (first | (go_at_call 58; refine (parse_node _ _ _ _ _ _).mono ?_; rintro e w6 ⟨rfl, x6⟩; have hG6 := blk_top x6; have y56 : Ext w5 w6 := (by (exact eX) : Ext w5 _).trans x6; have y6 : ExtX (· = pb) W4 w6 := ExtX.then_ y5 y56; have z6 := y6.mono (A' := fun b => b = pb ∨ b = w1.heap.size) (fun b h => .inl h); have hB6 := HB4.out.nez y6 (by omega); obtain ⟨d0, d1, d2, d3, d4, d5, d6, d7⟩ := hB6.eight; obtain ⟨f0, f1, f2, f3, f4, f5, f6, f7⟩ := hB6.frozen8; have hl6 := hB6.lt; have HB6 := Lib.hid hB6; have hrow6 := pair_row (A := AvP w.heap.size w1.heap.size) y56 k1 k2 b1 b2 HFX.out fb HTk5.out HTb2.out (fun hb => by rcases hb with hb | hb <;> omega) hG6; have H6 := Lib.hid hrow6; have HP6 := Lib.hid (hp5.ext y56); clear hB6 hG6 hrow6) | (refine (KP5.out _ (by have := HP4.out; (exact prX))).mono ?_; intro e w5 hh; obtain ⟨v5, rfl, ⟨ab, nb, cb, rfl, fb, b1, b2, hTb⟩, hp5, x5⟩ := hh.ok; have y5 : ExtX (· = pb) W4 w5 := ((ExtX.refl W4).drew).trans x5; have z5 := y5.mono (A' := fun b => b = pb ∨ b = w1.heap.size) (fun b h => .inl h); have hTb2 : IsTmsA (AvP w.heap.size w1.heap.size) w5 kb ab nb := hTb.off (fun b _ hb => by rcases hb with hb | hb <;> (simp; omega)); have HTk5 := Lib.hid (HT4.out.extx (X := (· = pb)) y5 (fun b e => .inl (by have e : b = pb := e; omega))); have HTb2 := Lib.hid hTb2; have hs5 := y5.size; have hl51 : w1.heap.size < w5.heap.size := (by omega); obtain ⟨e0, e1, e2, e3, e4, e5, e6, e7⟩ := (HB4.out.nez y5 (by omega)).eight; clear hTb hTb2 hh)); (try (focus (go_wp2_with fail))); refine hK.out _ _ (by (try dsimp only); (exact xX)) (fun hHeld => ?_); clear hK K; try simp only [Act.put,pA,pB,pC]
              refine held_do 8 rfl (by kernel_rfl) (by rfl) (fun K hK => ?_); go_simp; refine hK.out _ _ (by (try dsimp only); (exact xX)) (fun hHeld => ?_); clear hK K; try simp only [Act.put,pA,pB,pC]
              refine wpAnyH_done (by kernel_rfl) ?_ _
              rotate_left 1
              go_simp; refine hK.out _ _ (by (try dsimp only); (exact xX)) (fun hHeld => ?_); clear hK K; try simp only [Act.put,pA,pB,pC]
              refine wpAnyH_ready (rs := [2, 6]) (by kernel_rfl) (by simp) ?_
              refine held_cons 2 rfl (by rfl) (fun K hK => ?_) (held_cons 6 rfl (by rfl) (fun K hK => ?_) AllReadyH.nil)
              go_simp; refine hK.out _ _ (by (try dsimp only); (exact xX)) (fun hHeld => ?_); clear hK K; try simp only [Act.put,pA,pB,pC]
              refine held_do 6 rfl (by kernel_rfl) (by rfl) (fun K hK => ?_); go_simp; refine hK.out _ _ (by (try dsimp only); (exact xX)) (fun hHeld => ?_); clear hK K; try simp only [Act.put,pA,pB,pC]
              refine held_do 7 rfl (by kernel_rfl) (by rfl) (fun K hK => ?_); go_simp; (first | (go_at_call 58; refine (parse_node _ _ _ _ _ _).mono ?_; rintro e w6 ⟨rfl, x6⟩; have hG6 := blk_top x6; have y56 : Ext w5 w6 := (by (exact eX) : Ext w5 _).trans x6; have y6 : ExtX (· = pb) W4 w6 := ExtX.then_ y5 y56; have z6 := y6.mono (A' := fun b => b = pb ∨ b = w1.heap.size) (fun b h => .inl h); have hB6 := HB4.out.nez y6 (by omega); obtain ⟨d0, d1, d2, d3, d4, d5, d6, d7⟩ := hB6.eight; obtain ⟨f0, f1, f2, f3, f4, f5, f6, f7⟩ := hB6.frozen8; have hl6 := hB6.lt; have HB6 := Lib.hid hB6; have hrow6 := pair_row (A := AvP w.heap.size w1.heap.size) y56 k1 k2 b1 b2 HFX.out fb HTk5.out HTb2.out (fun hb => by rcases hb with hb | hb <;> omega) hG6; have H6 := Lib.hid hrow6; have HP6 := Lib.hid (hp5.ext y56); clear hB6 hG6 hrow6) | (refine (KP5.out _ (by have := HP4.out; (exact prX))).mono ?_; intro e w5 hh; obtain ⟨v5, rfl, ⟨ab, nb, cb, rfl, fb, b1, b2, hTb⟩, hp5, x5⟩ := hh.ok; have y5 : ExtX (· = pb) W4 w5 := ((ExtX.refl W4).drew).trans x5; have z5 := y5.mono (A' := fun b => b = pb ∨ b = w1.heap.size) (fun b h => .inl h); have hTb2 : IsTmsA (AvP w.heap.size w1.heap.size) w5 kb ab nb := hTb.off (fun b _ hb => by rcases hb with hb | hb <;> (simp; omega)); have HTk5 := Lib.hid (HT4.out.extx (X := (· = pb)) y5 (fun b e => .inl (by have e : b = pb := e; omega))); have HTb2 := Lib.hid hTb2; have hs5 := y5.size; have hl51 : w1.heap.size < w5.heap.size := (by omega); obtain ⟨e0, e1, e2, e3, e4, e5, e6, e7⟩ := (HB4.out.nez y5 (by omega)).eight; clear hTb hTb2 hh)); (try (focus (go_wp2_with fail))); refine hK.out _ _ (by (try dsimp only); (exact xX)) (fun hHeld => ?_); clear hK K; try simp only [Act.put,pA,pB,pC]
              refine held_do 8 rfl (by kernel_rfl) (by rfl) (fun K hK => ?_); go_simp; refine hK.out _ _ (by (try dsimp only); (exact xX)) (fun hHeld => ?_); clear hK K; try simp only [Act.put,pA,pB,pC]
              refine wpAnyH_done (by kernel_rfl) ?_ _
              rotate_left 1
              go_simp; refine hK.out _ _ (by (try dsimp only); (exact xX)) (fun hHeld => ?_); clear hK K; try simp only [Act.put,pA,pB,pC]
              refine held_do 2 rfl (by kernel_rfl) (by rfl) (fun K hK => ?_); go_simp; refine hK.out _ _ (by (try dsimp only); (exact xX)) (fun hHeld => ?_); clear hK K; try simp only [Act.put,pA,pB,pC]
              refine held_do 7 rfl (by kernel_rfl) (by rfl) (fun K hK => ?_); go_simp; (first | (go_at_call 58; refine (parse_node _ _ _ _ _ _).mono ?_; rintro e w6 ⟨rfl, x6⟩; have hG6 := blk_top x6; have y56 : Ext w5 w6 := (by (exact eX) : Ext w5 _).trans x6; have y6 : ExtX (· = pb) W4 w6 := ExtX.then_ y5 y56; have z6 := y6.mono (A' := fun b => b = pb ∨ b = w1.heap.size) (fun b h => .inl h); have hB6 := HB4.out.nez y6 (by omega); obtain ⟨d0, d1, d2, d3, d4, d5, d6, d7⟩ := hB6.eight; obtain ⟨f0, f1, f2, f3, f4, f5, f6, f7⟩ := hB6.frozen8; have hl6 := hB6.lt; have HB6 := Lib.hid hB6; have hrow6 := pair_row (A := AvP w.heap.size w1.heap.size) y56 k1 k2 b1 b2 HFX.out fb HTk5.out HTb2.out (fun hb => by rcases hb with hb | hb <;> omega) hG6; have H6 := Lib.hid hrow6; have HP6 := Lib.hid (hp5.ext y56); clear hB6 hG6 hrow6) | (refine (KP5.out _ (by have := HP4.out; (exact prX))).mono ?_; intro e w5 hh; obtain ⟨v5, rfl, ⟨ab, nb, cb, rfl, fb, b1, b2, hTb⟩, hp5, x5⟩ := hh.ok; have y5 : ExtX (· = pb) W4 w5 := ((ExtX.refl W4).drew).trans x5; have z5 := y5.mono (A' := fun b => b = pb ∨ b = w1.heap.size) (fun b h => .inl h); have hTb2 : IsTmsA (AvP w.heap.size w1.heap.size) w5 kb ab nb := hTb.off (fun b _ hb => by rcases hb with hb | hb <;> (simp; omega)); have HTk5 := Lib.hid (HT4.out.extx (X := (· = pb)) y5 (fun b e => .inl (by have e : b = pb := e; omega))); have HTb2 := Lib.hid hTb2; have hs5 := y5.size; have hl51 : w1.heap.size < w5.heap.size := (by omega); obtain ⟨e0, e1, e2, e3, e4, e5, e6, e7⟩ := (HB4.out.nez y5 (by omega)).eight; clear hTb hTb2 hh)); (try (focus (go_wp2_with fail))); refine hK.out _ _ (by (try dsimp only); (exact xX)) (fun hHeld => ?_); clear hK K; try simp only [Act.put,pA,pB,pC]
              refine held_do 8 rfl (by kernel_rfl) (by rfl) (fun K hK => ?_); go_simp; refine hK.out _ _ (by (try dsimp only); (exact xX)) (fun hHeld => ?_); clear hK K; try simp only [Act.put,pA,pB,pC]
              refine wpAnyH_done (by kernel_rfl) ?_ _
              rotate_left 1
              all_goals
                have X9 := HX3.out.trans (Y4.out.trans y6)
                go_wp2_with fail
                go_roundg l3.length
                case rel =>
                  exact ⟨m, hd0 10 x.pos, [.mk x ks, .mk xb kb], some ⟨w5.heap.size, 0, none⟩, 2, 2, l3, rfl, by omega, HPM5.out, HE3.out, HP6.out.set8 (by omega), HB6.out.lay8, hd0_fits (by omega) (by omega) HFX.out.pos0 HFX.out.pos1, Nat.le_refl _, by omega, H6.out.set8 (.inr rfl), (HZ4.out.nez y6 (by omega)).far8 (by omega), X9.set8 (.inr (by omega))⟩
                case measure => exact hln
end Go.Proofs.YtaioeailgknfjaaGreatDoor

/- The walks of parse.prod, rel. The walk of parse.rel. The walk of parse.set. -/
namespace Go.Proofs.YtaioeailgknfjaaGreatDoor
open Go Go.RowKit Go.Sort

theorem ek_apply : ∀ args w, (callFunc 131 args).run Tryz.prog w = .ok (.enter 131 args) w := fun args w => by kernel_rfl
theorem ek_prod : ∀ args w, (callFunc 117 args).run Tryz.prog w = .ok (.enter 117 args) w := fun args w => by kernel_rfl
/-- What is left of a call that stores its result. -/
structure Laid8 (pb : Nat) (w w1 : World) (x : Hd) (ks : List Tm) (a : Option Addr) (n c : Nat) (l : List Tk) : Prop where
  z : Blk w1 w.heap.size 28 #[.int .u8 0, .int .u8 0, .int .i64 0, .int .i64 0, .string ⟨#[]⟩, .string ⟨#[]⟩, .string ⟨#[]⟩, .slice none 0 0]
  fits : x.Fits
  le : n ≤ c
  cap : c ≤ 9223372036854775807
  tms : IsTmsA (fun b => b ≤ w.heap.size) w1 ks a n
  prs : Prs w1 pb l
  ext : ExtX (· = pb) w w1
  lt : pb < w.heap.size
/-- The result, laid in its block. -/
theorem Laid8.ret {pb : Nat} {w w1 : World} {x : Hd} {ks : List Tm} {a : Option Addr} {n c : Nat} {l : List Tk} (h : Laid8 pb w w1 x ks a n c l) {fn : Func} {act : Act}
    (hr : ∀ w2 : World, w2.cell? ⟨w.heap.size, 0, none⟩ = some (.int .u8 x.k) → w2.cell? ⟨w.heap.size, 1, none⟩ = some (.int .u8 x.op) → w2.cell? ⟨w.heap.size, 2, none⟩ = some (.int .i64 x.pos) → w2.cell? ⟨w.heap.size, 3, none⟩ = some (.int .i64 x.n) → w2.cell? ⟨w.heap.size, 4, none⟩ = some (.string x.name) → w2.cell? ⟨w.heap.size, 5, none⟩ = some (.string x.arg) → w2.cell? ⟨w.heap.size, 6, none⟩ = some (.string x.exn) → w2.cell? ⟨w.heap.size, 7, none⟩ = some (.slice a n c) →
      (results fn act.tmps).run Tryz.prog w2 = .ok (.agg #[.int .u8 x.k, .int .u8 x.op, .int .i64 x.pos, .int .i64 x.n, .string x.name, .string x.arg, .string x.exn, .slice a n c]) w2) (hd : act.defers = []) :
    bodyPost Tryz.prog fn (RetP pb w (IsNew w.heap.size) (.ok (.mk x ks, l))) .ret act ((((((((w1.setCell ⟨w.heap.size, 0, none⟩ (.int .u8 x.k)).setCell ⟨w.heap.size, 1, none⟩ (.int .u8 x.op)).setCell ⟨w.heap.size, 2, none⟩ (.int .i64 x.pos)).setCell ⟨w.heap.size, 3, none⟩ (.int .i64 x.n)).setCell ⟨w.heap.size, 4, none⟩ (.string x.name)).setCell ⟨w.heap.size, 5, none⟩ (.string x.arg)).setCell ⟨w.heap.size, 6, none⟩ (.string x.exn)).setCell ⟨w.heap.size, 7, none⟩ (.slice a n c)) := by
  have hZ9 := h.z.lay8 (u0 := .int .u8 x.k) (u1 := .int .u8 x.op) (u2 := .int .i64 x.pos) (u3 := .int .i64 x.n) (u4 := .string x.name) (u5 := .string x.arg) (u6 := .string x.exn) (u7 := .slice a n c)
  refine ret8 hZ9 (fun ⟨r0, r1, r2, r3, r4, r5, r6, r7⟩ => hr _ r0 r1 r2 r3 r4 r5 r6 r7) hd ⟨h.ext.set8 (.inr (Nat.le_refl _)), _, rfl, ⟨a, n, c, rfl, h.fits, h.le, h.cap, ?_⟩, h.prs.set8 h.lt⟩
  exact (h.tms.set8 (Nat.le_refl _)).off fun b _ hb => Nat.le_of_lt hb
/-- The result, laid in its block, behind which another one was made. -/
theorem Laid8.ret_alloc {o : Obj} {pb : Nat} {w w1 : World} {x : Hd} {ks : List Tm} {a : Option Addr} {n c : Nat} {l : List Tk} (h : Laid8 pb w w1 x ks a n c l) {fn : Func} {act : Act}
    (hr : ∀ w2 : World, w2.cell? ⟨w.heap.size, 0, none⟩ = some (.int .u8 x.k) → w2.cell? ⟨w.heap.size, 1, none⟩ = some (.int .u8 x.op) → w2.cell? ⟨w.heap.size, 2, none⟩ = some (.int .i64 x.pos) → w2.cell? ⟨w.heap.size, 3, none⟩ = some (.int .i64 x.n) → w2.cell? ⟨w.heap.size, 4, none⟩ = some (.string x.name) → w2.cell? ⟨w.heap.size, 5, none⟩ = some (.string x.arg) → w2.cell? ⟨w.heap.size, 6, none⟩ = some (.string x.exn) → w2.cell? ⟨w.heap.size, 7, none⟩ = some (.slice a n c) →
      (results fn act.tmps).run Tryz.prog w2 = .ok (.agg #[.int .u8 x.k, .int .u8 x.op, .int .i64 x.pos, .int .i64 x.n, .string x.name, .string x.arg, .string x.exn, .slice a n c]) w2) (hd : act.defers = []) :
    bodyPost Tryz.prog fn (RetP pb w (IsNew w.heap.size) (.ok (.mk x ks, l))) .ret act (((((((((w1.setCell ⟨w.heap.size, 0, none⟩ (.int .u8 x.k)).setCell ⟨w.heap.size, 1, none⟩ (.int .u8 x.op)).setCell ⟨w.heap.size, 2, none⟩ (.int .i64 x.pos)).setCell ⟨w.heap.size, 3, none⟩ (.int .i64 x.n)).setCell ⟨w.heap.size, 4, none⟩ (.string x.name)).setCell ⟨w.heap.size, 5, none⟩ (.string x.arg)).setCell ⟨w.heap.size, 6, none⟩ (.string x.exn)).setCell ⟨w.heap.size, 7, none⟩ (.slice a n c)).alloc o) := by
  have hZ9 := h.z.lay8 (u0 := .int .u8 x.k) (u1 := .int .u8 x.op) (u2 := .int .i64 x.pos) (u3 := .int .i64 x.n) (u4 := .string x.name) (u5 := .string x.arg) (u6 := .string x.exn) (u7 := .slice a n c)
  refine ret8 (hZ9.alloc o) (fun ⟨r0, r1, r2, r3, r4, r5, r6, r7⟩ => hr _ r0 r1 r2 r3 r4 r5 r6 r7) hd ⟨(h.ext.set8 (.inr (Nat.le_refl _))).alloc o, _, rfl, ⟨a, n, c, rfl, h.fits, h.le, h.cap, ?_⟩, (h.prs.set8 h.lt).alloc o⟩
  exact ((h.tms.set8 (Nat.le_refl _)).ext ((Ext.refl _).alloc o)).off fun b _ hb => Nat.le_of_lt hb
set_option maxRecDepth 8000 in
set_option maxHeartbeats 8000000 in
theorem parse_prod (f : Nat) (hF : ∀ g, g ≤ f → Does 131 (.lvl 4) g) : Does 117 (.lvl 3) (f + 1) := by
  intro pb w l r h he hp
  have hlt := h.lt
  have KR := Lib.hid fun W (a : Option Addr) (x : Ext w W) (hr : IsRow W (vstr [s_star]) a 1) (hra : ∀ p, a = some p → p.block ≠ pb) => parse_row 3 131 f (.inr rfl) ek_apply hF pb l r W a 1 1 (Nat.le_refl _) (by omega) hr hra (h.ext x) he hp
  clear hp h hF
  go_enter Tryz.func117, Tryz.ntmps117
  go_wp2_with fail
  refine (KR.out _ _ (by (exact eX)) (row_new1 w _ _ (vstr [s_star])) (by rintro p ⟨rfl⟩; show w.heap.size + 1 ≠ pb; omega)).mono ?_
  intro e w1 hh
  have y0 : Ext w ((w.alloc (.cells #[.int .u8 0, .int .u8 0, .int .i64 0, .int .i64 0, .string ⟨#[]⟩, .string ⟨#[]⟩, .string ⟨#[]⟩, .slice none 0 0] 28)).alloc (.cells #[.string ⟨#[42]⟩] 9)) := ((Ext.refl w).alloc _).alloc _
  have hZ0 := (Blk.new w 28 #[.int .u8 0, .int .u8 0, .int .i64 0, .int .i64 0, .string ⟨#[]⟩, .string ⟨#[]⟩, .string ⟨#[]⟩, .slice none 0 0]).alloc (.cells #[.string ⟨#[42]⟩] 9)
  cases r with
  | error l' =>
    obtain ⟨rfl, x1⟩ := hh.error
    exact ⟨rfl, (ExtX.of y0).trans x1, rfl⟩
  | ok p =>
    obtain ⟨⟨x, ks⟩, l1⟩ := p
    obtain ⟨v, rfl, ⟨a, n, c, rfl, hf, g1, g2, hT⟩, hp1, x1⟩ := hh.ok
    have hZ1 := hZ0.extx x1 (by omega)
    obtain ⟨z0, z1, z2, z3, z4, z5, z6, z7⟩ := hZ1.eight
    obtain ⟨f0, f1, f2, f3, f4, f5, f6, f7⟩ := hZ1.frozen8
    have hlz := hZ1.lt
    have HL : Hid (Laid8 pb w w1 x ks a n c l1) := Lib.hid ⟨hZ1, hf, g1, g2, hT.off fun b _ hb => (by have hb : b ≤ w.heap.size := hb; simp; omega), hp1, (ExtX.of y0).trans x1, hlt⟩
    clear hh hZ0 hZ1 hf hT hp1 x1 y0
    go_wp2_with fail
    exact HL.out.ret (fun w2 r0 r1 r2 r3 r4 r5 r6 r7 => by simp [results, Tryz.results117, go_sem, r0, r1, r2, r3, r4, r5, r6, r7]) rfl
end Go.Proofs.YtaioeailgknfjaaGreatDoor
namespace Go.Proofs.YtaioeailgknfjaaGreatDoor
open Go Go.RowKit Go.Sort

/-- A sum's walk. -/
theorem parse_sum (f : Nat) (hF : ∀ g, g < f → Does 117 (.lvl 3) g) (pb : Nat) (l : List Tk) (r : Res Tm) (w : World) (a : Option Addr) (hr : IsRow w (vstr [s_plus, s_minus]) a 2) (hra : ∀ p, a = some p → p.block ≠ pb) (h : Prs w pb l) (he : Ended l) (hp : parseF f (.lvl 2) l = some r) :
    Calls Tryz.prog 116 #[.pointer (some ⟨pb, 0, none⟩), .func (.func 117) #[.pointer (some ⟨pb, 0, none⟩)] #[], .slice a 2 2] w (RetP pb w (IsNew w.heap.size) r) := by
  cases f with
  | zero => cases hp
  | succ f => exact parse_row 2 117 f (.inl rfl) ek_prod (fun g hg => hF g (by omega)) pb l r w a 2 2 (Nat.le_refl _) (by omega) hr hra h he hp
theorem row_two1 (w : World) (o : Obj) (x y : ByteArray) (t : TypeId) : IsRow ((w.alloc o).alloc (.cells #[.string x, .string y] t)) (vstr [x, y]) (some ⟨w.heap.size + 1, 0, none⟩) 2 := row_new1 w o t (vstr [x, y])
theorem row_two0 (w : World) (x y : ByteArray) (t : TypeId) : IsRow (w.alloc (.cells #[.string x, .string y] t)) (vstr [x, y]) (some ⟨w.heap.size, 0, none⟩) 2 := IsRow.new w t (vstr [x, y])
set_option maxRecDepth 8000 in
set_option maxHeartbeats 8000000 in
theorem parse_rel (f : Nat) (hF : ∀ g, g < f → Does 117 (.lvl 3) g) : Does 92 (.lvl 1) (f + 1) := by
  intro pb w l r h he hp
  have hlt := h.lt
  have hp2 : andThen (parseF f (.lvl 2) l) (fun a l1 => if isT [s_less, s_eq] l1 then andThen (parseF f (.lvl 2) l1.tail) fun b l2 => some (.ok (putT (textT l1) a b, l2)) else some (.ok (a, l1))) = some r := by
    unfold parseF at hp
    rw [if_pos (by omega)] at hp
    exact hp
  have y0 : Ext w ((w.alloc (.cells #[.int .u8 0, .int .u8 0, .int .i64 0, .int .i64 0, .string ⟨#[]⟩, .string ⟨#[]⟩, .string ⟨#[]⟩, .slice none 0 0] 28)).alloc (.cells #[.string ⟨#[43]⟩, .string ⟨#[45]⟩] 9)) := ((Ext.refl w).alloc _).alloc _
  have hZ0 := (Blk.new w 28 #[.int .u8 0, .int .u8 0, .int .i64 0, .int .i64 0, .string ⟨#[]⟩, .string ⟨#[]⟩, .string ⟨#[]⟩, .slice none 0 0]).alloc (.cells #[.string ⟨#[43]⟩, .string ⟨#[45]⟩] 9)
  cases e1 : parseF f (.lvl 2) l with
  | none => rw [e1] at hp2; cases hp2
  | some r1 =>
    have KP := Lib.hid fun W (a : Option Addr) (x : Ext w W) (hr : IsRow W (vstr [s_plus, s_minus]) a 2) (hra : ∀ p, a = some p → p.block ≠ pb) => parse_sum f hF pb l r1 W a hr hra (h.ext x) he e1
    rw [e1] at hp2
    have Y0 := Lib.hid y0
    have HZ0 := Lib.hid hZ0
    have HF := Lib.hid hF
    cases r1 with
    | error l' =>
      cases hp2
      clear hp e1 h hF y0 hZ0
      go_enter Tryz.func92, Tryz.ntmps92
      go_wp2_with fail
      refine (KP.out _ _ Y0.out (row_two1 w _ _ _ _) (by rintro p ⟨rfl⟩; show w.heap.size + 1 ≠ pb; omega)).mono ?_
      intro e w1 hh
      obtain ⟨rfl, x1⟩ := hh.error
      exact ⟨rfl, (ExtX.of Y0.out).trans x1, rfl⟩
    | ok p =>
      obtain ⟨⟨x, ks⟩, l1⟩ := p
      rw [andThen_ok] at hp2
      have he1 : Ended l1 := (parseF_told he e1).1
      have HP2 := Lib.hid hp2
      have HE1 := Lib.hid he1
      clear hp e1 h hF hp2 y0 hZ0 he1
      go_enter Tryz.func92, Tryz.ntmps92
      go_wp2_with fail
      refine (KP.out _ _ Y0.out (row_two1 w _ _ _ _) (by rintro p ⟨rfl⟩; show w.heap.size + 1 ≠ pb; omega)).mono ?_
      intro e w1 hh
      obtain ⟨v, rfl, ⟨ak, nk, ck, rfl, hfx, k1, k2, hTk0⟩, hP1, x1⟩ := hh.ok
      have hTk : IsTmsA (fun b => b ≤ w.heap.size) w1 ks ak nk := hTk0.off fun b _ hb => (by have hb : b ≤ w.heap.size := hb; simp; omega)
      have hZ1 := HZ0.out.extx x1 (by omega)
      have hs1 := hZ1.lt
      have y1 : ExtX (· = pb) w w1 := (ExtX.of Y0.out).trans x1
      have hpl := hP1.lt
      cases l1 with
      | nil => cases HE1.out
      | cons tk l2 =>
      have KI := Lib.hid fun W (y : Ext w1 W) (a : Option Addr) (hr : IsRow W (vstr [s_less, s_eq]) a 2) => parse_is [s_less, s_eq] pb tk l2 W a 2 2 (Nat.le_refl _) (by omega) hr (hP1.ext y)
      have HTk := Lib.hid hTk
      have HFX := Lib.hid hfx
      have HP1 := Lib.hid hP1
      have HZ1 := Lib.hid hZ1
      have Y1 := Lib.hid y1
      clear hh hTk0 hTk hfx hP1 hZ1 x1 y1
      have hp2 := HP2.out
      cases hi : isT [s_less, s_eq] (tk :: l2) with
      | false =>
        rw [if_neg (by rw [hi]; simp)] at hp2
        cases hp2
        rw [hi] at KI
        clear hi
        go_wp2_with fail
        refine (KI.out _ (by (exact eX)) _ (row_two1 w1 _ _ _ _)).mono ?_
        rintro e w2 ⟨rfl, x2⟩
        have y2 : Ext w1 w2 := by (exact eX)
        have hT2 := blk_under x2
        have hZ2 := HZ1.out.ext y2
        obtain ⟨c0, c1, c2, c3, c4, c5, c6, c7⟩ := hT2.eight
        obtain ⟨z0, z1, z2, z3, z4, z5, z6, z7⟩ := hZ2.eight
        obtain ⟨f0, f1, f2, f3, f4, f5, f6, f7⟩ := hZ2.frozen8
        have hlz := hZ2.lt
        have HL : Hid (Laid8 pb w w2 x ks ak nk ck (tk :: l2)) := Lib.hid ⟨hZ2, HFX.out, k1, k2, HTk.out.ext y2, HP1.out.ext y2, Y1.out.then_ y2, hlt⟩
        clear hT2 hZ2 y2 x2
        go_wp2_with fail
        exact HL.out.ret (fun w2 r0 r1 r2 r3 r4 r5 r6 r7 => by simp [results, Tryz.results92, go_sem, r0, r1, r2, r3, r4, r5, r6, r7]) rfl
      | true =>
        rw [if_pos hi] at hp2
        rw [hi] at KI
        have hk6 : tk.k ≠ 6 := isT_kind hi
        obtain ⟨hl2, he2⟩ := HE1.out.tail_ne hk6
        obtain ⟨tk', r', e', -, hsg, -⟩ := isT_ne hi
        cases e'
        obtain ⟨j, hj, hjx, hop, hns⟩ := sign_at (k := 1) (by omega) hsg
        have KT := Lib.hid fun W (y : Ext w1 W) => parse_take pb tk l2 W (HP1.out.ext y)
        have HJX := Lib.hid hjx
        have HPM := Lib.hid hp2
        have HOP := Lib.hid (And.intro hop hns)
        have HE2 := Lib.hid he2
        have HL2 := Lib.hid hl2
        clear hi hjx hp2 hop hns he2 hl2 hsg
        go_wp2_with fail
        refine (KI.out _ (by (exact eX)) _ (row_two1 w1 _ _ _ _)).mono ?_
        rintro e w2 ⟨rfl, x2⟩
        have y2 : Ext w1 w2 := by (exact eX)
        have hT2 := blk_under x2
        go_wp2_with fail
        refine (KT.out _ y2).mono ?_
        rintro e w3 ⟨rfl, x3, hp3⟩
        have y3 : ExtX (· = pb) w1 w3 := (ExtX.of y2).trans x3
        have P3 := hp3 HL2.out
        obtain ⟨W4, hW4⟩ : ∃ W4, W4 = w3.alloc (.cells #[.int .u8 tk.k, .string tk.text, .int .i64 tk.pos] 37) := ⟨_, rfl⟩
        have y4 : ExtX (· = pb) w1 W4 := by rw [hW4]; exact y3.alloc _
        have y24 : ExtX (· = pb) w2 W4 := by rw [hW4]; exact x3.alloc _
        have P4 : Prs W4 pb l2 := by rw [hW4]; exact P3.alloc _
        have q1 : W4.cell? ⟨w3.heap.size, 1, none⟩ = some (.string tk.text) := by rw [hW4]; exact tkcells_at w3 tk.k tk.text tk.pos _ 1 _ rfl
        have hl4 : w3.heap.size < W4.heap.size := by rw [hW4]; simp
        have hl2' := hT2.lt
        have hl3 := x3.size
        have hB4 := hT2.nez y24 (by omega)
        have hZ4 := HZ1.out.nez y4 (by omega)
        have hT4 := HTk.out.extx (X := (· = pb)) y4 (fun b e => by have e : b = pb := e; show b ≤ w.heap.size; omega)
        have hl41 : w1.heap.size < W4.heap.size := hB4.lt
        have hl40 : w.heap.size < W4.heap.size := hZ4.lt
        have HP4 := Lib.hid P4
        have Y4 := Lib.hid y4
        have n1 := fun W (h : ExtX (fun b => b = pb ∨ b = w.heap.size) W4 W) => h.cell (p := ⟨w3.heap.size, 1, none⟩) (show ¬ (w3.heap.size = pb ∨ w3.heap.size = w.heap.size) by omega) q1
        have hne1 : ¬ (w1.heap.size = pb ∨ w1.heap.size = w.heap.size) := by omega
        have c0 := fun W (h : ExtX (fun b => b = pb ∨ b = w.heap.size) W4 W) => (hB4.extx h hne1).eight.1
        have c1 := fun W (h : ExtX (fun b => b = pb ∨ b = w.heap.size) W4 W) => (hB4.extx h hne1).eight.2.1
        have c2 := fun W (h : ExtX (fun b => b = pb ∨ b = w.heap.size) W4 W) => (hB4.extx h hne1).eight.2.2.1
        have c3 := fun W (h : ExtX (fun b => b = pb ∨ b = w.heap.size) W4 W) => (hB4.extx h hne1).eight.2.2.2.1
        have c4 := fun W (h : ExtX (fun b => b = pb ∨ b = w.heap.size) W4 W) => (hB4.extx h hne1).eight.2.2.2.2.1
        have c5 := fun W (h : ExtX (fun b => b = pb ∨ b = w.heap.size) W4 W) => (hB4.extx h hne1).eight.2.2.2.2.2.1
        have c6 := fun W (h : ExtX (fun b => b = pb ∨ b = w.heap.size) W4 W) => (hB4.extx h hne1).eight.2.2.2.2.2.2.1
        have c7 := fun W (h : ExtX (fun b => b = pb ∨ b = w.heap.size) W4 W) => (hB4.extx h hne1).eight.2.2.2.2.2.2.2
        have HZ4 := Lib.hid hZ4
        have HT4 := Lib.hid hT4
        have HROW4 := Lib.hid (row_two0 W4 s_plus s_minus 9)
        clear hZ4 hT4 q1 y4 P4 y3 P3 hp3 x3 x2 y2 hT2 y24
        cases e5 : parseF f (.lvl 2) l2 with
        | none => have := HPM.out; rw [List.tail_cons, e5] at this; cases this
        | some r5 =>
          have KP5 := Lib.hid fun W (a : Option Addr) (hP : Prs W pb l2) (hr : IsRow W (vstr [s_plus, s_minus]) a 2) (hra : ∀ p, a = some p → p.block ≠ pb) => parse_sum f HF.out pb l2 r5 W a hr hra hP HE2.out e5
          have hpm := HPM.out
          rw [List.tail_cons, e5] at hpm
          cases r5 with
          | error l' =>
            cases hpm
            clear e5
            go_upto_region 5 with fail
            rw [← hW4]
            clear hW4
            refine wp_region_held_drew (S := fun w' => ExtX (fun b => b = pb ∨ b = w.heap.size) W4 w') (by kernel_rfl) (by (try dsimp only); (exact xX)) (fun hHeld => ?_)
            refine tK 0 (v := ?_) ?_ ?_;rotate_left;(focus (intro w hSw;(try dsimp only at hSw);go_simp;(try with_reducible rfl)));try simp only [Act.put,pA,pB,pC]
            refine tK 1 (v := ?_) ?_ ?_;rotate_left;(focus (intro w hSw;(try dsimp only at hSw);go_simp;(try with_reducible rfl)));try simp only [Act.put,pA,pB,pC]
            refine tK 2 (v := ?_) ?_ ?_;rotate_left;(focus (intro w hSw;(try dsimp only at hSw);go_simp;(try with_reducible rfl)));try simp only [Act.put,pA,pB,pC]
            refine tK 3 (v := ?_) ?_ ?_;rotate_left;(focus (intro w hSw;(try dsimp only at hSw);go_simp;(try with_reducible rfl)));try simp only [Act.put,pA,pB,pC]
            refine tK 4 (v := ?_) ?_ ?_;rotate_left;(focus (intro w hSw;(try dsimp only at hSw);go_simp;(try with_reducible rfl)));try simp only [Act.put,pA,pB,pC]
            refine wpAnyH_ready (rs := [5, 6]) (by kernel_rfl) (by simp) ?_
            refine held_cons 5 rfl (by rfl) (fun K hK => ?_) (held_cons 6 rfl (by rfl) (fun K hK => ?_) AllReadyH.nil)
            go_simp; refine hK.out _ _ (by (try dsimp only); (exact xX)) (fun hHeld => ?_); clear hK K; try simp only [Act.put,pA,pB,pC]
            refine held_do 6 rfl (by kernel_rfl) (by rfl) (fun K hK => ?_); go_simp; refine hK.out _ _ (by (try dsimp only); (exact xX)) (fun hHeld => ?_); clear hK K; try simp only [Act.put,pA,pB,pC]
            refine held_do 7 rfl (by kernel_rfl) (by rfl) (fun K hK => ?_); go_simp; (first | (refine (KP5.out _ _ (by have := HP4.out; (exact prX)) (HROW4.out.ext (Ext.refl _).drew) (by rintro p ⟨rfl⟩; show W4.heap.size ≠ pb; omega)).mono ?_; intro e w5 hh; obtain ⟨rfl, x5⟩ := hh.error; exact ⟨rfl, (Y1.out.trans Y4.out).trans ((((ExtX.refl W4).alloc _).drew : ExtX (· = pb) W4 _).trans x5), rfl⟩))
            rotate_left 0
            go_simp; refine hK.out _ _ (by (try dsimp only); (exact xX)) (fun hHeld => ?_); clear hK K; try simp only [Act.put,pA,pB,pC]
            refine held_do 5 rfl (by kernel_rfl) (by rfl) (fun K hK => ?_); go_simp; refine hK.out _ _ (by (try dsimp only); (exact xX)) (fun hHeld => ?_); clear hK K; try simp only [Act.put,pA,pB,pC]
            refine held_do 7 rfl (by kernel_rfl) (by rfl) (fun K hK => ?_); go_simp; (first | (refine (KP5.out _ _ (by have := HP4.out; (exact prX)) (HROW4.out.ext (Ext.refl _).drew) (by rintro p ⟨rfl⟩; show W4.heap.size ≠ pb; omega)).mono ?_; intro e w5 hh; obtain ⟨rfl, x5⟩ := hh.error; exact ⟨rfl, (Y1.out.trans Y4.out).trans ((((ExtX.refl W4).alloc _).drew : ExtX (· = pb) W4 _).trans x5), rfl⟩))
            rotate_left 0
          | ok p5 =>
            obtain ⟨⟨xb, kb⟩, l3⟩ := p5
            rw [andThen_ok] at hpm
            have hput : putT tk.text (.mk x ks) (.mk xb kb) = .mk { hd0 9 x.pos with op := (j : Int) + 1 } [.mk x ks, .mk xb kb] := by
              unfold putT
              rw [if_neg HOP.out.2, HOP.out.1]
              rfl
            have hr : r = .ok (.mk { hd0 9 x.pos with op := (j : Int) + 1 } [.mk x ks, .mk xb kb], l3) := by
              rw [show textT (tk :: l2) = tk.text from rfl, hput] at hpm
              cases hpm
              rfl
            subst hr
            clear e5 hpm hput
            go_upto_region 5 with fail
            rw [← hW4]
            clear hW4
            refine wp_region_held_drew (S := fun w' => ExtX (fun b => b = pb ∨ b = w.heap.size) W4 w') (by kernel_rfl) (by (try dsimp only); (exact xX)) (fun hHeld => ?_)
            refine tK 0 (v := ?_) ?_ ?_;rotate_left;(focus (intro w hSw;(try dsimp only at hSw);go_simp;(try with_reducible rfl)));try simp only [Act.put,pA,pB,pC]
            refine tK 1 (v := ?_) ?_ ?_;rotate_left;(focus (intro w hSw;(try dsimp only at hSw);go_simp;(try with_reducible rfl)));try simp only [Act.put,pA,pB,pC]
            refine tK 2 (v := ?_) ?_ ?_;rotate_left;(focus (intro w hSw;(try dsimp only at hSw);go_simp;(try with_reducible rfl)));try simp only [Act.put,pA,pB,pC]
            refine tK 3 (v := ?_) ?_ ?_;rotate_left;(focus (intro w hSw;(try dsimp only at hSw);go_simp;(try with_reducible rfl)));try simp only [Act.put,pA,pB,pC]
            refine tK 4 (v := ?_) ?_ ?_;rotate_left;(focus (intro w hSw;(try dsimp only at hSw);go_simp;(try with_reducible rfl)));try simp only [Act.put,pA,pB,pC]
            refine wpAnyH_ready (rs := [5, 6]) (by kernel_rfl) (by simp) ?_
            refine held_cons 5 rfl (by rfl) (fun K hK => ?_) (held_cons 6 rfl (by rfl) (fun K hK => ?_) AllReadyH.nil)
            go_simp; refine hK.out _ _ (by (try dsimp only); (exact xX)) (fun hHeld => ?_); clear hK K; try simp only [Act.put,pA,pB,pC]
            refine held_do 6 rfl (by kernel_rfl) (by rfl) (fun K hK => ?_); go_simp; refine hK.out _ _ (by (try dsimp only); (exact xX)) (fun hHeld => ?_); clear hK K; try simp only [Act.put,pA,pB,pC]
            refine held_do 7 rfl (by kernel_rfl) (by rfl) (fun K hK => ?_); go_simp; (first | (refine (KP5.out _ _ (by have := HP4.out; (exact prX)) (HROW4.out.ext (Ext.refl _).drew) (by rintro p ⟨rfl⟩; show W4.heap.size ≠ pb; omega)).mono ?_; intro e w5 hh; obtain ⟨v5, rfl, ⟨ab, nb, cb, rfl, fb, b1, b2, hTb⟩, hp5, x5⟩ := hh.ok; have y5 : ExtX (· = pb) W4 w5 := (((ExtX.refl W4).alloc _).drew).trans x5; have z5 := y5.mono (A' := fun b => b = pb ∨ b = w.heap.size) (fun b h => .inl h); have hTb2 : IsTmsA (fun b => b ≤ w.heap.size) w5 kb ab nb := hTb.off (fun b _ hb => (by have hb : b ≤ w.heap.size := hb; simp; omega)); have hTk5 := HT4.out.extx (X := (· = pb)) y5 (fun b e => by have e : b = pb := e; show b ≤ w.heap.size; omega); have hs5 := y5.size; have KO := Lib.hid fun W (y : Ext w5 W) => parse_op (fun b => b ≤ w.heap.size) tk.text j hj HJX.out x xb ks kb ak ab nk nb ck cb W k1 k2 b1 b2 HFX.out fb (hTk5.ext y) (hTb2.ext y) (fun b hb => by have := y.size; have hb : b ≤ w.heap.size := hb; omega); clear hTb hTb2 hTk5 hh)); (try (focus (go_wp2_with fail))); refine hK.out _ _ (by (try dsimp only); (exact xX)) (fun hHeld => ?_); clear hK K; try simp only [Act.put,pA,pB,pC]
            refine held_do 8 rfl (by kernel_rfl) (by rfl) (fun K hK => ?_); go_simp; (first | (go_at_call 118; refine (KO.out _ (by (exact eX))).mono ?_; rintro e w6 ⟨g6, rfl, h6, x6⟩; have y56 : Ext w5 w6 := (by (exact eX) : Ext w5 _).trans x6; have y6 : ExtX (· = pb) W4 w6 := ExtX.then_ y5 y56; have z6 := y6.mono (A' := fun b => b = pb ∨ b = w.heap.size) (fun b h => .inl h); have hB6 := HZ4.out.nez y6 (by omega); obtain ⟨d0, d1, d2, d3, d4, d5, d6, d7⟩ := hB6.eight; obtain ⟨f0, f1, f2, f3, f4, f5, f6, f7⟩ := hB6.frozen8; have hl6 := hB6.lt; have HL6 : Hid (Laid8 pb w w6 { hd0 9 x.pos with op := (j : Int) + 1 } [.mk x ks, .mk xb kb] (some ⟨g6, 0, none⟩) 2 2 l3) := Lib.hid ⟨hB6, hd9_fits HFX.out (by omega) (by omega) 9 (by omega) (by omega), Nat.le_refl _, by omega, h6, hp5.ext y56, Y1.out.trans (Y4.out.trans y6), hlt⟩; clear hB6 h6) | (refine (KP5.out _ _ (by have := HP4.out; (exact prX)) (HROW4.out.ext (Ext.refl _).drew) (by rintro p ⟨rfl⟩; show W4.heap.size ≠ pb; omega)).mono ?_; intro e w5 hh; obtain ⟨v5, rfl, ⟨ab, nb, cb, rfl, fb, b1, b2, hTb⟩, hp5, x5⟩ := hh.ok; have y5 : ExtX (· = pb) W4 w5 := (((ExtX.refl W4).alloc _).drew).trans x5; have z5 := y5.mono (A' := fun b => b = pb ∨ b = w.heap.size) (fun b h => .inl h); have hTb2 : IsTmsA (fun b => b ≤ w.heap.size) w5 kb ab nb := hTb.off (fun b _ hb => (by have hb : b ≤ w.heap.size := hb; simp; omega)); have hTk5 := HT4.out.extx (X := (· = pb)) y5 (fun b e => by have e : b = pb := e; show b ≤ w.heap.size; omega); have hs5 := y5.size; have KO := Lib.hid fun W (y : Ext w5 W) => parse_op (fun b => b ≤ w.heap.size) tk.text j hj HJX.out x xb ks kb ak ab nk nb ck cb W k1 k2 b1 b2 HFX.out fb (hTk5.ext y) (hTb2.ext y) (fun b hb => by have := y.size; have hb : b ≤ w.heap.size := hb; omega); clear hTb hTb2 hTk5 hh)); (try (focus (go_wp2_with fail))); refine hK.out _ _ (by (try dsimp only); (exact xX)) (fun hHeld => ?_); clear hK K; try simp only [Act.put,pA,pB,pC]
            refine held_do 9 rfl (by kernel_rfl) (by rfl) (fun K hK => ?_); go_simp; refine hK.out _ _ (by (try dsimp only); (exact xX)) (fun hHeld => ?_); clear hK K; try simp only [Act.put,pA,pB,pC]
            refine wpAnyH_done (by kernel_rfl) ?_ _
            rotate_left 1
            go_simp; refine hK.out _ _ (by (try dsimp only); (exact xX)) (fun hHeld => ?_); clear hK K; try simp only [Act.put,pA,pB,pC]
            refine held_do 5 rfl (by kernel_rfl) (by rfl) (fun K hK => ?_); go_simp; refine hK.out _ _ (by (try dsimp only); (exact xX)) (fun hHeld => ?_); clear hK K; try simp only [Act.put,pA,pB,pC]
            refine held_do 7 rfl (by kernel_rfl) (by rfl) (fun K hK => ?_); go_simp; (first | (refine (KP5.out _ _ (by have := HP4.out; (exact prX)) (HROW4.out.ext (Ext.refl _).drew) (by rintro p ⟨rfl⟩; show W4.heap.size ≠ pb; omega)).mono ?_; intro e w5 hh; obtain ⟨v5, rfl, ⟨ab, nb, cb, rfl, fb, b1, b2, hTb⟩, hp5, x5⟩ := hh.ok; have y5 : ExtX (· = pb) W4 w5 := (((ExtX.refl W4).alloc _).drew).trans x5; have z5 := y5.mono (A' := fun b => b = pb ∨ b = w.heap.size) (fun b h => .inl h); have hTb2 : IsTmsA (fun b => b ≤ w.heap.size) w5 kb ab nb := hTb.off (fun b _ hb => (by have hb : b ≤ w.heap.size := hb; simp; omega)); have hTk5 := HT4.out.extx (X := (· = pb)) y5 (fun b e => by have e : b = pb := e; show b ≤ w.heap.size; omega); have hs5 := y5.size; have KO := Lib.hid fun W (y : Ext w5 W) => parse_op (fun b => b ≤ w.heap.size) tk.text j hj HJX.out x xb ks kb ak ab nk nb ck cb W k1 k2 b1 b2 HFX.out fb (hTk5.ext y) (hTb2.ext y) (fun b hb => by have := y.size; have hb : b ≤ w.heap.size := hb; omega); clear hTb hTb2 hTk5 hh)); (try (focus (go_wp2_with fail))); refine hK.out _ _ (by (try dsimp only); (exact xX)) (fun hHeld => ?_); clear hK K; try simp only [Act.put,pA,pB,pC]
            refine held_do 8 rfl (by kernel_rfl) (by rfl) (fun K hK => ?_); go_simp; (first | (go_at_call 118; refine (KO.out _ (by (exact eX))).mono ?_; rintro e w6 ⟨g6, rfl, h6, x6⟩; have y56 : Ext w5 w6 := (by (exact eX) : Ext w5 _).trans x6; have y6 : ExtX (· = pb) W4 w6 := ExtX.then_ y5 y56; have z6 := y6.mono (A' := fun b => b = pb ∨ b = w.heap.size) (fun b h => .inl h); have hB6 := HZ4.out.nez y6 (by omega); obtain ⟨d0, d1, d2, d3, d4, d5, d6, d7⟩ := hB6.eight; obtain ⟨f0, f1, f2, f3, f4, f5, f6, f7⟩ := hB6.frozen8; have hl6 := hB6.lt; have HL6 : Hid (Laid8 pb w w6 { hd0 9 x.pos with op := (j : Int) + 1 } [.mk x ks, .mk xb kb] (some ⟨g6, 0, none⟩) 2 2 l3) := Lib.hid ⟨hB6, hd9_fits HFX.out (by omega) (by omega) 9 (by omega) (by omega), Nat.le_refl _, by omega, h6, hp5.ext y56, Y1.out.trans (Y4.out.trans y6), hlt⟩; clear hB6 h6) | (refine (KP5.out _ _ (by have := HP4.out; (exact prX)) (HROW4.out.ext (Ext.refl _).drew) (by rintro p ⟨rfl⟩; show W4.heap.size ≠ pb; omega)).mono ?_; intro e w5 hh; obtain ⟨v5, rfl, ⟨ab, nb, cb, rfl, fb, b1, b2, hTb⟩, hp5, x5⟩ := hh.ok; have y5 : ExtX (· = pb) W4 w5 := (((ExtX.refl W4).alloc _).drew).trans x5; have z5 := y5.mono (A' := fun b => b = pb ∨ b = w.heap.size) (fun b h => .inl h); have hTb2 : IsTmsA (fun b => b ≤ w.heap.size) w5 kb ab nb := hTb.off (fun b _ hb => (by have hb : b ≤ w.heap.size := hb; simp; omega)); have hTk5 := HT4.out.extx (X := (· = pb)) y5 (fun b e => by have e : b = pb := e; show b ≤ w.heap.size; omega); have hs5 := y5.size; have KO := Lib.hid fun W (y : Ext w5 W) => parse_op (fun b => b ≤ w.heap.size) tk.text j hj HJX.out x xb ks kb ak ab nk nb ck cb W k1 k2 b1 b2 HFX.out fb (hTk5.ext y) (hTb2.ext y) (fun b hb => by have := y.size; have hb : b ≤ w.heap.size := hb; omega); clear hTb hTb2 hTk5 hh)); (try (focus (go_wp2_with fail))); refine hK.out _ _ (by (try dsimp only); (exact xX)) (fun hHeld => ?_); clear hK K; try simp only [Act.put,pA,pB,pC]
            refine held_do 9 rfl (by kernel_rfl) (by rfl) (fun K hK => ?_); go_simp; refine hK.out _ _ (by (try dsimp only); (exact xX)) (fun hHeld => ?_); clear hK K; try simp only [Act.put,pA,pB,pC]
            refine wpAnyH_done (by kernel_rfl) ?_ _
            rotate_left 1
            all_goals
              go_wp2_with fail
              exact HL6.out.ret (fun w2 r0 r1 r2 r3 r4 r5 r6 r7 => by simp [results, Tryz.results92, go_sem, r0, r1, r2, r3, r4, r5, r6, r7]) rfl
end Go.Proofs.YtaioeailgknfjaaGreatDoor
namespace Go.Proofs.YtaioeailgknfjaaGreatDoor
open Go Go.RowKit Go.Sort

theorem row_one1 (w : World) (o : Obj) (x : ByteArray) (t : TypeId) : IsRow ((w.alloc o).alloc (.cells #[.string x] t)) (vstr [x]) (some ⟨w.heap.size + 1, 0, none⟩) 1 := row_new1 w o t (vstr [x])
theorem row_one0 (w : World) (x : ByteArray) (t : TypeId) : IsRow (w.alloc (.cells #[.string x] t)) (vstr [x]) (some ⟨w.heap.size, 0, none⟩) 1 := IsRow.new w t (vstr [x])
set_option maxRecDepth 8000 in
set_option maxHeartbeats 8000000 in
theorem parse_set (f : Nat) (hF : ∀ g, g ≤ f → Does 92 (.lvl 1) g) : Does 57 (.lvl 0) (f + 1) := by
  intro pb w l r h he hp
  have hlt := h.lt
  have hp2 : andThen (parseF f (.lvl 1) l) (fun a l1 => if isT [s_set] l1 then andThen (parseF f (.lvl 1) l1.tail) fun b l2 => some (.ok (putT (textT l1) a b, l2)) else some (.ok (a, l1))) = some r := by
    unfold parseF at hp
    rw [if_pos (by omega)] at hp
    exact hp
  have y0 : Ext w (w.alloc (.cells #[.int .u8 0, .int .u8 0, .int .i64 0, .int .i64 0, .string ⟨#[]⟩, .string ⟨#[]⟩, .string ⟨#[]⟩, .slice none 0 0] 28)) := (Ext.refl w).alloc _
  have hZ0 := (Blk.new w 28 #[.int .u8 0, .int .u8 0, .int .i64 0, .int .i64 0, .string ⟨#[]⟩, .string ⟨#[]⟩, .string ⟨#[]⟩, .slice none 0 0])
  cases e1 : parseF f (.lvl 1) l with
  | none => rw [e1] at hp2; cases hp2
  | some r1 =>
    have KP := Lib.hid fun W (x : Ext w W) => hF f (Nat.le_refl _) pb W l r1 (h.ext x) he e1
    rw [e1] at hp2
    have Y0 := Lib.hid y0
    have HZ0 := Lib.hid hZ0
    have HF := Lib.hid hF
    cases r1 with
    | error l' =>
      cases hp2
      clear hp e1 h hF y0 hZ0
      go_enter Tryz.func57, Tryz.ntmps57
      go_wp2_with fail
      refine (KP.out _ Y0.out).mono ?_
      intro e w1 hh
      obtain ⟨rfl, x1⟩ := hh.error
      exact ⟨rfl, (ExtX.of Y0.out).trans x1, rfl⟩
    | ok p =>
      obtain ⟨⟨x, ks⟩, l1⟩ := p
      rw [andThen_ok] at hp2
      have he1 : Ended l1 := (parseF_told he e1).1
      have HP2 := Lib.hid hp2
      have HE1 := Lib.hid he1
      clear hp e1 h hF hp2 y0 hZ0 he1
      go_enter Tryz.func57, Tryz.ntmps57
      go_wp2_with fail
      refine (KP.out _ Y0.out).mono ?_
      intro e w1 hh
      obtain ⟨v, rfl, ⟨ak, nk, ck, rfl, hfx, k1, k2, hTk0⟩, hP1, x1⟩ := hh.ok
      have hTk : IsTmsA (fun b => b ≤ w.heap.size) w1 ks ak nk := hTk0.off fun b _ hb => (by have hb : b ≤ w.heap.size := hb; simp; omega)
      have hZ1 := HZ0.out.extx x1 (by omega)
      have hs1 := hZ1.lt
      have y1 : ExtX (· = pb) w w1 := (ExtX.of Y0.out).trans x1
      have hpl := hP1.lt
      cases l1 with
      | nil => cases HE1.out
      | cons tk l2 =>
      have KI := Lib.hid fun W (y : Ext w1 W) (a : Option Addr) (hr : IsRow W (vstr [s_set]) a 1) => parse_is [s_set] pb tk l2 W a 1 1 (Nat.le_refl _) (by omega) hr (hP1.ext y)
      have HTk := Lib.hid hTk
      have HFX := Lib.hid hfx
      have HP1 := Lib.hid hP1
      have HZ1 := Lib.hid hZ1
      have Y1 := Lib.hid y1
      clear hh hTk0 hTk hfx hP1 hZ1 x1 y1
      have hp2 := HP2.out
      cases hi : isT [s_set] (tk :: l2) with
      | false =>
        rw [if_neg (by rw [hi]; simp)] at hp2
        cases hp2
        rw [hi] at KI
        clear hi
        go_wp2_with fail
        refine (KI.out _ (by (exact eX)) _ (row_one1 w1 _ _ _)).mono ?_
        rintro e w2 ⟨rfl, x2⟩
        have y2 : Ext w1 w2 := by (exact eX)
        have hT2 := blk_under x2
        have hZ2 := HZ1.out.ext y2
        obtain ⟨c0, c1, c2, c3, c4, c5, c6, c7⟩ := hT2.eight
        obtain ⟨z0, z1, z2, z3, z4, z5, z6, z7⟩ := hZ2.eight
        obtain ⟨f0, f1, f2, f3, f4, f5, f6, f7⟩ := hZ2.frozen8
        have hlz := hZ2.lt
        have HL : Hid (Laid8 pb w w2 x ks ak nk ck (tk :: l2)) := Lib.hid ⟨hZ2, HFX.out, k1, k2, HTk.out.ext y2, HP1.out.ext y2, Y1.out.then_ y2, hlt⟩
        clear hT2 hZ2 y2 x2
        go_wp2_with fail
        exact HL.out.ret (fun w2 r0 r1 r2 r3 r4 r5 r6 r7 => by simp [results, Tryz.results57, go_sem, r0, r1, r2, r3, r4, r5, r6, r7]) rfl
      | true =>
        rw [if_pos hi] at hp2
        rw [hi] at KI
        have hk6 : tk.k ≠ 6 := isT_kind hi
        obtain ⟨hl2, he2⟩ := HE1.out.tail_ne hk6
        obtain ⟨tk', r', e', -, hsg, -⟩ := isT_ne hi
        cases e'
        have hts : tk.text = s_set := by simpa using hsg
        have HTS := Lib.hid hts
        have KT := Lib.hid fun W (y : Ext w1 W) => parse_take pb tk l2 W (HP1.out.ext y)
        have HPM := Lib.hid hp2
        have HE2 := Lib.hid he2
        have HL2 := Lib.hid hl2
        clear hi hp2 he2 hl2 hsg hts
        go_wp2_with fail
        refine (KI.out _ (by (exact eX)) _ (row_one1 w1 _ _ _)).mono ?_
        rintro e w2 ⟨rfl, x2⟩
        have y2 : Ext w1 w2 := by (exact eX)
        have hT2 := blk_under x2
        go_wp2_with fail
        refine (KT.out _ y2).mono ?_
        rintro e W4 ⟨rfl, x3, hp3⟩
        have y3 : ExtX (· = pb) w1 W4 := (ExtX.of y2).trans x3
        have P3 := hp3 HL2.out
        have hl2' := hT2.lt
        have hl3 := x3.size
        have hB4 := hT2.nez x3 (by omega)
        have hZ4 := HZ1.out.nez y3 (by omega)
        have hT4 := HTk.out.extx (X := (· = pb)) y3 (fun b e => by have e : b = pb := e; show b ≤ w.heap.size; omega)
        have hl41 : w1.heap.size < W4.heap.size := hB4.lt
        have hl40 : w.heap.size < W4.heap.size := hZ4.lt
        have HP4 := Lib.hid P3
        have Y4 := Lib.hid y3
        have hne1 : ¬ (w1.heap.size = pb ∨ w1.heap.size = w.heap.size) := by omega
        have c0 := fun W (h : ExtX (fun b => b = pb ∨ b = w.heap.size) W4 W) => (hB4.extx h hne1).eight.1
        have c1 := fun W (h : ExtX (fun b => b = pb ∨ b = w.heap.size) W4 W) => (hB4.extx h hne1).eight.2.1
        have c2 := fun W (h : ExtX (fun b => b = pb ∨ b = w.heap.size) W4 W) => (hB4.extx h hne1).eight.2.2.1
        have c3 := fun W (h : ExtX (fun b => b = pb ∨ b = w.heap.size) W4 W) => (hB4.extx h hne1).eight.2.2.2.1
        have c4 := fun W (h : ExtX (fun b => b = pb ∨ b = w.heap.size) W4 W) => (hB4.extx h hne1).eight.2.2.2.2.1
        have c5 := fun W (h : ExtX (fun b => b = pb ∨ b = w.heap.size) W4 W) => (hB4.extx h hne1).eight.2.2.2.2.2.1
        have c6 := fun W (h : ExtX (fun b => b = pb ∨ b = w.heap.size) W4 W) => (hB4.extx h hne1).eight.2.2.2.2.2.2.1
        have c7 := fun W (h : ExtX (fun b => b = pb ∨ b = w.heap.size) W4 W) => (hB4.extx h hne1).eight.2.2.2.2.2.2.2
        have HZ4 := Lib.hid hZ4
        have HT4 := Lib.hid hT4
        clear hZ4 hT4 y3 P3 hp3 x3 x2 y2 hT2
        cases e5 : parseF f (.lvl 1) l2 with
        | none => have := HPM.out; rw [List.tail_cons, e5] at this; cases this
        | some r5 =>
          have KP5 := Lib.hid fun W (hP : Prs W pb l2) => HF.out f (Nat.le_refl _) pb W l2 r5 hP HE2.out e5
          have hpm := HPM.out
          rw [List.tail_cons, e5] at hpm
          cases r5 with
          | error l' =>
            cases hpm
            clear e5
            go_upto_region 5 with fail
            refine wp_region_held_drew (S := fun w' => ExtX (fun b => b = pb ∨ b = w.heap.size) W4 w') (by kernel_rfl) (by (try dsimp only); (exact xX)) (fun hHeld => ?_)
            refine tK 0 (v := ?_) ?_ ?_;rotate_left;(focus (intro w hSw;(try dsimp only at hSw);go_simp;(try with_reducible rfl)));try simp only [Act.put,pA,pB,pC]
            refine tK 1 (v := ?_) ?_ ?_;rotate_left;(focus (intro w hSw;(try dsimp only at hSw);go_simp;(try with_reducible rfl)));try simp only [Act.put,pA,pB,pC]
            refine tK 2 (v := ?_) ?_ ?_;rotate_left;(focus (intro w hSw;(try dsimp only at hSw);go_simp;(try with_reducible rfl)));try simp only [Act.put,pA,pB,pC]
            refine tK 3 (v := ?_) ?_ ?_;rotate_left;(focus (intro w hSw;(try dsimp only at hSw);go_simp;(try with_reducible rfl)));try simp only [Act.put,pA,pB,pC]
            refine tK 4 (v := ?_) ?_ ?_;rotate_left;(focus (intro w hSw;(try dsimp only at hSw);go_simp;(try with_reducible rfl)));try simp only [Act.put,pA,pB,pC]
            refine held_do 5 rfl (by kernel_rfl) (by rfl) (fun K hK => ?_); go_simp; (first | (refine (KP5.out _ (by have := HP4.out; (exact prX))).mono ?_; intro e w5 hh; obtain ⟨rfl, x5⟩ := hh.error; exact ⟨rfl, (Y1.out.trans Y4.out).trans (((ExtX.refl W4).drew : ExtX (· = pb) W4 _).trans x5), rfl⟩))
          | ok p5 =>
            obtain ⟨⟨xb, kb⟩, l3⟩ := p5
            rw [andThen_ok] at hpm
            have hput : putT tk.text (.mk x ks) (.mk xb kb) = .mk (hd0 8 x.pos) [.mk x ks, .mk xb kb] := by
              unfold putT
              rw [if_pos HTS.out]
              rfl
            have hr : r = .ok (.mk (hd0 8 x.pos) [.mk x ks, .mk xb kb], l3) := by
              rw [show textT (tk :: l2) = tk.text from rfl, hput] at hpm
              cases hpm
              rfl
            subst hr
            clear e5 hpm hput
            go_upto_region 5 with fail
            refine wp_region_held_drew (S := fun w' => ExtX (fun b => b = pb ∨ b = w.heap.size) W4 w') (by kernel_rfl) (by (try dsimp only); (exact xX)) (fun hHeld => ?_)
            refine tK 0 (v := ?_) ?_ ?_;rotate_left;(focus (intro w hSw;(try dsimp only at hSw);go_simp;(try with_reducible rfl)));try simp only [Act.put,pA,pB,pC]
            refine tK 1 (v := ?_) ?_ ?_;rotate_left;(focus (intro w hSw;(try dsimp only at hSw);go_simp;(try with_reducible rfl)));try simp only [Act.put,pA,pB,pC]
            refine tK 2 (v := ?_) ?_ ?_;rotate_left;(focus (intro w hSw;(try dsimp only at hSw);go_simp;(try with_reducible rfl)));try simp only [Act.put,pA,pB,pC]
            refine tK 3 (v := ?_) ?_ ?_;rotate_left;(focus (intro w hSw;(try dsimp only at hSw);go_simp;(try with_reducible rfl)));try simp only [Act.put,pA,pB,pC]
            refine tK 4 (v := ?_) ?_ ?_;rotate_left;(focus (intro w hSw;(try dsimp only at hSw);go_simp;(try with_reducible rfl)));try simp only [Act.put,pA,pB,pC]
            refine held_do 5 rfl (by kernel_rfl) (by rfl) (fun K hK => ?_); go_simp; (first | (refine (KP5.out _ (by have := HP4.out; (exact prX))).mono ?_; intro e w5 hh; obtain ⟨v5, rfl, ⟨ab, nb, cb, rfl, fb, b1, b2, hTb⟩, hp5, x5⟩ := hh.ok; have y5 : ExtX (· = pb) W4 w5 := ((ExtX.refl W4).drew).trans x5; have z5 := y5.mono (A' := fun b => b = pb ∨ b = w.heap.size) (fun b h => .inl h); have hTb2 : IsTmsA (fun b => b ≤ w.heap.size) w5 kb ab nb := hTb.off (fun b _ hb => (by have hb : b ≤ w.heap.size := hb; simp; omega)); have hTk5 := HT4.out.extx (X := (· = pb)) y5 (fun b e => by have e : b = pb := e; show b ≤ w.heap.size; omega); have hs5 := y5.size; have HTk5 := Lib.hid hTk5; have HTb2 := Lib.hid hTb2; clear hTb hTb2 hTk5 hh)); (try (focus (go_wp2_with fail))); refine hK.out _ _ (by (try dsimp only); (exact xX)) (fun hHeld => ?_); clear hK K; try simp only [Act.put,pA,pB,pC]
            refine held_do 6 rfl (by kernel_rfl) (by rfl) (fun K hK => ?_); go_simp; refine hK.out _ _ (by (try dsimp only); (exact xX)) (fun hHeld => ?_); clear hK K; try simp only [Act.put,pA,pB,pC]
            refine held_do 7 rfl (by kernel_rfl) (by rfl) (fun K hK => ?_); go_simp; (first | (go_at_call 58; refine (parse_node _ _ _ _ _ _).mono ?_; rintro e w6 ⟨rfl, x6⟩; have hG6 := blk_top x6; have y56 : Ext w5 w6 := (by (exact eX) : Ext w5 _).trans x6; have y6 : ExtX (· = pb) W4 w6 := ExtX.then_ y5 y56; have z6 := y6.mono (A' := fun b => b = pb ∨ b = w.heap.size) (fun b h => .inl h); have hB6 := HZ4.out.nez y6 (by omega); obtain ⟨d0, d1, d2, d3, d4, d5, d6, d7⟩ := hB6.eight; obtain ⟨f0, f1, f2, f3, f4, f5, f6, f7⟩ := hB6.frozen8; have hl6 := hB6.lt; have HL6 : Hid (Laid8 pb w w6 (hd0 8 x.pos) [.mk x ks, .mk xb kb] (some ⟨w5.heap.size, 0, none⟩) 2 2 l3) := Lib.hid ⟨hB6, hd0_fits (by omega) (by omega) HFX.out.pos0 HFX.out.pos1, Nat.le_refl _, by omega, pair_row (A := fun b => b ≤ w.heap.size) y56 k1 k2 b1 b2 HFX.out fb HTk5.out HTb2.out (by show ¬ w5.heap.size ≤ w.heap.size; omega) hG6, hp5.ext y56, Y1.out.trans (Y4.out.trans y6), hlt⟩; clear hB6 hG6) | (refine (KP5.out _ (by have := HP4.out; (exact prX))).mono ?_; intro e w5 hh; obtain ⟨v5, rfl, ⟨ab, nb, cb, rfl, fb, b1, b2, hTb⟩, hp5, x5⟩ := hh.ok; have y5 : ExtX (· = pb) W4 w5 := ((ExtX.refl W4).drew).trans x5; have z5 := y5.mono (A' := fun b => b = pb ∨ b = w.heap.size) (fun b h => .inl h); have hTb2 : IsTmsA (fun b => b ≤ w.heap.size) w5 kb ab nb := hTb.off (fun b _ hb => (by have hb : b ≤ w.heap.size := hb; simp; omega)); have hTk5 := HT4.out.extx (X := (· = pb)) y5 (fun b e => by have e : b = pb := e; show b ≤ w.heap.size; omega); have hs5 := y5.size; have HTk5 := Lib.hid hTk5; have HTb2 := Lib.hid hTb2; clear hTb hTb2 hTk5 hh)); (try (focus (go_wp2_with fail))); refine hK.out _ _ (by (try dsimp only); (exact xX)) (fun hHeld => ?_); clear hK K; try simp only [Act.put,pA,pB,pC]
            refine held_do 8 rfl (by kernel_rfl) (by rfl) (fun K hK => ?_); go_simp; refine hK.out _ _ (by (try dsimp only); (exact xX)) (fun hHeld => ?_); clear hK K; try simp only [Act.put,pA,pB,pC]
            refine wpAnyH_done (by kernel_rfl) ?_ _
            all_goals
              go_wp2_with fail
              exact HL6.out.ret (fun w2 r0 r1 r2 r3 r4 r5 r6 r7 => by simp [results, Tryz.results57, go_sem, r0, r1, r2, r3, r4, r5, r6, r7]) rfl
end Go.Proofs.YtaioeailgknfjaaGreatDoor


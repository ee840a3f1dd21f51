/- Part 9 of the proof: Token1; no condition of ours. -/
import Derived.Test.YtaioeailgknfjaaGreatDoorPkp2
import Derived.Test.YtaioeailgknfjaaGreatDoorPkp3
import Derived.Test.YtaioeailgknfjaaGreatDoorPkp7
import Derived.Test.YtaioeailgknfjaaGreatDoorPkp8
set_option linter.unusedVariables false
set_option linter.unusedSimpArgs false
namespace Go.Proofs.YtaioeailgknfjaaGreatDoor
open Go.Lib (hid)
open Go Go.RowKit Go.Sort
theorem lt_of_some_ {α : Type} {L : List α} {i : Nat} {c : α} (h : L[i]? = some c) : i < L.length := by
  rcases Nat.lt_or_ge i L.length with h' | h'
  · exact h'
  · rw [List.getElem?_eq_none h'] at h; cases h
theorem push_bytes (l : List UInt8) : ∀ s : ByteArray, (l.map fun b => (b.toNat : Int)).foldl (fun r n => r.push (UInt8.ofNat n.toNat)) s = ⟨s.data ++ l.toArray⟩ := by
  induction l with
  | nil => intro s; simp
  | cons b l ih =>
    intro s
    simp only [List.map_cons, List.foldl_cons]
    rw [ih]
    simp [ByteArray.push]
theorem conv_bytes {w : World} {B : List UInt8} {b o len : Nat} (h : IsBytes w B (some ⟨b, o, none⟩) len) (i n c : Nat) (hn : i + n ≤ len) :
    (convert 22 9 (.slice (some ⟨b, o + i, none⟩) n c)).run Tryz.prog w = .ok (.string (bs ((B.drop i).take n))) w := by
  rw [run_convert_bytes_string w 22 9 5 _ _ _ Tryz.underlying22 Tryz.underlying5 Tryz.underlying9]
  have hlen : len = B.length := by
    have := h.1
    rw [vby_il_length, bs_size] at this
    exact this
  have hl : (loadCells ⟨b, o + i, none⟩ n).run Tryz.prog w = .ok ((((B.drop i).take n).map fun b => (b.toNat : Int)).map (Value.int .u8)).toArray w := by
    have hlc : ((((B.drop i).take n).map fun b => (b.toNat : Int)).map (Value.int .u8)).length = n := by
      simp only [List.length_map, List.length_take, List.length_drop]
      omega
    have hr := run_loadCells_list (P := Tryz.prog) (w := w) ⟨b, o + i, none⟩ ((((B.drop i).take n).map fun b => (b.toNat : Int)).map (Value.int .u8)) (fun j v hj => by
      have hjn : j < n := by have := lt_of_some_ hj; omega
      have hj2 : (vby (il (bs B)))[i + j]? = some v := by
        unfold vby
        rw [il_bs, List.map_map]
        rw [List.map_map] at hj
        rw [List.getElem?_map] at hj ⊢
        rw [List.getElem?_take_of_lt hjn, List.getElem?_drop] at hj
        exact hj
      obtain ⟨b', o', e, q⟩ := h.2 (i + j) v hj2
      cases e
      rw [Addr.add_lit, Nat.add_assoc]
      exact q)
    rw [hlc] at hr
    exact hr
  rw [run_bytesToString w _ n c _ hl]
  congr 1
  rw [push_bytes]
  simp [bs]
set_option maxHeartbeats 1000000 in
theorem token_kind (s : ByteArray) (w : World) (hk : Knob w) : Calls Tryz.prog 114 #[.string s] w fun e w' => e = .returned (.int .u8 (kindOf s)) ∧ Ext w w' := by
  have K1 := hid fun W => words_number s W
  have K2 := hid fun W (h : Ext w W) => words_keyword s W (hk.ext h)
  have K3 := hid fun W b (h : Ext w W) (hr : IsRow W (vstr [s]) b 1) => words_name [s] W b 1 1 (Nat.le_refl _) (by omega) (hk.ext h) hr
  have K4 := hid fun W b (h : Ext w W) (hr : IsRow W (vstr [s]) b 1) => words_exn [s] W b 1 1 (Nat.le_refl _) (by omega) (hk.ext h) hr
  have HK : Hid (kindOf s = if numB s then 1 else if 0 < kwd s then 4 else if isName s then 2 else if isExn s then 3 else 0) := rfl
  have hkw := kwd_le s
  simp only [List.all_cons, List.all_nil, Bool.and_true] at K3 K4
  unfold RetN at K1
  generalize kindOf s = res at *
  generalize numB s = nb at *
  generalize numV s = nv at *
  generalize kwd s = kw at *
  generalize isName s = nm at *
  generalize isExn s = ex at *
  clear hk
  cases nb
  case true =>
    go_enter Tryz.func114, Tryz.ntmps114
    go_wp2_with (go_at_call 130; refine (K1.out _).mono ?_; rintro e w1 ⟨rfl, x1⟩)
    go_ret
    exact ⟨by rw [HK.out]; rfl, x1⟩
  by_cases hkw0 : 0 < kw
  · have hd : decide ((0 : Int) < (kw : Int)) = true := by simp; omega
    have hz : (0 : Int) < (kw : Int) := by omega
    have HKW := hid hkw0
    go_enter Tryz.func114, Tryz.ntmps114
    go_wp2_with (first | (go_at_call 130; refine (K1.out _).mono ?_; rintro e w1 ⟨rfl, x1⟩) | (go_at_call 123; refine (K2.out _ x1).mono ?_; rintro e w2 ⟨rfl, x2⟩))
    go_ret
    have hk9 := HK.out
    rw [if_neg (by simp), if_pos HKW.out] at hk9
    rw [hk9]
    exact ⟨rfl, x1.trans x2⟩
  have hz : kw = 0 := by omega
  subst hz
  cases nm
  case true =>
    go_enter Tryz.func114, Tryz.ntmps114
    go_wp2_with (first | (go_at_call 130; refine (K1.out _).mono ?_; rintro e w1 ⟨rfl, x1⟩) | (go_at_call 123; refine (K2.out _ x1).mono ?_; rintro e w2 ⟨rfl, x2⟩) | (go_at_call 103; refine (K3.out _ _ ((x1.trans x2).alloc _) (IsRow.new w2 _ (vstr [s]))).mono ?_; rintro e w3 ⟨rfl, x3⟩))
    go_ret
    exact ⟨by rw [HK.out]; rfl, (x1.trans x2).trans (((Ext.refl _).alloc _).trans x3)⟩
  cases ex
  all_goals
    go_enter Tryz.func114, Tryz.ntmps114
    go_wp2_with (first | (go_at_call 130; refine (K1.out _).mono ?_; rintro e w1 ⟨rfl, x1⟩) | (go_at_call 123; refine (K2.out _ x1).mono ?_; rintro e w2 ⟨rfl, x2⟩) | (go_at_call 103; refine (K3.out _ _ ((x1.trans x2).alloc _) (IsRow.new w2 _ (vstr [s]))).mono ?_; rintro e w3 ⟨rfl, x3⟩; have y3 : Ext w w3 := (x1.trans x2).trans (((Ext.refl _).alloc _).trans x3)) | (go_at_call 52; refine (K4.out _ _ (y3.alloc _) (IsRow.new w3 _ (vstr [s]))).mono ?_; rintro e w4 ⟨rfl, x4⟩))
    go_ret
    exact ⟨by rw [HK.out]; rfl, y3.trans (((Ext.refl _).alloc _).trans x4)⟩
theorem IsBytes.length {w : World} {B : List UInt8} {a : Option Addr} {len : Nat} (h : IsBytes w B a len) : len = B.length := by
  have := h.1
  rw [vby_il_length, bs_size] at this
  exact this
theorem IsBytes.ext {w w' : World} (hx : Ext w w') {B : List UInt8} {a : Option Addr} {len : Nat} (h : IsBytes w B a len) : IsBytes w' B a len := IsRow.ext hx h
theorem il_drop (B : List UInt8) (k : Nat) : (il (bs B)).drop k = il (bs (B.drop k)) := by rw [il_bs, il_bs, List.map_drop]
theorem IsBytes.drop {w : World} {B : List UInt8} {b o len : Nat} (h : IsBytes w B (some ⟨b, o, none⟩) len) (k : Nat) : IsBytes w (B.drop k) (some ⟨b, o + k, none⟩) (len - k) := by
  have := IsRow.drop (k := k) h
  rw [vby_drop, il_drop] at this
  exact this
theorem IsBytes.at_ {w : World} {B : List UInt8} {a : Option Addr} {len i : Nat} (h : IsBytes w B a len) (hi : i < len) : ∃ c b o, B[i]? = some c ∧ a = some ⟨b, o, none⟩ ∧ w.cell? ⟨b, o + i, none⟩ = some (.int .u8 (c.toNat : Int)) := by
  obtain ⟨c, b, o, g, e, q⟩ := IsRow.byte h hi
  rw [il_bs, List.getElem?_map, Option.map_eq_some_iff] at g
  obtain ⟨c', g, rfl⟩ := g
  exact ⟨c', b, o, g, e, q⟩
theorem index_colon (c : Int) (h0 : 0 ≤ c) (h1 : c ≤ 255) : decide (0 ≤ Lib.indexByte [58, 62] c.toNat.toUInt8) = decide (c = 58 ∨ c = 62) := by
  have h : ∀ n : Fin 256, decide (0 ≤ Lib.indexByte [58, 62] n.val.toUInt8) = decide ((n.val : Int) = 58 ∨ (n.val : Int) = 62) := by decide +kernel
  have := h ⟨c.toNat, by omega⟩
  rw [show ((c.toNat : Nat) : Int) = c from by omega] at this
  exact this
theorem two_in (l : List UInt8) : inB [⟨#[58, 61]⟩, ⟨#[61, 62]⟩] (bs l) = decide (l = [58, 61] ∨ l = [61, 62]) := by
  rw [Bool.eq_iff_iff, inB_iff, decide_eq_true_iff]
  have e1 : (⟨#[58, 61]⟩ : ByteArray) = bs [58, 61] := rfl
  have e2 : (⟨#[61, 62]⟩ : ByteArray) = bs [61, 62] := rfl
  rw [e1, e2]
  simp [bs_inj]
theorem sign_dec (c : UInt8) (r : List UInt8) : signOf (c :: r) = if (c :: r).take 2 = [58, 61] ∨ (c :: r).take 2 = [61, 62] then 2 else if ((c.toNat : Nat) : Int) = 58 ∨ ((c.toNat : Nat) : Int) = 62 then 0 else 1 := by
  have e : ∀ (n : Nat) (h : n < 256), (((c.toNat : Nat) : Int) = (n : Int)) ↔ c = UInt8.ofNat n := by
    intro n h
    constructor
    · intro h'
      have : c.toNat = n := by omega
      subst this
      exact (UInt8.ofNat_toNat).symm
    · rintro rfl
      simp
      omega
  unfold signOf
  simp only [List.head?_cons, Option.some.injEq]
  have a1 := e 58 (by omega)
  have a2 := e 62 (by omega)
  have b1 : (((c.toNat : Nat) : Int) = 58) ↔ c = 58 := a1
  have b2 : (((c.toNat : Nat) : Int) = 62) ↔ c = 62 := a2
  simp only [b1, b2]
set_option maxHeartbeats 1000000 in
theorem token_sign (c : UInt8) (r : List UInt8) (w : World) (b o len cap : Nat) (h1 : len ≤ cap) (h2 : cap ≤ 9223372036854775807) (hr : IsBytes w (c :: r) (some ⟨b, o, none⟩) len) :
    Calls Tryz.prog 115 #[.slice (some ⟨b, o, none⟩) len cap] w fun e w' => e = .returned (.int .i64 (signOf (c :: r) : Nat)) ∧ Ext w w' := by
  have hlen := hr.length
  have hpos : 0 < len := by rw [hlen]; simp
  obtain ⟨c', b', o', g, e, q⟩ := hr.at_ hpos
  cases e
  simp at g
  subst g
  have hbb := byte_bound c
  have KI := hid fun W => Tryz.strings_IndexByte ⟨#[58, 62]⟩ ((c.toNat : Nat) : Int) W
  have hic := index_colon _ hbb.1 hbb.2
  obtain ⟨ni, hni⟩ : ∃ ni, ni = Lib.indexByte [58, 62] ((c.toNat : Nat) : Int).toNat.toUInt8 := ⟨_, rfl⟩
  rw [← hni] at hic KI
  have HS := hid (sign_dec c r)
  have KC := hid fun (W : World) => strs_contains (bs ((c :: r).take 2)) [⟨#[58, 61]⟩, ⟨#[61, 62]⟩] (W.alloc (.cells #[.string ⟨#[58, 61]⟩, .string ⟨#[61, 62]⟩] 9)) (some ⟨W.heap.size, 0, none⟩) 2 2 (Nat.le_refl _) (by omega) (IsRow.new W 9 (vstr [⟨#[58, 61]⟩, ⟨#[61, 62]⟩]))
  rw [two_in] at KC
  have hcv : ∀ W, Ext w W → ∀ k, 2 ≤ len → (convert 22 9 (.slice (some ⟨b, o, none⟩) 2 k)).run Tryz.prog W = .ok (.string (bs ((c :: r).take 2))) W := fun W hx k hk => by
    have := conv_bytes (hr.ext hx) 0 2 k (by omega)
    simpa using this
  simp only [Nat.add_zero] at q
  have HSm : Hid (∀ k, k ≤ 1 → len = k → (c :: r).take 2 ≠ [58, 61] ∧ (c :: r).take 2 ≠ [61, 62]) := hid fun k hk hl => by
    have : (c :: r).length ≤ 1 := by omega
    constructor <;> (intro e; have := congrArg List.length e; rw [List.length_take] at this; simp at this; simp at *; omega)
  clear hni hr hlen
  generalize (c :: r).take 2 = tk at *
  generalize signOf (c :: r) = res at *
  by_cases hl1 : 1 < len
  · have hz : (1 : Int) < (len : Int) := by omega
    have hcv1 := fun k => hcv _ ((Ext.refl w).alloc (.cells #[.string ⟨#[58, 61]⟩, .string ⟨#[61, 62]⟩] 9)) k (by omega)
    have hz2 : (2 : Nat) ≤ cap := by omega
    have hz3 : (2 : Int) ≤ (cap : Int) := by omega
    clear hcv
    by_cases ht : tk = [58, 61] ∨ tk = [61, 62]
    · rw [decide_eq_true ht] at KC
      rw [if_pos ht] at HS
      clear ht
      go_enter Tryz.func115, Tryz.ntmps115
      go_wp2_with (go_at_call 70; refine (KC.out _).mono ?_; rintro e w1 ⟨rfl, x1⟩)
      go_ret
      exact ⟨by rw [HS.out]; rfl, ((Ext.refl _).alloc _).trans x1⟩
    · rw [decide_eq_false ht] at KC
      rw [if_neg ht] at HS
      clear ht
      by_cases hc : ((c.toNat : Nat) : Int) = 58 ∨ ((c.toNat : Nat) : Int) = 62
      all_goals
        first
          | rw [decide_eq_true hc] at hic
          | rw [decide_eq_false hc] at hic
        first
          | rw [if_pos hc] at HS
          | rw [if_neg hc] at HS
        have HC := hid hc
        clear hc
        go_enter Tryz.func115, Tryz.ntmps115
        go_wp2_with (first | (go_at_call 70; refine (KC.out _).mono ?_; rintro e w1 ⟨rfl, x1⟩; have x1' : Ext w w1 := ((Ext.refl _).alloc _).trans x1; have q := x1'.cell q) | (go_at_call 128; refine (KI.out _).mono ?_; rintro e w2 ⟨rfl, rfl⟩))
        go_ret
        exact ⟨by rw [HS.out]; rfl, x1'⟩
  · have hz : (len : Int) ≤ 1 := by omega
    have hno := HSm.out len (by omega) rfl
    rw [if_neg (by rintro (h | h); exact hno.1 h; exact hno.2 h)] at HS
    clear hno hcv
    by_cases hc : ((c.toNat : Nat) : Int) = 58 ∨ ((c.toNat : Nat) : Int) = 62
    all_goals
      first
        | rw [decide_eq_true hc] at hic
        | rw [decide_eq_false hc] at hic
      first
        | rw [if_pos hc] at HS
        | rw [if_neg hc] at HS
      have HC := hid hc
      clear hc
      go_enter Tryz.func115, Tryz.ntmps115
      go_wp2_with (go_at_call 128; refine (KI.out _).mono ?_; rintro e w2 ⟨rfl, rfl⟩)
      go_ret
      exact ⟨by rw [HS.out]; rfl, Ext.refl _⟩
end Go.Proofs.YtaioeailgknfjaaGreatDoor

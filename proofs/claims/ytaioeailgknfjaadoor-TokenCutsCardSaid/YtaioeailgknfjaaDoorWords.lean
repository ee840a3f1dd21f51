/- The walks of package words: keywords, names. -/
import Derived.Test.YtaioeailgknfjaaDoorChars
namespace Go.Proofs.YtaioeailgknfjaaDoor
open Go Go.RowKit Go.Sort

/-- The library's bound on what is sought fast: some number. -/
def Knob (w : World) : Prop := ∃ m : Int, w.cell? ⟨0, 0, none⟩ = some (.int .i64 m)
theorem Knob.ext {w w' : World} (h : Knob w) (hx : Ext w w') : Knob w' := let ⟨m, hm⟩ := h; ⟨m, hx.cell hm⟩

/-- What the keywords are cut out of. -/
def kwText : ByteArray := ⟨#[32, 108, 101, 116, 32, 108, 101, 116, 114, 101, 99, 32, 105, 110, 32, 102, 110, 32, 105, 102, 32, 116, 104, 101, 110, 32, 101, 108, 115, 101, 32, 114, 97, 105, 115, 101, 32, 116, 114, 121, 32, 119, 105, 116, 104, 32, 114, 101, 102, 32, 102, 115, 116, 32, 115, 110, 100, 32, 101, 120, 110]⟩
theorem kw_count : Lib.countB kwText ⟨#[32]⟩ = 14 := by decide +kernel
theorem kw_split : Lib.splitB ⟨#[32]⟩ 0 14 kwText = (([] : List UInt8) :: keyw).map bs := by decide +kernel

set_option maxHeartbeats 1000000 in
theorem words_keywords (w : World) (hk : Knob w) :
    Calls Tryd.prog 67 #[] w fun e w' => e = .returned (.slice (some ⟨w.heap.size, 0, none⟩) 15 15) ∧ Ext w w' ∧ IsRow w' (vstr ((([] : List UInt8) :: keyw).map bs)) (some ⟨w.heap.size, 0, none⟩) 15 := by
  obtain ⟨m, hm⟩ := hk
  have K := Lib.hid (Tryd.strings_Split kwText ⟨#[32]⟩ m w (by decide +kernel) hm (by decide +kernel))
  rw [kw_count, kw_split] at K
  go_enter Tryd.func67, Tryd.ntmps67
  go_wp2_with (go_at_call 80; refine (K.out).mono ?_; rintro e w' ⟨rfl, rfl⟩)
  go_ret
  exact ⟨rfl, (Ext.refl _).alloc _, IsRow.new w _ _⟩

set_option maxHeartbeats 400000 in
theorem strs_index (x : ByteArray) (l : List ByteArray) (w : World) (a : Option Addr) (len cap : Nat) (h1 : len ≤ cap) (h2 : cap ≤ 9223372036854775807) (hl : IsRow w (vstr l) a len) :
    Calls Tryd.prog 62 #[.slice a len cap, .string x] w fun e w' => e = .returned (.int .i64 (fidx (fun y => x.toList == y.toList) l)) ∧ Ext w w' := by
  have hll := hl.1
  simp only [vstr, List.length_map] at hll
  have HL := Lib.hid hll
  have HR := Lib.hid hl
  clear hll hl
  go_enter Tryd.func62, Tryd.ntmps62
  go_wp2_with fail
  go_loopg [8] len (fun g i wr => ∃ j : Nat, g = len - j ∧ j ≤ len ∧ i = .int .i64 j ∧ (∀ t, t ∈ l.take j → (x.toList == t.toList) = false) ∧ wr = w)
  case atStart => exact ⟨0, by omega, by omega, rfl, by simp, rfl⟩
  case round =>
    obtain ⟨j, rfl, hj, rfl, hto, rfl⟩ := hrel
    have HT := Lib.hid hto
    clear hto
    by_cases hlt : j < len
    · obtain ⟨t, b, o, g, rfl, q⟩ := HR.out.str hlt
      have G := Lib.hid g
      clear g
      cases hr : x.toList == t.toList
      · have HX := Lib.hid hr
        go_wp2_with fail
        go_roundg (len - (j + 1))
        case rel =>
          refine ⟨j + 1, rfl, by omega, by go_num, ?_, rfl⟩
          intro y hy
          rw [List.take_add_one, G.out] at hy
          simp only [List.mem_append, Option.toList_some, List.mem_singleton] at hy
          rcases hy with hy | rfl
          · exact HT.out y hy
          · exact HX.out
        case measure => omega
      · have HX := Lib.hid hr
        go_wp2_with fail
        go_ret
        exact ⟨ret_int (fidx_at HT.out G.out HX.out).symm, Ext.refl _⟩
    · obtain rfl : j = len := by omega
      go_wp2_with fail
      go_ret
      have h0 := HT.out
      rw [List.take_of_length_le (by rw [← HL.out]; omega)] at h0
      exact ⟨ret_int (fidx_none h0).symm, Ext.refl _⟩

theorem kwd_find (s : ByteArray) (hs : s ≠ ByteArray.empty) : max 0 (fidx (fun y : ByteArray => s.toList == y.toList) ((([] : List UInt8) :: keyw).map bs)) = (kwd s : Nat) := by
  have h0 : s.data.toList ≠ [] := by
    intro h
    apply hs
    apply ByteArray.ext
    exact Array.toList_inj.1 h
  have hf : ∀ (l : List (List UInt8)) (n : Nat), (∀ x, x ∈ l → x ≠ s.data.toList) → (fidx (fun y : ByteArray => s.toList == y.toList) (l.map bs)) = -1 := by
    intro l n hl
    apply fidx_none
    intro t ht
    obtain ⟨x, hx, rfl⟩ := List.mem_map.1 ht
    rw [ByteArray.toList_eq, ByteArray.toList_eq, bs_list]
    exact beq_false_of_ne (fun e => hl x hx e.symm)
  by_cases hex : ∃ x, x ∈ keyw ∧ x = s.data.toList
  · have hI : ∀ (l : List (List UInt8)), (∃ x, x ∈ l ∧ x = s.data.toList) → ∃ i x, l[i]? = some x ∧ x = s.data.toList ∧ ∀ y, y ∈ l.take i → y ≠ s.data.toList := by
      intro l
      induction l with
      | nil => rintro ⟨x, hx, _⟩; simp at hx
      | cons a l ih =>
        intro h
        by_cases ha : a = s.data.toList
        · exact ⟨0, a, rfl, ha, by simp⟩
        · obtain ⟨x, hx, e⟩ := h
          rcases List.mem_cons.1 hx with rfl | hx
          · exact absurd e ha
          · obtain ⟨i, y, h1, h2, h3⟩ := ih ⟨x, hx, e⟩
            refine ⟨i + 1, y, by simpa using h1, h2, ?_⟩
            intro z hz
            rw [List.take_succ_cons] at hz
            rcases List.mem_cons.1 hz with rfl | hz
            · exact ha
            · exact h3 z hz
    obtain ⟨i, x, h1, h2, h3⟩ := hI keyw hex
    unfold kwd
    rw [placeOf_at h1 h2 h3]
    rw [fidx_at (i := i + 1) (t := bs x)]
    · omega
    · intro t ht
      rw [List.map_cons, List.take_succ_cons] at ht
      rw [ByteArray.toList_eq, ByteArray.toList_eq]
      rcases List.mem_cons.1 ht with rfl | ht
      · rw [bs_list]; exact beq_false_of_ne h0
      · rw [← List.map_take] at ht
        obtain ⟨y, hy, rfl⟩ := List.mem_map.1 ht
        rw [bs_list]
        exact beq_false_of_ne (fun e => h3 y hy e.symm)
    · simp [h1]
    · rw [ByteArray.toList_eq, ByteArray.toList_eq, bs_list, h2]; exact beq_self_eq_true _
  · have hn : ∀ x, x ∈ keyw → x ≠ s.data.toList := fun x hx e => hex ⟨x, hx, e⟩
    rw [hf _ 0 (by
      intro x hx
      rcases List.mem_cons.1 hx with rfl | hx
      · exact fun e => h0 e.symm
      · exact hn x hx)]
    unfold kwd
    rw [placeOf_none hn]
    rfl

theorem not_empty {s : ByteArray} (hz : s ≠ ByteArray.empty) : s.toList.isEmpty = false := by
  rw [ByteArray.toList_eq, Bool.eq_false_iff, ne_eq, List.isEmpty_iff]
  exact fun e => hz (ByteArray.ext (Array.toList_inj.1 e))

set_option maxHeartbeats 1000000 in
theorem words_keyword (s : ByteArray) (w : World) (hk : Knob w) :
    Calls Tryd.prog 55 #[.string s] w fun e w' => e = .returned (.int .i64 (kwd s : Nat)) ∧ Ext w w' := by
  by_cases hz : s = ByteArray.empty
  · subst hz
    go_enter Tryd.func55, Tryd.ntmps55
    go_wp2_with fail
    go_ret
    exact ⟨rfl, Ext.refl _⟩
  have HK := Lib.hid (kwd_find s hz)
  have hb := not_empty hz
  have KI := fun W a (hl : IsRow W (vstr ((([] : List UInt8) :: keyw).map bs)) a 15) => strs_index s _ W a 15 15 (by omega) (by omega) hl
  obtain ⟨n, hn⟩ : ∃ n, n = fidx (fun y : ByteArray => s.toList == y.toList) ((([] : List UInt8) :: keyw).map bs) := ⟨_, rfl⟩
  rw [← hn] at HK KI
  have HI := Lib.hid KI
  clear hn KI
  go_enter Tryd.func55, Tryd.ntmps55
  go_wp2_with (first | (go_at_call 67; refine (words_keywords _ hk).mono ?_; rintro e w1 ⟨rfl, x1, hr⟩) | (go_at_call 62; refine (HI.out _ _ hr).mono ?_; rintro e w2 ⟨rfl, x2⟩))
  go_ret
  exact ⟨ret_int HK.out, x1.trans x2⟩

theorem all_inner (l : List Int) : ((spanOf [3, 4, 2] l : Nat) : Int) = l.length ↔ l.all inner = true := by
  rw [show (((spanOf [3, 4, 2] l : Nat) : Int) = l.length) ↔ (spanOf [3, 4, 2] l = l.length) from ⟨fun h => by omega, fun h => by omega⟩, spanOf_all, List.all_eq_true]
  have h : ∀ c : Int, ([3, 4, 2] : List Int).contains (cls c) = true ↔ inner c = true := by
    intro c
    simp [inner]
    omega
  exact ⟨fun hh c hc => (h c).1 (hh c hc), fun hh c hc => (h c).2 (hh c hc)⟩

/-- A string's bytes, laid anew. -/
theorem IsRow.of_string (w : World) (s : ByteArray) (cap : Nat) (t : TypeId) (fz : Nat × Nat) : IsRow (w.alloc (.cells (bytesRow s cap) t fz)) (vby (il s)) (some ⟨w.heap.size, 0, none⟩) s.size := by
  rw [← vby_il_length s]
  refine IsRow.of_block fun i v hi => ?_
  rw [cell_of_row _ _ i _ t fz (heap_alloc_new w _)]
  have hi' : i < s.data.size := by
    rcases Nat.lt_or_ge i (vby (il s)).length with h | h
    · rw [vby_il_length] at h; exact h
    · rw [List.getElem?_eq_none h] at hi; cases hi
  rw [bytesRow_at s cap i hi', ← hi]
  simp [vby, il_at s hi']
  rfl

theorem row_string (w : World) (s : ByteArray) (cap : Nat) (t : TypeId) (fz : Nat × Nat) (o : Obj) : IsRow ((w.alloc (.cells (bytesRow s cap) t fz)).alloc o).drew (vby (il s)) (some ⟨w.heap.size, 0, none⟩) s.size :=
  (IsRow.of_string w s cap t fz).ext (((Ext.refl _).alloc o).drew)
theorem row_342 (w : World) (o : Obj) (t : TypeId) : IsRow ((w.alloc o).alloc (.cells #[.int .u8 3, .int .u8 4, .int .u8 2] t)).drew (vby [3, 4, 2]) (some ⟨w.heap.size + 1, 0, none⟩) 3 := by
  have h := (IsRow.new (w.alloc o) t (vby [3, 4, 2])).ext (Ext.refl _).drew
  simpa [vby] using h

set_option maxHeartbeats 1000000 in
theorem words_shaped (s : ByteArray) (f : Int) (w : World) (h0 : 0 ≤ f) (h1 : f ≤ 255) :
    Calls Tryd.prog 70 #[.string s, .int .u8 f] w fun e w' => e = .returned (.bool (shapely (il s) f)) ∧ Ext w w' := by
  by_cases hz : s = ByteArray.empty
  · subst hz
    go_enter Tryd.func70, Tryd.ntmps70
    go_wp2_with fail
    go_ret
    exact ⟨rfl, Ext.refl _⟩
  have hb := not_empty hz
  have hpos : 0 < s.size := by
    rcases Nat.eq_zero_or_pos s.size with h | h
    · exact absurd (ByteArray.size_eq_zero_iff.1 h) hz
    · exact h
  have HE := Lib.hid (shapely_eq s f hpos)
  by_cases h16 : 16 < s.size
  · have hd : decide ((16 : Int) < (s.size : Int)) = true := by simp; omega
    go_enter Tryd.func70, Tryd.ntmps70
    go_wp2_with fail
    go_ret
    exact ⟨ret_bool (by rw [HE.out]; simp; omega), Ext.refl _⟩
  have hd : decide ((16 : Int) < (s.size : Int)) = false := by simp; omega
  have hbb := byte_bound s[0]
  have HC := Lib.hid fun W => chars_class ((s[0].toNat : Nat) : Int) W hbb.1 hbb.2
  obtain ⟨c0, hc0⟩ : ∃ c0, c0 = cls ((s[0].toNat : Nat) : Int) := ⟨_, rfl⟩
  rw [← hc0] at HE HC
  clear hc0
  by_cases hcf : c0 = f
  case neg =>
    have hb : (f != c0) = true := by simpa using fun e => hcf e.symm
    have hb' : (c0 != f) = true := by simpa using hcf
    have HX := Lib.hid hcf
    clear hcf
    go_enter Tryd.func70, Tryd.ntmps70
    go_wp2_with (go_at_call 32; refine (HC.out _).mono ?_; rintro e w1 ⟨rfl, x1⟩)
    go_ret
    refine ⟨ret_bool ?_, x1⟩
    rw [HE.out]
    simp [HX.out]
  have hb : (f != c0) = false := by simpa using hcf.symm
  have hb' : (c0 != f) = false := by simpa using hcf
  have HX := Lib.hid hcf
  have H16 := Lib.hid h16
  have HS := Lib.hid (all_inner (il s))
  rw [il_length] at HS
  have hmax : s.size ≤ maxLen := by unfold maxLen; omega
  have hcv := fun w => run_bytes_of_string (P := Tryd.prog) w 9 22 5 s Tryd.underlying9 Tryd.underlying22 Tryd.underlying5
  have KP := Lib.hid fun W b o cap a' (h2 : s.size ≤ cap) (h3 : cap ≤ maxLen) (hr : IsRow W (vby (il s)) (some ⟨b, o, none⟩) s.size) (hc : IsRow W (vby [3, 4, 2]) a' 3) =>
    chars_span [3, 4, 2] (il s) 0 W b o s.size cap a' 3 3 h2 h3 (by omega) (by omega) hpos hr (fun c hc => il_bound s hc) hc
  have hgc := fun W => And.intro (grownCap_ge W s.size 0 5) (grownCap_le_maxLen W s.size 0 5 hmax)
  have HG := Lib.hid hgc
  clear hcf hgc hmax
  simp only [List.drop_zero] at KP
  obtain ⟨n, hn⟩ : ∃ n, n = spanOf [3, 4, 2] (il s) := ⟨_, rfl⟩
  rw [← hn] at KP HS
  clear hn
  go_enter Tryd.func70, Tryd.ntmps70
  go_wp2_with (first | (go_at_call 32; refine (HC.out _).mono ?_; rintro e w1 ⟨rfl, x1⟩) | (go_at_call 16; refine (KP.out _ w1.heap.size 0 (grownCap w1 s.size 0 5) _ (HG.out w1).1 (HG.out w1).2 (row_string w1 s _ _ _ _) (row_342 w1 _ _)).mono ?_; rintro e w2 ⟨rfl, x2⟩))
  go_ret
  refine ⟨ret_bool ?_, x1.trans (((((Ext.refl w1).alloc _).alloc _).drew).trans x2)⟩
  have hs := HS.out
  rw [HE.out, HX.out]
  rw [Bool.eq_iff_iff, beq_iff_eq, hs]
  simp
  omega

set_option maxHeartbeats 1000000 in
theorem words_name1 (s : ByteArray) (w : World) (hk : Knob w) : Calls Tryd.prog 69 #[.string s] w fun e w' => e = .returned (.bool (isName s)) ∧ Ext w w' := by
  have K1 := Lib.hid fun W => words_shaped s 3 W (by omega) (by omega)
  have K2 := Lib.hid fun W h => words_keyword s W h
  cases hsh : shapely (il s) 3
  all_goals
    have HS := Lib.hid hsh
    rw [hsh] at K1
    clear hsh
    go_enter Tryd.func69, Tryd.ntmps69
    go_wp2_with (first | (go_at_call 70; refine (K1.out _).mono ?_; rintro e w1 ⟨rfl, x1⟩) | (go_at_call 55; refine (K2.out _ (hk.ext x1)).mono ?_; rintro e w2 ⟨rfl, x2⟩))
    go_ret
    exact ⟨ret_bool (by simp [isName, HS.out, nat_beq_zero]), by (repeat (first | exact Ext.refl _ | assumption | refine Ext.alloc ?_ _ | refine Ext.drew ?_ | refine Ext.setCell ?_ (by first | (simp; done) | (simp; omega) | omega) _ | refine Ext.trans ?_ (by assumption)))⟩

set_option maxHeartbeats 1000000 in
theorem words_exn1 (s : ByteArray) (w : World) (hk : Knob w) : Calls Tryd.prog 71 #[.string s] w fun e w' => e = .returned (.bool (isExn s)) ∧ Ext w w' := by
  go_enter Tryd.func71, Tryd.ntmps71
  go_wp2_with (go_at_call 70; refine (words_shaped s 4 _ (by omega) (by omega)).mono ?_; rintro e w1 ⟨rfl, x1⟩)
  go_ret
  exact ⟨rfl, x1⟩
end Go.Proofs.YtaioeailgknfjaaDoor

/- Part 2 of the proof: Words; no condition of ours. -/
import Derived.Test.YtaioeailgknfjaaGreatDoorPkp1
set_option linter.unusedVariables false
set_option linter.unusedSimpArgs false
namespace Go.Proofs.YtaioeailgknfjaaGreatDoor
open Go.Lib (hid)
open Go Go.RowKit Go.Sort
set_option maxHeartbeats 1000000 in
theorem chars_class (c : Int) (w : World) (h0 : 0 ≤ c) (h1 : c ≤ 255) :
    Calls Tryz.prog 110 #[.int .u8 c] w fun e w' => e = .returned (.int .u8 (cls c)) ∧ Ext w w' := by
  have hb1 := index_blank c h0 h1
  have hb2 := index_sign c h0 h1
  have KB := hid fun W => Tryz.strings_IndexByte ⟨#[32, 9, 10]⟩ c W
  have KS := hid fun W => Tryz.strings_IndexByte ⟨#[40, 41, 44, 33, 58, 61, 62, 43, 45, 42, 60, 59]⟩ c W
  obtain ⟨nb, hnb⟩ : ∃ nb, nb = Lib.indexByte [32, 9, 10] c.toNat.toUInt8 := ⟨_, rfl⟩
  obtain ⟨ns, hns⟩ : ∃ ns, ns = Lib.indexByte [40, 41, 44, 33, 58, 61, 62, 43, 45, 42, 60, 59] c.toNat.toUInt8 := ⟨_, rfl⟩
  rw [← hnb] at hb1 KB
  rw [← hns] at hb2 KS
  clear hnb hns
  obtain ⟨k, hk⟩ : ∃ k, k = cls c := ⟨_, rfl⟩
  rw [← hk]
  unfold cls at hk
  have cases : (decide (0 ≤ nb) = true ∧ k = 1) ∨ (decide (0 ≤ nb) = false ∧ decide (48 ≤ c) = true ∧ decide (c ≤ 57) = true ∧ k = 2)
      ∨ (decide (0 ≤ nb) = false ∧ decide (48 ≤ c) = true ∧ decide (c ≤ 57) = false ∧ decide (97 ≤ c) = true ∧ decide (c ≤ 122) = true ∧ k = 3)
      ∨ (decide (0 ≤ nb) = false ∧ decide (48 ≤ c) = true ∧ decide (c ≤ 57) = false ∧ decide (97 ≤ c) = false ∧ decide (65 ≤ c) = true ∧ decide (c ≤ 90) = true ∧ k = 4)
      ∨ (decide (0 ≤ nb) = false ∧ ((decide (48 ≤ c) = false) ∨ (decide (48 ≤ c) = true ∧ decide (c ≤ 57) = false)) ∧ ((decide (97 ≤ c) = false) ∨ (decide (97 ≤ c) = true ∧ decide (c ≤ 122) = false)) ∧ ((decide (65 ≤ c) = false) ∨ (decide (65 ≤ c) = true ∧ decide (c ≤ 90) = false)) ∧ ((decide (0 ≤ ns) = true ∧ k = 5) ∨ (decide (0 ≤ ns) = false ∧ k = 0))) := by
    rw [hb1, hb2]
    simp only [decide_eq_true_eq, decide_eq_false_iff_not]
    by_cases A : c = 32 ∨ c = 9 ∨ c = 10
    · rw [if_pos A] at hk; exact .inl ⟨A, hk⟩
    rw [if_neg A] at hk
    by_cases B : 48 ≤ c ∧ c ≤ 57
    · rw [if_pos B] at hk; exact .inr (.inl ⟨A, B.1, B.2, hk⟩)
    rw [if_neg B] at hk
    by_cases C : 97 ≤ c ∧ c ≤ 122
    · rw [if_pos C] at hk; exact .inr (.inr (.inl ⟨A, by omega, by omega, C.1, C.2, hk⟩))
    rw [if_neg C] at hk
    by_cases D : 65 ≤ c ∧ c ≤ 90
    · rw [if_pos D] at hk; exact .inr (.inr (.inr (.inl ⟨A, by omega, by omega, by omega, D.1, D.2, hk⟩)))
    rw [if_neg D] at hk
    refine .inr (.inr (.inr (.inr ⟨A, by omega, by omega, by omega, ?_⟩)))
    by_cases E : c ∈ signs
    · rw [if_pos E] at hk; exact .inl ⟨E, hk⟩
    · rw [if_neg E] at hk; exact .inr ⟨E, hk⟩
  clear hk hb1 hb2
  rcases cases with ⟨A, rfl⟩ | ⟨A, B, C, rfl⟩ | ⟨A, B, C, D, E, rfl⟩ | ⟨A, B, C, D, E, F, rfl⟩ | ⟨A, B | ⟨B, B'⟩, C | ⟨C, C'⟩, D | ⟨D, D'⟩, ⟨E, rfl⟩ | ⟨E, rfl⟩⟩
  all_goals
    go_enter Tryz.func110, Tryz.ntmps110
    go_wp2_with (first | (go_at_call 128; (with_reducible refine (KB.out _).mono ?_); rintro e w' ⟨rfl, rfl⟩) | (go_at_call 128; (with_reducible refine (KS.out _).mono ?_); rintro e w' ⟨rfl, rfl⟩))
    go_ret
    exact ⟨rfl, Ext.refl _⟩
set_option maxHeartbeats 400000 in
theorem bytes_index (x : Int) (l : List Int) (w : World) (a : Option Addr) (len cap : Nat) (h1 : len ≤ cap) (h2 : cap ≤ 9223372036854775807) (hl : IsRow w (vby l) a len) :
    Calls Tryz.prog 129 #[.slice a len cap, .int .u8 x] w fun e w' => e = .returned (.int .i64 (fidx (fun y => x == y) l)) ∧ Ext w w' := by
  have hll := hl.1
  simp only [vby, List.length_map] at hll
  have HL := hid hll
  have HR := hid hl
  clear hll hl
  go_enter Tryz.func129, Tryz.ntmps129
  go_wp2_with fail
  go_loopg [8] len (fun g i wr => ∃ j : Nat, g = len - j ∧ j ≤ len ∧ i = .int .i64 j ∧ (∀ t, t ∈ l.take j → (x == t) = false) ∧ wr = w)
  case atStart => exact ⟨0, by omega, by omega, rfl, by simp, rfl⟩
  case round =>
    obtain ⟨j, rfl, hj, rfl, hto, rfl⟩ := hrel
    have HT := hid hto
    clear hto
    by_cases hlt : j < len
    · obtain ⟨t, b, o, g, rfl, q⟩ := HR.out.byte hlt
      have G := hid g
      clear g
      cases hr : x == t
      · have HX := hid hr
        go_wp2_with fail
        go_roundg (len - (j + 1))
        case rel =>
          refine ⟨j + 1, rfl, by omega, by go_num, ?_, rfl⟩
          intro y hy
          rw [List.take_add_one, G.out] at hy
          simp only [List.mem_append, Option.toList_some, List.mem_singleton] at hy
          rcases hy with hy | rfl
          · exact HT.out y hy
          · exact HX.out
        case measure => omega
      · have HX := hid hr
        go_wp2_with fail
        go_ret
        exact ⟨ret_int (fidx_at HT.out G.out HX.out).symm, Ext.refl _⟩
    · obtain rfl : j = len := by omega
      go_wp2_with fail
      go_ret
      have h0 := HT.out
      rw [List.take_of_length_le (by rw [← HL.out]; omega)] at h0
      exact ⟨ret_int (fidx_none h0).symm, Ext.refl _⟩
set_option maxHeartbeats 400000 in
theorem bytes_contains (x : Int) (l : List Int) (w : World) (a : Option Addr) (len cap : Nat) (h1 : len ≤ cap) (h2 : cap ≤ 9223372036854775807) (hl : IsRow w (vby l) a len) :
    Calls Tryz.prog 113 #[.slice a len cap, .int .u8 x] w fun e w' => e = .returned (.bool (l.contains x)) ∧ Ext w w' := by
  have HF := hid (fidx_nonneg (fun y => x == y) l)
  have HE : Hid (l.any (fun y => x == y) = l.contains x) := List.contains_eq_any_beq.symm
  go_enter Tryz.func113, Tryz.ntmps113
  go_wp2_with (go_at_call 129; refine (bytes_index x l _ a len cap h1 h2 hl).mono ?_; rintro e w1 ⟨rfl, x1⟩)
  go_ret
  exact ⟨ret_bool (HF.out.trans HE.out), x1⟩
set_option maxHeartbeats 400000 in
theorem chars_span1 (c : Int) (cl : List Int) (w : World) (b : Nat) (a : Option Addr) (len cap : Nat) (h0 : 0 ≤ c) (h255 : c ≤ 255) (h1 : len ≤ cap) (h2 : cap ≤ 9223372036854775807) (hb : w.cell? ⟨b, 0, none⟩ = some (.slice a len cap)) (hl : IsRow w (vby cl) a len) :
    Calls Tryz.prog 112 #[.int .u8 c, .pointer (some ⟨b, 0, none⟩)] w fun e w' => e = .returned (.bool (!cl.contains (cls c))) ∧ Ext w w' := by
  have hbl := block_lt_of_cell hb
  simp at hbl
  have kb := cells_regrown hb
  have cQ := quiet_ext (w := w) fun w1 h1 => chars_class c w1 h0 h255
  have cR := quiet_ext (w := w) fun w1 hx => bytes_contains (cls c) cl w1 a len cap h1 h2 (hl.ext hx)
  generalize cls c = k at *
  go_enter Tryz.func112, Tryz.ntmps112
  go_wp2_with fail
  refine wp_region_quiet_below (by kernel_rfl) (by kernel_rfl) ?_
  repeat (go_big_quiet_step (first | exact cQ _ _ | exact cR _ _))
  refine wpQuiet_nil ?_
  intro w1 hq_w1
  have x1 := ext_of_regrown hq_w1
  clear hq_w1
  go_wp2_with fail
  go_ret
  exact ⟨ret_bool (by simp), x1⟩
set_option maxHeartbeats 400000 in
theorem bytes_indexFunc (cl : List Int) (l : List Int) (w : World) (b : Nat) (a : Option Addr) (len cap : Nat) (a' : Option Addr) (len' cap' : Nat) (h1 : len ≤ cap) (h2 : cap ≤ 9223372036854775807) (h1' : len' ≤ cap') (h2' : cap' ≤ 9223372036854775807) (hl : IsRow w (vby l) a len)
    (hby : ∀ c, c ∈ l → 0 ≤ c ∧ c ≤ 255) (hb : w.cell? ⟨b, 0, none⟩ = some (.slice a' len' cap')) (hcl : IsRow w (vby cl) a' len') :
    Calls Tryz.prog 111 #[.slice a len cap, .func (.func 112) #[] #[.pointer (some ⟨b, 0, none⟩)]] w fun e w' => e = .returned (.int .i64 (fidx (fun c => !cl.contains (cls c)) l)) ∧ Ext w w' := by
  have hll := hl.1
  simp only [vby, List.length_map] at hll
  have HL := hid hll
  have HR := hid hl
  have HC := hid hcl
  have HB := hid hby
  have HBC := hid hb
  clear hll hl hcl hby hb
  go_enter Tryz.func111, Tryz.ntmps111
  go_wp2_with fail
  go_loopg [8] len (fun g i wr => ∃ j : Nat, g = len - j ∧ j ≤ len ∧ i = .int .i64 j ∧ (∀ t, t ∈ l.take j → (!cl.contains (cls t)) = false) ∧ Ext w wr)
  case atStart => exact ⟨0, by omega, by omega, rfl, by simp, Ext.refl _⟩
  case round =>
    obtain ⟨j, rfl, hj, rfl, hto, hx⟩ := hrel
    have HT := hid hto
    clear hto
    by_cases hlt : j < len
    · obtain ⟨t, b, o, g, rfl, q⟩ := (HR.out.ext hx).byte hlt
      have hbd := HB.out t (List.mem_of_getElem? g)
      have KC := hid (chars_span1 t cl wr _ a' len' cap' hbd.1 hbd.2 h1' h2' (hx.cell HBC.out) (HC.out.ext hx))
      have G := hid g
      clear g
      cases hr : !cl.contains (cls t)
      · have HX := hid hr
        rw [hr] at KC
        clear hr
        go_wp2_with (go_at_call 112; refine (KC.out).mono ?_; rintro e w1 ⟨rfl, x1⟩)
        go_roundg (len - (j + 1))
        case rel =>
          refine ⟨j + 1, rfl, by omega, by go_num, ?_, hx.trans x1⟩
          intro y hy
          rw [List.take_add_one, G.out] at hy
          simp only [List.mem_append, Option.toList_some, List.mem_singleton] at hy
          rcases hy with hy | rfl
          · exact HT.out y hy
          · exact HX.out
        case measure => omega
      · have HX := hid hr
        rw [hr] at KC
        clear hr
        go_wp2_with (go_at_call 112; refine (KC.out).mono ?_; rintro e w1 ⟨rfl, x1⟩)
        go_ret
        exact ⟨ret_int (fidx_at HT.out G.out HX.out).symm, hx.trans x1⟩
    · obtain rfl : j = len := by omega
      go_wp2_with fail
      go_ret
      have h0 := HT.out
      rw [List.take_of_length_le (by rw [← HL.out]; omega)] at h0
      exact ⟨ret_int (fidx_none h0).symm, hx⟩
set_option maxHeartbeats 400000 in
theorem chars_span (cl l : List Int) (k : Nat) (w : World) (b o : Nat) (len cap : Nat) (a' : Option Addr) (len' cap' : Nat) (h1 : len ≤ cap) (h2 : cap ≤ 9223372036854775807) (h1' : len' ≤ cap') (h2' : cap' ≤ 9223372036854775807) (hk : k < len) (hl : IsRow w (vby l) (some ⟨b, o, none⟩) len)
    (hby : ∀ c, c ∈ l → 0 ≤ c ∧ c ≤ 255) (hcl : IsRow w (vby cl) a' len') :
    Calls Tryz.prog 90 #[.slice (some ⟨b, o, none⟩) len cap, .int .i64 k, .slice a' len' cap'] w fun e w' => e = .returned (.int .i64 (spanOf cl (l.drop k) : Nat)) ∧ Ext w w' := by
  have HS := hid (span_find cl (l.drop k))
  have hdl : ((l.drop k).length : Int) = len - k := by
    have := hl.1
    simp [vby] at this
    simp
    omega
  rw [hdl] at HS
  have K := hid fun W (h : Ext (w.alloc (.cells #[.slice a' len' cap'] 22)) W) =>
    bytes_indexFunc cl (l.drop k) W w.heap.size (some ⟨b, o + k, none⟩) (len - k) (cap - k) a' len' cap' (by omega) (by omega) h1' h2' (by rw [← vby_drop]; exact hl.drop.ext (((Ext.refl _).alloc _).trans h)) (fun c hc => hby c (List.mem_of_mem_drop hc)) (h.cell (by simp [go_sem])) (hcl.ext (((Ext.refl _).alloc _).trans h))
  clear hdl
  have d0 : decide ((k : Int) < 0) = false := by simp
  have d1 : decide ((len : Int) ≤ (k : Int)) = false := by simp; omega
  have hbd := fidx_bd (fun c => !cl.contains (cls c)) (l.drop k)
  have hbd1 := hbd.1
  obtain ⟨n, hn⟩ : ∃ n, n = fidx (fun c => !cl.contains (cls c)) (l.drop k) := ⟨_, rfl⟩
  rw [← hn] at HS K hbd1
  clear hn hbd
  by_cases hneg : n < 0
  all_goals
    first | rw [if_pos hneg] at HS | rw [if_neg hneg] at HS
    first | have hd : decide (n < 0) = true := by simpa using hneg | have hd : decide (n < 0) = false := by simpa using hneg
    go_enter Tryz.func90, Tryz.ntmps90
    go_wp2_with (go_at_call 111; refine (K.out _ (Ext.refl _)).mono ?_; rintro e w1 ⟨rfl, x1⟩)
    go_ret
    exact ⟨ret_int HS.out, ((Ext.refl _).alloc _).trans x1⟩
def Knob (w : World) : Prop := ∃ m : Int, w.cell? ⟨0, 0, none⟩ = some (.int .i64 m)
theorem Knob.ext {w w' : World} (h : Knob w) (hx : Ext w w') : Knob w' := let ⟨m, hm⟩ := h; ⟨m, hx.cell hm⟩
def kwText : ByteArray := ⟨#[32, 108, 101, 116, 32, 108, 101, 116, 114, 101, 99, 32, 105, 110, 32, 102, 110, 32, 105, 102, 32, 116, 104, 101, 110, 32, 101, 108, 115, 101, 32, 114, 97, 105, 115, 101, 32, 116, 114, 121, 32, 119, 105, 116, 104, 32, 114, 101, 102, 32, 102, 115, 116, 32, 115, 110, 100, 32, 101, 120, 110]⟩
theorem kw_count : Lib.countB kwText ⟨#[32]⟩ = 14 := by decide +kernel
theorem kw_split : Lib.splitB ⟨#[32]⟩ 0 14 kwText = (([] : List UInt8) :: keyw).map bs := by decide +kernel
set_option maxHeartbeats 1000000 in
theorem words_keywords (w : World) (hk : Knob w) :
    Calls Tryz.prog 132 #[] w fun e w' => e = .returned (.slice (some ⟨w.heap.size, 0, none⟩) 15 15) ∧ Ext w w' ∧ IsRow w' (vstr ((([] : List UInt8) :: keyw).map bs)) (some ⟨w.heap.size, 0, none⟩) 15 := by
  obtain ⟨m, hm⟩ := hk
  have K := hid (Tryz.strings_Split kwText ⟨#[32]⟩ m w (by decide +kernel) hm (by decide +kernel))
  rw [kw_count, kw_split] at K
  go_enter Tryz.func132, Tryz.ntmps132
  go_wp2_with (go_at_call 141; refine (K.out).mono ?_; rintro e w' ⟨rfl, rfl⟩)
  go_ret
  exact ⟨rfl, (Ext.refl _).alloc _, IsRow.new w _ _⟩
set_option maxHeartbeats 400000 in
theorem strs_index (x : ByteArray) (l : List ByteArray) (w : World) (a : Option Addr) (len cap : Nat) (h1 : len ≤ cap) (h2 : cap ≤ 9223372036854775807) (hl : IsRow w (vstr l) a len) :
    Calls Tryz.prog 94 #[.slice a len cap, .string x] w fun e w' => e = .returned (.int .i64 (fidx (fun y => x.toList == y.toList) l)) ∧ Ext w w' := by
  have hll := hl.1
  simp only [vstr, List.length_map] at hll
  have HL := hid hll
  have HR := hid hl
  clear hll hl
  go_enter Tryz.func94, Tryz.ntmps94
  go_wp2_with fail
  go_loopg [8] len (fun g i wr => ∃ j : Nat, g = len - j ∧ j ≤ len ∧ i = .int .i64 j ∧ (∀ t, t ∈ l.take j → (x.toList == t.toList) = false) ∧ wr = w)
  case atStart => exact ⟨0, by omega, by omega, rfl, by simp, rfl⟩
  case round =>
    obtain ⟨j, rfl, hj, rfl, hto, rfl⟩ := hrel
    have HT := hid hto
    clear hto
    by_cases hlt : j < len
    · obtain ⟨t, b, o, g, rfl, q⟩ := HR.out.str hlt
      have G := hid g
      clear g
      cases hr : x.toList == t.toList
      · have HX := hid hr
        go_wp2_with fail
        go_roundg (len - (j + 1))
        case rel =>
          refine ⟨j + 1, rfl, by omega, by go_num, ?_, rfl⟩
          intro y hy
          rw [List.take_add_one, G.out] at hy
          simp only [List.mem_append, Option.toList_some, List.mem_singleton] at hy
          rcases hy with hy | rfl
          · exact HT.out y hy
          · exact HX.out
        case measure => omega
      · have HX := hid hr
        go_wp2_with fail
        go_ret
        exact ⟨ret_int (fidx_at HT.out G.out HX.out).symm, Ext.refl _⟩
    · obtain rfl : j = len := by omega
      go_wp2_with fail
      go_ret
      have h0 := HT.out
      rw [List.take_of_length_le (by rw [← HL.out]; omega)] at h0
      exact ⟨ret_int (fidx_none h0).symm, Ext.refl _⟩
theorem kwd_find (s : ByteArray) (hs : s ≠ ByteArray.empty) : max 0 (fidx (fun y : ByteArray => s.toList == y.toList) ((([] : List UInt8) :: keyw).map bs)) = (kwd s : Nat) := by
  have h0 : s.data.toList ≠ [] := by
    intro h
    apply hs
    apply ByteArray.ext
    exact Array.toList_inj.1 h
  have hf : ∀ (l : List (List UInt8)) (n : Nat), (∀ x, x ∈ l → x ≠ s.data.toList) → (fidx (fun y : ByteArray => s.toList == y.toList) (l.map bs)) = -1 := by
    intro l n hl
    apply fidx_none
    intro t ht
    obtain ⟨x, hx, rfl⟩ := List.mem_map.1 ht
    rw [ByteArray.toList_eq, ByteArray.toList_eq, bs_list]
    exact beq_false_of_ne (fun e => hl x hx e.symm)
  by_cases hex : ∃ x, x ∈ keyw ∧ x = s.data.toList
  · have hI : ∀ (l : List (List UInt8)), (∃ x, x ∈ l ∧ x = s.data.toList) → ∃ i x, l[i]? = some x ∧ x = s.data.toList ∧ ∀ y, y ∈ l.take i → y ≠ s.data.toList := by
      intro l
      induction l with
      | nil => rintro ⟨x, hx, _⟩; simp at hx
      | cons a l ih =>
        intro h
        by_cases ha : a = s.data.toList
        · exact ⟨0, a, rfl, ha, by simp⟩
        · obtain ⟨x, hx, e⟩ := h
          rcases List.mem_cons.1 hx with rfl | hx
          · exact absurd e ha
          · obtain ⟨i, y, h1, h2, h3⟩ := ih ⟨x, hx, e⟩
            refine ⟨i + 1, y, by simpa using h1, h2, ?_⟩
            intro z hz
            rw [List.take_succ_cons] at hz
            rcases List.mem_cons.1 hz with rfl | hz
            · exact ha
            · exact h3 z hz
    obtain ⟨i, x, h1, h2, h3⟩ := hI keyw hex
    unfold kwd
    rw [placeOf_at h1 h2 h3]
    rw [fidx_at (i := i + 1) (t := bs x)]
    · omega
    · intro t ht
      rw [List.map_cons, List.take_succ_cons] at ht
      rw [ByteArray.toList_eq, ByteArray.toList_eq]
      rcases List.mem_cons.1 ht with rfl | ht
      · rw [bs_list]; exact beq_false_of_ne h0
      · rw [← List.map_take] at ht
        obtain ⟨y, hy, rfl⟩ := List.mem_map.1 ht
        rw [bs_list]
        exact beq_false_of_ne (fun e => h3 y hy e.symm)
    · simp [h1]
    · rw [ByteArray.toList_eq, ByteArray.toList_eq, bs_list, h2]; exact beq_self_eq_true _
  · have hn : ∀ x, x ∈ keyw → x ≠ s.data.toList := fun x hx e => hex ⟨x, hx, e⟩
    rw [hf _ 0 (by
      intro x hx
      rcases List.mem_cons.1 hx with rfl | hx
      · exact fun e => h0 e.symm
      · exact hn x hx)]
    unfold kwd
    rw [placeOf_none hn]
    rfl
theorem not_empty {s : ByteArray} (hz : s ≠ ByteArray.empty) : s.toList.isEmpty = false := by
  rw [ByteArray.toList_eq, Bool.eq_false_iff, ne_eq, List.isEmpty_iff]
  exact fun e => hz (ByteArray.ext (Array.toList_inj.1 e))
set_option maxHeartbeats 1000000 in
theorem words_keyword (s : ByteArray) (w : World) (hk : Knob w) :
    Calls Tryz.prog 123 #[.string s] w fun e w' => e = .returned (.int .i64 (kwd s : Nat)) ∧ Ext w w' := by
  by_cases hz : s = ByteArray.empty
  · subst hz
    go_enter Tryz.func123, Tryz.ntmps123
    go_wp2_with fail
    go_ret
    exact ⟨rfl, Ext.refl _⟩
  have HK := hid (kwd_find s hz)
  have hb := not_empty hz
  have KI := fun W a (hl : IsRow W (vstr ((([] : List UInt8) :: keyw).map bs)) a 15) => strs_index s _ W a 15 15 (by omega) (by omega) hl
  obtain ⟨n, hn⟩ : ∃ n, n = fidx (fun y : ByteArray => s.toList == y.toList) ((([] : List UInt8) :: keyw).map bs) := ⟨_, rfl⟩
  rw [← hn] at HK KI
  have HI := hid KI
  clear hn KI
  go_enter Tryz.func123, Tryz.ntmps123
  go_wp2_with (first | (go_at_call 132; refine (words_keywords _ hk).mono ?_; rintro e w1 ⟨rfl, x1, hr⟩) | (go_at_call 94; refine (HI.out _ _ hr).mono ?_; rintro e w2 ⟨rfl, x2⟩))
  go_ret
  exact ⟨ret_int HK.out, x1.trans x2⟩
theorem all_inner (l : List Int) : ((spanOf [3, 4, 2] l : Nat) : Int) = l.length ↔ l.all inner = true := by
  rw [show (((spanOf [3, 4, 2] l : Nat) : Int) = l.length) ↔ (spanOf [3, 4, 2] l = l.length) from ⟨fun h => by omega, fun h => by omega⟩, spanOf_all, List.all_eq_true]
  have h : ∀ c : Int, ([3, 4, 2] : List Int).contains (cls c) = true ↔ inner c = true := by
    intro c
    simp [inner]
    omega
  exact ⟨fun hh c hc => (h c).1 (hh c hc), fun hh c hc => (h c).2 (hh c hc)⟩
theorem IsRow.of_string (w : World) (s : ByteArray) (cap : Nat) (t : TypeId) (fz : Nat × Nat) : IsRow (w.alloc (.cells (bytesRow s cap) t fz)) (vby (il s)) (some ⟨w.heap.size, 0, none⟩) s.size := by
  rw [← vby_il_length s]
  refine IsRow.of_block fun i v hi => ?_
  rw [cell_of_row _ _ i _ t fz (heap_alloc_new w _)]
  have hi' : i < s.data.size := by
    rcases Nat.lt_or_ge i (vby (il s)).length with h | h
    · rw [vby_il_length] at h; exact h
    · rw [List.getElem?_eq_none h] at hi; cases hi
  rw [bytesRow_at s cap i hi', ← hi]
  simp [vby, il_at s hi']
  rfl
theorem row_string (w : World) (s : ByteArray) (cap : Nat) (t : TypeId) (fz : Nat × Nat) (o : Obj) : IsRow ((w.alloc (.cells (bytesRow s cap) t fz)).alloc o).drew (vby (il s)) (some ⟨w.heap.size, 0, none⟩) s.size :=
  (IsRow.of_string w s cap t fz).ext (((Ext.refl _).alloc o).drew)
theorem row_342 (w : World) (o : Obj) (t : TypeId) : IsRow ((w.alloc o).alloc (.cells #[.int .u8 3, .int .u8 4, .int .u8 2] t)).drew (vby [3, 4, 2]) (some ⟨w.heap.size + 1, 0, none⟩) 3 := by
  have h := (IsRow.new (w.alloc o) t (vby [3, 4, 2])).ext (Ext.refl _).drew
  simpa [vby] using h
set_option maxHeartbeats 1000000 in
theorem words_shaped (s : ByteArray) (f : Int) (w : World) (h0 : 0 ≤ f) (h1 : f ≤ 255) :
    Calls Tryz.prog 88 #[.string s, .int .u8 f] w fun e w' => e = .returned (.bool (shapely (il s) f)) ∧ Ext w w' := by
  by_cases hz : s = ByteArray.empty
  · subst hz
    go_enter Tryz.func88, Tryz.ntmps88
    go_wp2_with fail
    go_ret
    exact ⟨rfl, Ext.refl _⟩
  have hb := not_empty hz
  have hpos : 0 < s.size := by
    rcases Nat.eq_zero_or_pos s.size with h | h
    · exact absurd (ByteArray.size_eq_zero_iff.1 h) hz
    · exact h
  have HE := hid (shapely_eq s f hpos)
  by_cases h16 : 16 < s.size
  · have hd : decide ((16 : Int) < (s.size : Int)) = true := by simp; omega
    go_enter Tryz.func88, Tryz.ntmps88
    go_wp2_with fail
    go_ret
    exact ⟨ret_bool (by rw [HE.out]; simp; omega), Ext.refl _⟩
  have hd : decide ((16 : Int) < (s.size : Int)) = false := by simp; omega
  have hbb := byte_bound s[0]
  have HC := hid fun W => chars_class ((s[0].toNat : Nat) : Int) W hbb.1 hbb.2
  obtain ⟨c0, hc0⟩ : ∃ c0, c0 = cls ((s[0].toNat : Nat) : Int) := ⟨_, rfl⟩
  rw [← hc0] at HE HC
  clear hc0
  by_cases hcf : c0 = f
  case neg =>
    have hb : (f != c0) = true := by simpa using fun e => hcf e.symm
    have hb' : (c0 != f) = true := by simpa using hcf
    have HX := hid hcf
    clear hcf
    go_enter Tryz.func88, Tryz.ntmps88
    go_wp2_with (go_at_call 110; refine (HC.out _).mono ?_; rintro e w1 ⟨rfl, x1⟩)
    go_ret
    refine ⟨ret_bool ?_, x1⟩
    rw [HE.out]
    simp [HX.out]
  have hb : (f != c0) = false := by simpa using hcf.symm
  have hb' : (c0 != f) = false := by simpa using hcf
  have HX := hid hcf
  have H16 := hid h16
  have HS := hid (all_inner (il s))
  rw [il_length] at HS
  have hmax : s.size ≤ maxLen := by unfold maxLen; omega
  have hcv := fun w => run_bytes_of_string (P := Tryz.prog) w 9 22 5 s Tryz.underlying9 Tryz.underlying22 Tryz.underlying5
  have KP := hid fun W b o cap a' (h2 : s.size ≤ cap) (h3 : cap ≤ maxLen) (hr : IsRow W (vby (il s)) (some ⟨b, o, none⟩) s.size) (hc : IsRow W (vby [3, 4, 2]) a' 3) =>
    chars_span [3, 4, 2] (il s) 0 W b o s.size cap a' 3 3 h2 h3 (by omega) (by omega) hpos hr (fun c hc => il_bound s hc) hc
  have hgc := fun W => And.intro (grownCap_ge W s.size 0 5) (grownCap_le_maxLen W s.size 0 5 hmax)
  have HG := hid hgc
  clear hcf hgc hmax
  simp only [List.drop_zero] at KP
  obtain ⟨n, hn⟩ : ∃ n, n = spanOf [3, 4, 2] (il s) := ⟨_, rfl⟩
  rw [← hn] at KP HS
  clear hn
  go_enter Tryz.func88, Tryz.ntmps88
  go_wp2_with (first | (go_at_call 110; refine (HC.out _).mono ?_; rintro e w1 ⟨rfl, x1⟩) | (go_at_call 90; refine (KP.out _ w1.heap.size 0 (grownCap w1 s.size 0 5) _ (HG.out w1).1 (HG.out w1).2 (row_string w1 s _ _ _ _) (row_342 w1 _ _)).mono ?_; rintro e w2 ⟨rfl, x2⟩))
  go_ret
  refine ⟨ret_bool ?_, x1.trans (((((Ext.refl w1).alloc _).alloc _).drew).trans x2)⟩
  have hs := HS.out
  rw [HE.out, HX.out]
  rw [Bool.eq_iff_iff, beq_iff_eq, hs]
  simp
  omega
set_option maxHeartbeats 1000000 in
theorem words_name1 (s : ByteArray) (w : World) (hk : Knob w) : Calls Tryz.prog 122 #[.string s] w fun e w' => e = .returned (.bool (isName s)) ∧ Ext w w' := by
  have K1 := hid fun W => words_shaped s 3 W (by omega) (by omega)
  have K2 := hid fun W h => words_keyword s W h
  cases hsh : shapely (il s) 3
  all_goals
    have HS := hid hsh
    rw [hsh] at K1
    clear hsh
    go_enter Tryz.func122, Tryz.ntmps122
    go_wp2_with (first | (go_at_call 88; refine (K1.out _).mono ?_; rintro e w1 ⟨rfl, x1⟩) | (go_at_call 123; refine (K2.out _ (hk.ext x1)).mono ?_; rintro e w2 ⟨rfl, x2⟩))
    go_ret
    exact ⟨ret_bool (by simp [isName, HS.out, nat_beq_zero]), by (exact eX)⟩
set_option maxHeartbeats 1000000 in
theorem words_exn1 (s : ByteArray) (w : World) (hk : Knob w) : Calls Tryz.prog 87 #[.string s] w fun e w' => e = .returned (.bool (isExn s)) ∧ Ext w w' := by
  go_enter Tryz.func87, Tryz.ntmps87
  go_wp2_with (go_at_call 88; refine (words_shaped s 4 _ (by omega) (by omega)).mono ?_; rintro e w1 ⟨rfl, x1⟩)
  go_ret
  exact ⟨rfl, x1⟩
theorem not_any_not {α : Type} (p : α → Bool) (l : List α) : (!l.any fun s => !p s) = l.all p := by
  induction l with
  | nil => rfl
  | cons a l ih => rw [List.any_cons, List.all_cons, Bool.not_or, ih, Bool.not_not]
def Tells (p : ByteArray → Bool) (K : Nat) : Prop := ∀ w s, Knob w → Calls Tryz.prog K #[.string s] w fun e w' => e = .returned (.bool (p s)) ∧ Ext w w'
set_option maxHeartbeats 400000 in
theorem words_all1 (p : ByteArray → Bool) (K : Nat) (eK : ∀ args w, (callFunc K args).run Tryz.prog w = .ok (.enter K args) w) (hp : Tells p K)
    (s : ByteArray) (w : World) (b : Nat) (hk : Knob w) (hb : w.cell? ⟨b, 0, none⟩ = some (.func (.func K) #[] #[])) :
    Calls Tryz.prog 109 #[.string s, .pointer (some ⟨b, 0, none⟩)] w fun e w' => e = .returned (.bool (!p s)) ∧ Ext w w' := by
  have hbl := block_lt_of_cell hb
  simp at hbl
  have HP := hid (hp w s hk)
  clear hp
  go_enter Tryz.func109, Tryz.ntmps109
  go_wp2_with fail
  refine (HP.out).mono ?_
  rintro e w1 ⟨rfl, x1⟩
  go_wp2_with fail
  go_ret
  exact ⟨rfl, x1⟩
set_option maxHeartbeats 400000 in
theorem strs_indexFunc (p : ByteArray → Bool) (K : Nat) (eK : ∀ args w, (callFunc K args).run Tryz.prog w = .ok (.enter K args) w) (hp : Tells p K) (l : List ByteArray) (w : World) (b : Nat) (a : Option Addr) (len cap : Nat) (h1 : len ≤ cap) (h2 : cap ≤ 9223372036854775807) (hk : Knob w) (hl : IsRow w (vstr l) a len)
    (hb : w.cell? ⟨b, 0, none⟩ = some (.func (.func K) #[] #[])) :
    Calls Tryz.prog 127 #[.slice a len cap, .func (.func 109) #[] #[.pointer (some ⟨b, 0, none⟩)]] w fun e w' => e = .returned (.int .i64 (fidx (fun s => !p s) l)) ∧ Ext w w' := by
  have hll := hl.1
  simp only [vstr, List.length_map] at hll
  have HL := hid hll
  have HR := hid hl
  have HBC := hid hb
  have KC := hid fun s W (h : Ext w W) => words_all1 p K eK hp s W b (hk.ext h) (h.cell hb)
  clear hll hl hb eK hp
  go_enter Tryz.func127, Tryz.ntmps127
  go_wp2_with fail
  go_loopg [8] len (fun g i wr => ∃ j : Nat, g = len - j ∧ j ≤ len ∧ i = .int .i64 j ∧ (∀ t, t ∈ l.take j → (!p t) = false) ∧ Ext w wr)
  case atStart => exact ⟨0, by omega, by omega, rfl, by simp, Ext.refl _⟩
  case round =>
    obtain ⟨j, rfl, hj, rfl, hto, hx⟩ := hrel
    have HT := hid hto
    clear hto
    by_cases hlt : j < len
    · obtain ⟨t, b', o, g, rfl, q⟩ := (HR.out.ext hx).str hlt
      have KD := hid (KC.out t _ hx)
      have G := hid g
      clear g
      cases hr : !p t
      · have HX := hid hr
        rw [hr] at KD
        clear hr
        go_wp2_with (go_at_call 109; refine (KD.out).mono ?_; rintro e w1 ⟨rfl, x1⟩)
        go_roundg (len - (j + 1))
        case rel =>
          refine ⟨j + 1, rfl, by omega, by go_num, ?_, hx.trans x1⟩
          intro y hy
          rw [List.take_add_one, G.out] at hy
          simp only [List.mem_append, Option.toList_some, List.mem_singleton] at hy
          rcases hy with hy | rfl
          · exact HT.out y hy
          · exact HX.out
        case measure => omega
      · have HX := hid hr
        rw [hr] at KD
        clear hr
        go_wp2_with (go_at_call 109; refine (KD.out).mono ?_; rintro e w1 ⟨rfl, x1⟩)
        go_ret
        exact ⟨ret_int (fidx_at HT.out G.out HX.out).symm, hx.trans x1⟩
    · obtain rfl : j = len := by omega
      go_wp2_with fail
      go_ret
      have h0 := HT.out
      rw [List.take_of_length_le (by rw [← HL.out]; omega)] at h0
      exact ⟨ret_int (fidx_none h0).symm, hx⟩
set_option maxHeartbeats 400000 in
theorem words_all (p : ByteArray → Bool) (K : Nat) (eK : ∀ args w, (callFunc K args).run Tryz.prog w = .ok (.enter K args) w) (hp : Tells p K) (l : List ByteArray) (w : World) (a : Option Addr) (len cap : Nat) (h1 : len ≤ cap) (h2 : cap ≤ 9223372036854775807) (hk : Knob w) (hl : IsRow w (vstr l) a len) :
    Calls Tryz.prog 86 #[.func (.func K) #[] #[], .slice a len cap] w fun e w' => e = .returned (.bool (l.all p)) ∧ Ext w w' := by
  have HF : Hid ((!decide (0 ≤ fidx (fun s => !p s) l)) = l.all p) := by
    show _ = _
    rw [fidx_nonneg, not_any_not]
  have HC : Hid (∀ W, Ext (w.alloc (.cells #[.func (.func K) #[] #[]] 53)) W → Calls Tryz.prog 108 #[.slice a len cap, .func (.func 109) #[] #[.pointer (some ⟨w.heap.size, 0, none⟩)]] W fun e w' => e = .returned (.bool (decide (0 ≤ fidx (fun s => !p s) l))) ∧ Ext W w') := by
    intro W hW
    have KI := hid (strs_indexFunc p K eK hp l W w.heap.size a len cap h1 h2 (hk.ext (((Ext.refl _).alloc _).trans hW)) (hl.ext (((Ext.refl _).alloc _).trans hW)) (hW.cell (by simp)))
    clear eK hp
    go_enter Tryz.func108, Tryz.ntmps108
    go_wp2_with (go_at_call 127; refine (KI.out).mono ?_; rintro e w1 ⟨rfl, x1⟩)
    go_ret
    exact ⟨rfl, x1⟩
  clear eK hp
  go_enter Tryz.func86, Tryz.ntmps86
  go_wp2_with (go_at_call 108; refine (HC.out _ (Ext.refl _)).mono ?_; rintro e w1 ⟨rfl, x1⟩)
  go_ret
  exact ⟨ret_bool HF.out, ((Ext.refl _).alloc _).trans x1⟩
theorem enters_name1 : ∀ args w, (callFunc 122 args).run Tryz.prog w = .ok (.enter 122 args) w := enters_of Tryz.func122 (by kernel_rfl) rfl
theorem enters_exn1 : ∀ args w, (callFunc 87 args).run Tryz.prog w = .ok (.enter 87 args) w := enters_of Tryz.func87 (by kernel_rfl) rfl
set_option maxHeartbeats 400000 in
theorem words_name (l : List ByteArray) (w : World) (a : Option Addr) (len cap : Nat) (h1 : len ≤ cap) (h2 : cap ≤ 9223372036854775807) (hk : Knob w) (hl : IsRow w (vstr l) a len) :
    Calls Tryz.prog 103 #[.slice a len cap] w fun e w' => e = .returned (.bool (l.all isName)) ∧ Ext w w' := by
  have K := hid (words_all isName 122 enters_name1 (fun w s h => words_name1 s w h) l w a len cap h1 h2 hk hl)
  go_enter Tryz.func103, Tryz.ntmps103
  go_wp2_with (go_at_call 86; refine (K.out).mono ?_; rintro e w1 ⟨rfl, x1⟩)
  go_ret
  exact ⟨rfl, x1⟩
set_option maxHeartbeats 400000 in
theorem words_exn (l : List ByteArray) (w : World) (a : Option Addr) (len cap : Nat) (h1 : len ≤ cap) (h2 : cap ≤ 9223372036854775807) (hk : Knob w) (hl : IsRow w (vstr l) a len) :
    Calls Tryz.prog 52 #[.slice a len cap] w fun e w' => e = .returned (.bool (l.all isExn)) ∧ Ext w w' := by
  have K := hid (words_all isExn 87 enters_exn1 (fun w s h => words_exn1 s w h) l w a len cap h1 h2 hk hl)
  go_enter Tryz.func52, Tryz.ntmps52
  go_wp2_with (go_at_call 86; refine (K.out).mono ?_; rintro e w1 ⟨rfl, x1⟩)
  go_ret
  exact ⟨rfl, x1⟩
end Go.Proofs.YtaioeailgknfjaaGreatDoor

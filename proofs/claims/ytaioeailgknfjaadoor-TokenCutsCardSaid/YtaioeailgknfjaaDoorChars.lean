/- The walks of package chars: classes, spans. -/
import Derived.Test.YtaioeailgknfjaaDoorHeld
import Derived.Test.YtaioeailgknfjaaDoorRowMem
import Derived.Test.YtaioeailgknfjaaDoorShelf
import Derived.Deep.DeepCutAuto
import Derived.Deep.CutBlock
import Derived.Deep.LoopGhost
namespace Go.Proofs.YtaioeailgknfjaaDoor
open Go Go.RowKit Go.Sort

set_option maxHeartbeats 1000000 in
theorem chars_class (c : Int) (w : World) (h0 : 0 ≤ c) (h1 : c ≤ 255) :
    Calls Tryd.prog 32 #[.int .u8 c] w fun e w' => e = .returned (.int .u8 (cls c)) ∧ Ext w w' := by
  have hb1 := index_blank c h0 h1
  have hb2 := index_sign c h0 h1
  have KB := Lib.hid fun W => Tryd.strings_IndexByte ⟨#[32, 9, 10]⟩ c W
  have KS := Lib.hid fun W => Tryd.strings_IndexByte ⟨#[40, 41, 44, 33, 58, 61, 62, 43, 45, 42, 60, 59]⟩ c W
  obtain ⟨nb, hnb⟩ : ∃ nb, nb = Lib.indexByte [32, 9, 10] c.toNat.toUInt8 := ⟨_, rfl⟩
  obtain ⟨ns, hns⟩ : ∃ ns, ns = Lib.indexByte [40, 41, 44, 33, 58, 61, 62, 43, 45, 42, 60, 59] c.toNat.toUInt8 := ⟨_, rfl⟩
  rw [← hnb] at hb1 KB
  rw [← hns] at hb2 KS
  clear hnb hns
  obtain ⟨k, hk⟩ : ∃ k, k = cls c := ⟨_, rfl⟩
  rw [← hk]
  unfold cls at hk
  have cases : (decide (0 ≤ nb) = true ∧ k = 1) ∨ (decide (0 ≤ nb) = false ∧ decide (48 ≤ c) = true ∧ decide (c ≤ 57) = true ∧ k = 2)
      ∨ (decide (0 ≤ nb) = false ∧ decide (48 ≤ c) = true ∧ decide (c ≤ 57) = false ∧ decide (97 ≤ c) = true ∧ decide (c ≤ 122) = true ∧ k = 3)
      ∨ (decide (0 ≤ nb) = false ∧ decide (48 ≤ c) = true ∧ decide (c ≤ 57) = false ∧ decide (97 ≤ c) = false ∧ decide (65 ≤ c) = true ∧ decide (c ≤ 90) = true ∧ k = 4)
      ∨ (decide (0 ≤ nb) = false ∧ ((decide (48 ≤ c) = false) ∨ (decide (48 ≤ c) = true ∧ decide (c ≤ 57) = false)) ∧ ((decide (97 ≤ c) = false) ∨ (decide (97 ≤ c) = true ∧ decide (c ≤ 122) = false)) ∧ ((decide (65 ≤ c) = false) ∨ (decide (65 ≤ c) = true ∧ decide (c ≤ 90) = false)) ∧ ((decide (0 ≤ ns) = true ∧ k = 5) ∨ (decide (0 ≤ ns) = false ∧ k = 0))) := by
    rw [hb1, hb2]
    simp only [decide_eq_true_eq, decide_eq_false_iff_not]
    by_cases A : c = 32 ∨ c = 9 ∨ c = 10
    · rw [if_pos A] at hk; exact .inl ⟨A, hk⟩
    rw [if_neg A] at hk
    by_cases B : 48 ≤ c ∧ c ≤ 57
    · rw [if_pos B] at hk; exact .inr (.inl ⟨A, B.1, B.2, hk⟩)
    rw [if_neg B] at hk
    by_cases C : 97 ≤ c ∧ c ≤ 122
    · rw [if_pos C] at hk; exact .inr (.inr (.inl ⟨A, by omega, by omega, C.1, C.2, hk⟩))
    rw [if_neg C] at hk
    by_cases D : 65 ≤ c ∧ c ≤ 90
    · rw [if_pos D] at hk; exact .inr (.inr (.inr (.inl ⟨A, by omega, by omega, by omega, D.1, D.2, hk⟩)))
    rw [if_neg D] at hk
    refine .inr (.inr (.inr (.inr ⟨A, by omega, by omega, by omega, ?_⟩)))
    by_cases E : c ∈ signs
    · rw [if_pos E] at hk; exact .inl ⟨E, hk⟩
    · rw [if_neg E] at hk; exact .inr ⟨E, hk⟩
  clear hk hb1 hb2
  rcases cases with ⟨A, rfl⟩ | ⟨A, B, C, rfl⟩ | ⟨A, B, C, D, E, rfl⟩ | ⟨A, B, C, D, E, F, rfl⟩ | ⟨A, B | ⟨B, B'⟩, C | ⟨C, C'⟩, D | ⟨D, D'⟩, ⟨E, rfl⟩ | ⟨E, rfl⟩⟩
  all_goals
    go_enter Tryd.func32, Tryd.ntmps32
    go_wp2_with (first | (go_at_call 53; (with_reducible refine (KB.out _).mono ?_); rintro e w' ⟨rfl, rfl⟩) | (go_at_call 53; (with_reducible refine (KS.out _).mono ?_); rintro e w' ⟨rfl, rfl⟩))
    go_ret
    exact ⟨rfl, Ext.refl _⟩

set_option maxHeartbeats 400000 in
theorem bytes_index (x : Int) (l : List Int) (w : World) (a : Option Addr) (len cap : Nat) (h1 : len ≤ cap) (h2 : cap ≤ 9223372036854775807) (hl : IsRow w (vby l) a len) :
    Calls Tryd.prog 52 #[.slice a len cap, .int .u8 x] w fun e w' => e = .returned (.int .i64 (fidx (fun y => x == y) l)) ∧ Ext w w' := by
  have hll := hl.1
  simp only [vby, List.length_map] at hll
  have HL := Lib.hid hll
  have HR := Lib.hid hl
  clear hll hl
  go_enter Tryd.func52, Tryd.ntmps52
  go_wp2_with fail
  go_loopg [8] len (fun g i wr => ∃ j : Nat, g = len - j ∧ j ≤ len ∧ i = .int .i64 j ∧ (∀ t, t ∈ l.take j → (x == t) = false) ∧ wr = w)
  case atStart => exact ⟨0, by omega, by omega, rfl, by simp, rfl⟩
  case round =>
    obtain ⟨j, rfl, hj, rfl, hto, rfl⟩ := hrel
    have HT := Lib.hid hto
    clear hto
    by_cases hlt : j < len
    · obtain ⟨t, b, o, g, rfl, q⟩ := HR.out.byte hlt
      have G := Lib.hid g
      clear g
      cases hr : x == t
      · have HX := Lib.hid hr
        go_wp2_with fail
        go_roundg (len - (j + 1))
        case rel =>
          refine ⟨j + 1, rfl, by omega, by go_num, ?_, rfl⟩
          intro y hy
          rw [List.take_add_one, G.out] at hy
          simp only [List.mem_append, Option.toList_some, List.mem_singleton] at hy
          rcases hy with hy | rfl
          · exact HT.out y hy
          · exact HX.out
        case measure => omega
      · have HX := Lib.hid hr
        go_wp2_with fail
        go_ret
        exact ⟨ret_int (fidx_at HT.out G.out HX.out).symm, Ext.refl _⟩
    · obtain rfl : j = len := by omega
      go_wp2_with fail
      go_ret
      have h0 := HT.out
      rw [List.take_of_length_le (by rw [← HL.out]; omega)] at h0
      exact ⟨ret_int (fidx_none h0).symm, Ext.refl _⟩

set_option maxHeartbeats 400000 in
theorem bytes_contains (x : Int) (l : List Int) (w : World) (a : Option Addr) (len cap : Nat) (h1 : len ≤ cap) (h2 : cap ≤ 9223372036854775807) (hl : IsRow w (vby l) a len) :
    Calls Tryd.prog 31 #[.slice a len cap, .int .u8 x] w fun e w' => e = .returned (.bool (l.contains x)) ∧ Ext w w' := by
  have HF := Lib.hid (fidx_nonneg (fun y => x == y) l)
  have HE : Hid (l.any (fun y => x == y) = l.contains x) := List.contains_eq_any_beq.symm
  go_enter Tryd.func31, Tryd.ntmps31
  go_wp2_with (go_at_call 52; refine (bytes_index x l _ a len cap h1 h2 hl).mono ?_; rintro e w1 ⟨rfl, x1⟩)
  go_ret
  exact ⟨ret_bool (HF.out.trans HE.out), x1⟩

set_option maxHeartbeats 400000 in
theorem chars_span1 (c : Int) (cl : List Int) (w : World) (b : Nat) (a : Option Addr) (len cap : Nat) (h0 : 0 ≤ c) (h255 : c ≤ 255) (h1 : len ≤ cap) (h2 : cap ≤ 9223372036854775807) (hb : w.cell? ⟨b, 0, none⟩ = some (.slice a len cap)) (hl : IsRow w (vby cl) a len) :
    Calls Tryd.prog 30 #[.int .u8 c, .pointer (some ⟨b, 0, none⟩)] w fun e w' => e = .returned (.bool (!cl.contains (cls c))) ∧ Ext w w' := by
  have hbl := block_lt_of_cell hb
  simp at hbl
  have kb := cells_regrown hb
  have cQ := quiet_ext (w := w) fun w1 h1 => chars_class c w1 h0 h255
  have cR := quiet_ext (w := w) fun w1 hx => bytes_contains (cls c) cl w1 a len cap h1 h2 (hl.ext hx)
  generalize cls c = k at *
  go_enter Tryd.func30, Tryd.ntmps30
  go_wp2_with fail
  refine wp_region_quiet_below (by kernel_rfl) (by kernel_rfl) ?_
  repeat (go_big_quiet_step (first | exact cQ _ _ | exact cR _ _))
  refine wpQuiet_nil ?_
  intro w1 hq_w1
  have x1 := ext_of_regrown hq_w1
  clear hq_w1
  go_wp2_with fail
  go_ret
  exact ⟨ret_bool (by simp), x1⟩

set_option maxHeartbeats 400000 in
theorem bytes_indexFunc (cl : List Int) (l : List Int) (w : World) (b : Nat) (a : Option Addr) (len cap : Nat) (a' : Option Addr) (len' cap' : Nat) (h1 : len ≤ cap) (h2 : cap ≤ 9223372036854775807) (h1' : len' ≤ cap') (h2' : cap' ≤ 9223372036854775807) (hl : IsRow w (vby l) a len)
    (hby : ∀ c, c ∈ l → 0 ≤ c ∧ c ≤ 255) (hb : w.cell? ⟨b, 0, none⟩ = some (.slice a' len' cap')) (hcl : IsRow w (vby cl) a' len') :
    Calls Tryd.prog 29 #[.slice a len cap, .func (.func 30) #[] #[.pointer (some ⟨b, 0, none⟩)]] w fun e w' => e = .returned (.int .i64 (fidx (fun c => !cl.contains (cls c)) l)) ∧ Ext w w' := by
  have hll := hl.1
  simp only [vby, List.length_map] at hll
  have HL := Lib.hid hll
  have HR := Lib.hid hl
  have HC := Lib.hid hcl
  have HB := Lib.hid hby
  have HBC := Lib.hid hb
  clear hll hl hcl hby hb
  go_enter Tryd.func29, Tryd.ntmps29
  go_wp2_with fail
  go_loopg [8] len (fun g i wr => ∃ j : Nat, g = len - j ∧ j ≤ len ∧ i = .int .i64 j ∧ (∀ t, t ∈ l.take j → (!cl.contains (cls t)) = false) ∧ Ext w wr)
  case atStart => exact ⟨0, by omega, by omega, rfl, by simp, Ext.refl _⟩
  case round =>
    obtain ⟨j, rfl, hj, rfl, hto, hx⟩ := hrel
    have HT := Lib.hid hto
    clear hto
    by_cases hlt : j < len
    · obtain ⟨t, b, o, g, rfl, q⟩ := (HR.out.ext hx).byte hlt
      have hbd := HB.out t (List.mem_of_getElem? g)
      have KC := Lib.hid (chars_span1 t cl wr _ a' len' cap' hbd.1 hbd.2 h1' h2' (hx.cell HBC.out) (HC.out.ext hx))
      have G := Lib.hid g
      clear g
      cases hr : !cl.contains (cls t)
      · have HX := Lib.hid hr
        rw [hr] at KC
        clear hr
        go_wp2_with (go_at_call 30; refine (KC.out).mono ?_; rintro e w1 ⟨rfl, x1⟩)
        go_roundg (len - (j + 1))
        case rel =>
          refine ⟨j + 1, rfl, by omega, by go_num, ?_, hx.trans x1⟩
          intro y hy
          rw [List.take_add_one, G.out] at hy
          simp only [List.mem_append, Option.toList_some, List.mem_singleton] at hy
          rcases hy with hy | rfl
          · exact HT.out y hy
          · exact HX.out
        case measure => omega
      · have HX := Lib.hid hr
        rw [hr] at KC
        clear hr
        go_wp2_with (go_at_call 30; refine (KC.out).mono ?_; rintro e w1 ⟨rfl, x1⟩)
        go_ret
        exact ⟨ret_int (fidx_at HT.out G.out HX.out).symm, hx.trans x1⟩
    · obtain rfl : j = len := by omega
      go_wp2_with fail
      go_ret
      have h0 := HT.out
      rw [List.take_of_length_le (by rw [← HL.out]; omega)] at h0
      exact ⟨ret_int (fidx_none h0).symm, hx⟩

set_option maxHeartbeats 400000 in
theorem chars_span (cl l : List Int) (k : Nat) (w : World) (b o : Nat) (len cap : Nat) (a' : Option Addr) (len' cap' : Nat) (h1 : len ≤ cap) (h2 : cap ≤ 9223372036854775807) (h1' : len' ≤ cap') (h2' : cap' ≤ 9223372036854775807) (hk : k < len) (hl : IsRow w (vby l) (some ⟨b, o, none⟩) len)
    (hby : ∀ c, c ∈ l → 0 ≤ c ∧ c ≤ 255) (hcl : IsRow w (vby cl) a' len') :
    Calls Tryd.prog 16 #[.slice (some ⟨b, o, none⟩) len cap, .int .i64 k, .slice a' len' cap'] w fun e w' => e = .returned (.int .i64 (spanOf cl (l.drop k) : Nat)) ∧ Ext w w' := by
  have HS := Lib.hid (span_find cl (l.drop k))
  have hdl : ((l.drop k).length : Int) = len - k := by
    have := hl.1
    simp [vby] at this
    simp
    omega
  rw [hdl] at HS
  have K := Lib.hid fun W (h : Ext (w.alloc (.cells #[.slice a' len' cap'] 22)) W) =>
    bytes_indexFunc cl (l.drop k) W w.heap.size (some ⟨b, o + k, none⟩) (len - k) (cap - k) a' len' cap' (by omega) (by omega) h1' h2' (by rw [← vby_drop]; exact hl.drop.ext (((Ext.refl _).alloc _).trans h)) (fun c hc => hby c (List.mem_of_mem_drop hc)) (h.cell (by simp [go_sem])) (hcl.ext (((Ext.refl _).alloc _).trans h))
  clear hdl
  have d0 : decide ((k : Int) < 0) = false := by simp
  have d1 : decide ((len : Int) ≤ (k : Int)) = false := by simp; omega
  have hbd := fidx_bd (fun c => !cl.contains (cls c)) (l.drop k)
  have hbd1 := hbd.1
  obtain ⟨n, hn⟩ : ∃ n, n = fidx (fun c => !cl.contains (cls c)) (l.drop k) := ⟨_, rfl⟩
  rw [← hn] at HS K hbd1
  clear hn hbd
  by_cases hneg : n < 0
  all_goals
    first | rw [if_pos hneg] at HS | rw [if_neg hneg] at HS
    first | have hd : decide (n < 0) = true := by simpa using hneg | have hd : decide (n < 0) = false := by simpa using hneg
    go_enter Tryd.func16, Tryd.ntmps16
    go_wp2_with (go_at_call 29; refine (K.out _ (Ext.refl _)).mono ?_; rintro e w1 ⟨rfl, x1⟩)
    go_ret
    exact ⟨ret_int HS.out, ((Ext.refl _).alloc _).trans x1⟩
end Go.Proofs.YtaioeailgknfjaaDoor

/- Part 7 of the proof: WordsN; no condition of ours. -/
import Derived.Test.YtaioeailgknfjaaGreatDoorPkp2
import Derived.Test.YtaioeailgknfjaaGreatDoorPkp3
import Derived.Test.YtaioeailgknfjaaGreatDoorPkp5
set_option linter.unusedVariables false
set_option linter.unusedSimpArgs false
namespace Go.Proofs.YtaioeailgknfjaaGreatDoor
open Go.Lib (hid)
open Go Go.RowKit Go.Sort
theorem row_2 (w : World) (o : Obj) (t : TypeId) : IsRow ((w.alloc o).alloc (.cells #[.int .u8 2] t)).drew (vby [2]) (some ⟨w.heap.size + 1, 0, none⟩) 1 := by
  have h := (IsRow.new (w.alloc o) t (vby [2])).ext (Ext.refl _).drew
  simpa [vby] using h
theorem head_at (s : ByteArray) (h : 0 < s.size) : s.data.toList.head? = some s[0] := by
  have h' : 0 < s.data.toList.length := by rw [Array.length_toList]; exact h
  rw [List.head?_eq_getElem?, List.getElem?_eq_getElem h']
  rfl
theorem list_size (s : ByteArray) : s.data.toList.length = s.size := by rw [Array.length_toList]; rfl
theorem num_no {s : ByteArray} (h : okN s.data.toList = false) : numV s = 0 ∧ numB s = false := by
  unfold numV numB
  rw [h]
  exact ⟨rfl, rfl⟩
def RetN (s : ByteArray) (w : World) (e : Ending) (w' : World) : Prop := e = .returned (.tuple #[.int .i64 (numV s), .bool (numB s)]) ∧ Ext w w'
set_option maxHeartbeats 1000000 in
theorem words_number (s : ByteArray) (w : World) : Calls Tryz.prog 130 #[.string s] w (RetN s w) := by
  by_cases hz : s = ByteArray.empty
  · subst hz
    have HN := hid (num_no (s := ByteArray.empty) rfl)
    go_enter Tryz.func130, Tryz.ntmps130
    go_wp2_with fail
    go_ret2
    exact ⟨by rw [HN.out.1, HN.out.2]; rfl, Ext.refl _⟩
  have hb := not_empty hz
  have hpos : 0 < s.size := by
    rcases Nat.eq_zero_or_pos s.size with h | h
    · exact absurd (ByteArray.size_eq_zero_iff.1 h) hz
    · exact h
  have hls := list_size s
  by_cases h10 : 10 < s.size
  · have hd : decide ((10 : Int) < (s.size : Int)) = true := by simp; omega
    have HN := hid (num_no (okN_long (l := s.data.toList) (by omega)))
    clear hls
    go_enter Tryz.func130, Tryz.ntmps130
    go_wp2_with fail
    go_ret2
    exact ⟨by rw [HN.out.1, HN.out.2]; rfl, Ext.refl _⟩
  have hd : decide ((10 : Int) < (s.size : Int)) = false := by simp; omega
  have hhd := head_at s hpos
  by_cases hlead : 1 < s.size ∧ s[0] = 48
  · have hd1 : decide ((1 : Int) < (s.size : Int)) = true := by simp; omega
    have hc : (((s[0].toNat : Nat) : Int) == 48) = true := by rw [hlead.2]; rfl
    have hno : okN s.data.toList = false := by
      unfold okN
      rw [hhd, hlead.2]
      have : (s.data.toList.length == 1) = false := by simp; omega
      rw [this]
      simp
    have HN := hid (num_no hno)
    clear hls hhd hno hlead
    go_enter Tryz.func130, Tryz.ntmps130
    go_wp2_with fail
    go_ret2
    exact ⟨by rw [HN.out.1, HN.out.2]; rfl, Ext.refl _⟩
  have hmax : s.size ≤ maxLen := by unfold maxLen; omega
  have hcv := fun w => run_bytes_of_string (P := Tryz.prog) w 9 22 5 s Tryz.underlying9 Tryz.underlying22 Tryz.underlying5
  have KP := hid fun W b o cap a' (h2 : s.size ≤ cap) (h3 : cap ≤ maxLen) (hr : IsRow W (vby (il s)) (some ⟨b, o, none⟩) s.size) (hc : IsRow W (vby [2]) a' 1) =>
    chars_span [2] (il s) 0 W b o s.size cap a' 1 1 h2 h3 (by omega) (by omega) hpos hr (fun c hc => il_bound s hc) hc
  have hgc := fun W => And.intro (grownCap_ge W s.size 0 5) (grownCap_le_maxLen W s.size 0 5 hmax)
  have HG := hid hgc
  clear hgc hmax
  simp only [List.drop_zero] at KP
  have hsd := span_digits s
  have hle := spanOf_le [2] (il s)
  rw [il_length] at hle
  have lead : decide ((1 : Int) < (s.size : Int)) = false ∨ (decide ((1 : Int) < (s.size : Int)) = true ∧ (((s[0].toNat : Nat) : Int) == 48) = false) := by
    by_cases h1 : 1 < s.size
    · refine .inr ⟨by simp; omega, ?_⟩
      rw [beq_eq_false_iff_ne]
      intro e
      apply hlead
      refine ⟨h1, UInt8.toNat_inj.1 ?_⟩
      have : s[0].toNat = 48 := by omega
      rw [this]
      rfl
    · exact .inl (by simp; omega)
  obtain ⟨n, hn⟩ : ∃ n, n = spanOf [2] (il s) := ⟨_, rfl⟩
  rw [← hn] at KP hsd hle
  clear hn
  by_cases hspan : n = s.size
  case neg =>
    have hd2 : n < s.size := by omega
    have hno : okN s.data.toList = false := by
      unfold okN
      have : s.data.toList.all isD = false := Bool.eq_false_iff.2 fun h => hspan (hsd.2 h)
      rw [this]
      simp
    have HN := hid (num_no hno)
    clear hls hhd hno hlead hsd hspan
    rcases lead with hl1 | ⟨hl1, hl2⟩
    all_goals
      go_enter Tryz.func130, Tryz.ntmps130
      go_wp2_with (go_at_call 90; refine (KP.out _ w.heap.size 0 (grownCap w s.size 0 5) _ (HG.out w).1 (HG.out w).2 (row_string w s _ _ _ _) (row_2 w _ _)).mono ?_; rintro e w2 ⟨rfl, x2⟩)
      go_ret2
      exact ⟨by rw [HN.out.1, HN.out.2]; rfl, ((((Ext.refl w).alloc _).alloc _).drew).trans x2⟩
  have hall := hsd.1 hspan
  subst hspan
  have hd2 : decide ((s.size : Int) < (s.size : Int)) = false := by simp
  have hne : s.data.toList ≠ [] := by intro e; rw [e] at hls; simp at hls; omega
  have hlast : (s.data.toList.length == 1 || s.data.toList.head? != some 48) = true := by
    by_cases h1 : 1 < s.size
    · have : s[0] ≠ 48 := fun e => hlead ⟨h1, e⟩
      rw [hhd]
      simp [this]
    · have : s.data.toList.length = 1 := by omega
      simp [this]
  have hok : okN s.data.toList = decide (valN 0 s.data.toList ≤ 2147483647) := by
    unfold okN
    rw [hall, hlast]
    have : s.data.toList.isEmpty = false := by simpa using hne
    rw [this]
    simp
  have KI := hid fun W => Tryz.strconv_ParseInt_10_at64_ok s (by omega) (valN 0 s.data.toList : Nat) (parseInt_digits s.data.toList hall hne (by omega)) W
  have hvv : numV s = if valN 0 s.data.toList ≤ 2147483647 then ((valN 0 s.data.toList : Nat) : Int) else 0 := by
    unfold numV
    rw [hok]
    by_cases h : valN 0 s.data.toList ≤ 2147483647 <;> simp [h]
  have hbb : numB s = decide (valN 0 s.data.toList ≤ 2147483647) := hok
  have HV := hid hvv
  have HB := hid hbb
  clear hvv hbb hok hlast hne hhd hlead hsd hle hls hall
  generalize valN 0 s.data.toList = v at *
  by_cases hv : v ≤ 2147483647
  all_goals
    first | rw [if_pos hv] at HV | rw [if_neg hv] at HV
    first | rw [decide_eq_true hv] at HB | rw [decide_eq_false hv] at HB
    first | have hd3 : decide ((2147483647 : Int) < (v : Int)) = false := (by simp; omega) | have hd3 : decide ((2147483647 : Int) < (v : Int)) = true := (by simp; omega)
    rcases lead with hl1 | ⟨hl1, hl2⟩
    all_goals
      go_enter Tryz.func130, Tryz.ntmps130
      go_wp2_with (first | (go_at_call 90; refine (KP.out _ w.heap.size 0 (grownCap w s.size 0 5) _ (HG.out w).1 (HG.out w).2 (row_string w s _ _ _ _) (row_2 w _ _)).mono ?_; rintro e w2 ⟨rfl, x2⟩) | (go_at_call 138; refine (KI.out _).mono ?_; rintro e w3 ⟨rfl, x3⟩))
      have y3 : Ext w2 w3 := by
        rcases x3 with rfl | ⟨t, rfl⟩
        · exact Ext.refl _
        · exact Lib.bytesWorld_below _ _ _
      go_ret2
      exact ⟨by rw [HV.out, HB.out]; rfl, ((((Ext.refl w).alloc _).alloc _).drew).trans (x2.trans y3)⟩
theorem drop_at (s : ByteArray) {j : Nat} (h : j < s.size) : s.data.toList.drop j = s[j] :: s.data.toList.drop (j + 1) := by
  have h' : j < s.data.toList.length := by rw [list_size]; exact h
  rw [List.drop_eq_getElem_cons h']
  rfl
set_option maxHeartbeats 1000000 in
theorem ref_number (s : ByteArray) (w : World) (hmax : s.size ≤ 9223372036854775807) : Calls Tryz.prog 63 #[.string s] w (RetN s w) := by
  have HLS := hid (list_size s)
  go_enter Tryz.func63, Tryz.ntmps63
  go_wp2_with fail
  go_loopg [4, 5] s.size (fun g n i wr => ∃ j v : Nat, g = s.size - j ∧ j ≤ s.size ∧ i = .int .i64 j ∧ n = .int .i64 v ∧ v ≤ 21474836479 ∧ roadN s.data.toList 0 = roadN (s.data.toList.drop j) v ∧ wr = w)
  case atStart => exact ⟨0, 0, by omega, by omega, rfl, rfl, by omega, by simp, rfl⟩
  case round =>
    obtain ⟨j, v, rfl, hj, rfl, rfl, hv, hr, rfl⟩ := hrel
    have HR := hid hr
    clear hr
    by_cases hlt : j < s.size
    · have HD := hid (drop_at s hlt)
      have hbb := byte_bound s[j]
      have hDI := isD_iff s[j]
      obtain ⟨c, hc⟩ : ∃ c : Nat, c = s[j].toNat := ⟨_, rfl⟩
      rw [← hc] at hDI
      have hcb : c ≤ 255 := by have := s[j].toNat_lt; omega
      have HC := hid hc
      have stop : (¬ (isD s[j] = true ∧ v ≤ 2147483647)) → okN s.data.toList = false := by
        intro hn
        apply road_none
        rw [HR.out, HD.out]
        unfold roadN
        rw [if_neg]
        rw [Bool.and_eq_true, decide_eq_true_eq]
        exact hn
      have go : isD s[j] = true → v ≤ 2147483647 → roadN s.data.toList 0 = roadN (s.data.toList.drop (j + 1)) (10 * v + (c - 48)) := by
        intro h1 h2
        rw [HR.out, HD.out]
        conv => lhs; unfold roadN
        rw [if_pos (by rw [h1, decide_eq_true h2]; rfl), HC.out]
      have cases : (decide ((c : Int) < 48) = true ∧ okN s.data.toList = false) ∨ (decide ((c : Int) < 48) = false ∧ decide ((57 : Int) < (c : Int)) = true ∧ okN s.data.toList = false) ∨ (decide ((c : Int) < 48) = false ∧ decide ((57 : Int) < (c : Int)) = false ∧ decide ((2147483647 : Int) < (v : Int)) = true ∧ okN s.data.toList = false)
          ∨ (decide ((c : Int) < 48) = false ∧ decide ((57 : Int) < (c : Int)) = false ∧ decide ((2147483647 : Int) < (v : Int)) = false ∧ 48 ≤ c ∧ c ≤ 57 ∧ v ≤ 2147483647 ∧ roadN s.data.toList 0 = roadN (s.data.toList.drop (j + 1)) (10 * v + (c - 48))) := by
        by_cases a1 : c < 48
        · exact .inl ⟨by simp; omega, stop fun h => by have := hDI.1 h.1; omega⟩
        by_cases a2 : 57 < c
        · exact .inr (.inl ⟨by simp; omega, by simp; omega, stop fun h => by have := hDI.1 h.1; omega⟩)
        by_cases a3 : 2147483647 < v
        · exact .inr (.inr (.inl ⟨by simp; omega, by simp; omega, by simp; omega, stop fun h => by omega⟩))
        · exact .inr (.inr (.inr ⟨by simp; omega, by simp; omega, by simp; omega, by omega, by omega, by omega, go (hDI.2 ⟨by omega, by omega⟩) (by omega)⟩))
      have ec : ((s[j].toNat : Nat) : Int) = (c : Int) := by rw [hc]
      clear stop go hDI hbb hc
      rcases cases with ⟨A, H⟩ | ⟨A, B, H⟩ | ⟨A, B, C, H⟩ | ⟨A, B, C, c1, c2, c3, H⟩
      case inr.inr.inr =>
        have HN := hid H
        clear H
        have hsub : (0 : Int) ≤ (c : Int) - 48 := by omega
        go_wp2_with fail
        go_roundg (s.size - (j + 1))
        case rel => exact ⟨j + 1, 10 * v + (c - 48), rfl, by omega, by go_num, congrArg (Value.int .i64) (by omega), by omega, HN.out, rfl⟩
        case measure => omega
      all_goals
        have HN := hid (num_no H)
        clear H
        go_wp2_with fail
        go_ret2
        exact ⟨by rw [HN.out.1, HN.out.2]; rfl, Ext.refl _⟩
    · obtain rfl : j = s.size := by omega
      have hr := HR.out
      rw [List.drop_of_length_le (by rw [HLS.out]; omega)] at hr
      have hroad : roadN s.data.toList 0 = some v := by rw [hr]; rfl
      have hval := (roadN_some _ _ _ hroad).2
      have hro := road_ok _ _ hroad
      have hVV : numV s = if okN s.data.toList then (v : Int) else 0 := by unfold numV; rw [hval]
      have KD := hid fun W => ref_digits_nat (v + 1) v W (by omega) (by omega)
      have hcmp : ((bs (Lib.decDigits v)).toList == s.toList) = decide (Lib.decDigits v = s.data.toList) := by
        rw [ByteArray.toList_eq, ByteArray.toList_eq, bs_list]
        rw [Bool.eq_iff_iff]
        simp
      have hemp : s.data.toList.isEmpty = decide ((s.size : Int) = 0) := by
        rw [Bool.eq_iff_iff, List.isEmpty_iff, decide_eq_true_eq]
        have := HLS.out
        constructor
        · intro h; rw [h] at this; simp at this; omega
        · intro h; exact List.eq_nil_of_length_eq_zero (by omega)
      have HV := hid hVV
      have HB : Hid (numB s = okN s.data.toList) := rfl
      clear hr hroad hval hVV HR
      generalize okN s.data.toList = ok at *
      have d0 : decide ((s.size : Int) = 0) = ((s.size : Int) == 0) := rfl
      rw [d0] at hemp
      rw [hemp, ← hcmp] at hro
      have d1 : decide (v ≤ 2147483647) = !decide ((2147483647 : Int) < (v : Int)) := by
        rw [Bool.eq_iff_iff]; simp; omega
      rw [d1] at hro
      have HRO := hid hro
      clear hro d0 d1 hemp hcmp
      generalize bs (Lib.decDigits v) = D at *
      cases A : ((s.size : Int) == 0)
      case true =>
        rw [A] at HRO
        have hok := HRO.out
        simp at hok
        subst hok
        go_wp2_with fail
        go_ret2
        exact ⟨by rw [HV.out, HB.out]; rfl, Ext.refl _⟩
      cases B : decide ((2147483647 : Int) < (v : Int))
      case true =>
        rw [A, B] at HRO
        have hok := HRO.out
        simp at hok
        subst hok
        go_wp2_with fail
        go_ret2
        exact ⟨by rw [HV.out, HB.out]; rfl, Ext.refl _⟩
      cases C : (D.toList == s.toList)
      all_goals
        rw [A, B, C] at HRO
        have hok := HRO.out
        simp at hok
        subst hok
        have C1 : (D.toList != s.toList) = !(D.toList == s.toList) := rfl
        rw [C] at C1
        go_wp2_with (go_at_call 50; refine (KD.out _).mono ?_; rintro e w2 ⟨rfl, x2⟩)
        go_ret2
        exact ⟨by rw [HV.out, HB.out]; rfl, x2⟩
end Go.Proofs.YtaioeailgknfjaaGreatDoor

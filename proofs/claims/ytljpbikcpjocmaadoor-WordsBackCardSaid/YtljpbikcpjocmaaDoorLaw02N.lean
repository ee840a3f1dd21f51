/- The walks of the laws WordsIs, WordsApart and WordsBack. -/
import Derived.Test.YtljpbikcpjocmaaDoorLaw02
import Derived.Test.YtljpbikcpjocmaaDoorWordsN
namespace Go.Proofs.YtljpbikcpjocmaaDoor
open Go Go.RowKit Go.Sort

/-- The class of a text's first byte. -/
def headc (l : List Int) : Int := match l with
  | [] => -1
  | c :: _ => cls c
theorem headc_shape {l : List Int} {f : Int} (h : shapely l f = true) : headc l = f := by
  cases l with
  | nil => simp [shapely] at h
  | cons c l =>
    simp only [shapely, Bool.and_eq_true, beq_iff_eq] at h
    exact h.1.2
theorem headc_name {s : ByteArray} (h : isName s = true) : headc (il s) = 3 := by
  unfold isName at h
  rw [Bool.and_eq_true] at h
  exact headc_shape h.1
theorem headc_num {s : ByteArray} (h : numB s = true) : headc (il s) = 2 := by
  unfold numB okN at h
  simp only [Bool.and_eq_true] at h
  unfold il
  cases hl : s.data.toList with
  | nil => rw [hl] at h; simp at h
  | cons c r =>
    rw [hl, List.all_cons, Bool.and_eq_true] at h
    have hc := cls_digit c
    rw [h.2.1.1] at hc
    simp only [List.map_cons, headc]
    simpa using hc
theorem placeOf_mem {s : List UInt8} {l : List (List UInt8)} {n : Nat} (h : placeOf s l n ≠ 0) : s ∈ l := by
  refine Classical.byContradiction fun hn => h (placeOf_none (fun x hx e => hn (by rw [← e]; exact hx)) n)
theorem headc_kw {s : ByteArray} (h : kwd s ≠ 0) : headc (il s) = 3 := by
  have hm := placeOf_mem h
  have : ∀ x, x ∈ keyw → headc (x.map fun b => ((b.toNat : Nat) : Int)) = 3 := by decide +kernel
  exact this _ hm

set_option maxHeartbeats 4000000 in
theorem law_wordsIs (s : ByteArray) (w : World) (_ : s.size ≤ maxLen) (hk : Knob w) : Calls Tryd.prog 10 #[.string s] w (Yes w) := by
  have KA := Lib.hid fun W (h : Ext w W) => law02_awake W (hk.ext h)
  by_cases h100 : 100 < s.size
  · have hd : decide ((100 : Int) < (s.size : Int)) = true := by simp; omega
    go_enter Tryd.func10, Tryd.ntmps10
    go_wp2_with (go_at_call 13; refine (KA.out _ (Ext.refl _)).mono ?_; rintro e w2 ⟨rfl, x2⟩)
    go_ret
    exact ⟨rfl, x2⟩
  have hd : decide ((100 : Int) < (s.size : Int)) = false := by simp; omega
  have K1 := Lib.hid fun W => words_number s W
  have K2 := Lib.hid fun W => ref_number s W (by omega)
  have K3 := Lib.hid fun W (h : Ext w W) => words_keyword s W (hk.ext h)
  have K4 := Lib.hid fun W => ref_keyword s W
  have K5 := Lib.hid fun W a (h : Ext w W) hr => words_name [s] W a 1 1 (by omega) (by omega) (hk.ext h) hr
  have K6 := Lib.hid fun W => ref_name s W
  have K7 := Lib.hid fun W a (h : Ext w W) hr => words_exn [s] W a 1 1 (by omega) (by omega) (hk.ext h) hr
  have K8 := Lib.hid fun W => ref_exn s W
  rw [show [s].all isName = isName s from by simp] at K5
  rw [show [s].all isExn = isExn s from by simp] at K7
  generalize isName s = bn at *
  generalize isExn s = be at *
  generalize kwd s = kw at *
  unfold RetN at K1 K2
  generalize numV s = nv at *
  generalize numB s = nb at *
  clear h100
  have hkw : (((kw : Nat) : Int) == ((kw : Nat) : Int)) = true := by simp
  have y0 : Ext w w := Ext.refl _
  go_enter Tryd.func10, Tryd.ntmps10
  go_wp2_with (first
    | (go_at_call 33; refine (K1.out _).mono ?_; rintro e w1 ⟨rfl, x1⟩; have y1 := Ext.trans (by assumption : Ext w _) x1)
    | (go_at_call 34; refine (K2.out _).mono ?_; rintro e w1 ⟨rfl, x1⟩; have y1 := Ext.trans (by assumption : Ext w _) x1)
    | (go_at_call 18; refine (K3.out _ (by assumption)).mono ?_; rintro e w1 ⟨rfl, x1⟩; have y1 := Ext.trans (by assumption : Ext w _) x1)
    | (go_at_call 35; refine (K4.out _).mono ?_; rintro e w1 ⟨rfl, x1⟩; have y1 := Ext.trans (by assumption : Ext w _) x1)
    | (go_at_call 16; refine (K5.out _ _ (Ext.alloc (by assumption) _) (row_one _ _ _)).mono ?_; rintro e w1 ⟨rfl, x1⟩; have y1 := Ext.trans (Ext.alloc (by assumption : Ext w _) _) x1)
    | (go_at_call 14; refine (K6.out _).mono ?_; rintro e w1 ⟨rfl, x1⟩; have y1 := Ext.trans (by assumption : Ext w _) x1)
    | (go_at_call 17; refine (K7.out _ _ (Ext.alloc (by assumption) _) (row_one _ _ _)).mono ?_; rintro e w1 ⟨rfl, x1⟩; have y1 := Ext.trans (Ext.alloc (by assumption : Ext w _) _) x1)
    | (go_at_call 15; refine (K8.out _).mono ?_; rintro e w1 ⟨rfl, x1⟩; have y1 := Ext.trans (by assumption : Ext w _) x1)
    | (go_at_call 13; refine (KA.out _ (by assumption)).mono ?_; rintro e w1 ⟨rfl, x1⟩; have y1 := Ext.trans (by assumption : Ext w _) x1))
  go_ret
  exact ⟨rfl, by assumption⟩

set_option maxHeartbeats 4000000 in
theorem law_wordsApart (s : ByteArray) (w : World) (_ : s.size ≤ maxLen) (hk : Knob w) : Calls Tryd.prog 11 #[.string s] w (Yes w) := by
  have KA := Lib.hid fun W (h : Ext w W) => law02_awake W (hk.ext h)
  by_cases h100 : 100 < s.size
  · have hd : decide ((100 : Int) < (s.size : Int)) = true := by simp; omega
    go_enter Tryd.func11, Tryd.ntmps11
    go_wp2_with (go_at_call 13; refine (KA.out _ (Ext.refl _)).mono ?_; rintro e w2 ⟨rfl, x2⟩)
    go_ret
    exact ⟨rfl, x2⟩
  have hd : decide ((100 : Int) < (s.size : Int)) = false := by simp; omega
  have K1 := Lib.hid fun W => words_number s W
  have K3 := Lib.hid fun W (h : Ext w W) => words_keyword s W (hk.ext h)
  have K5 := Lib.hid fun W a (h : Ext w W) hr => words_name [s] W a 1 1 (by omega) (by omega) (hk.ext h) hr
  have K7 := Lib.hid fun W a (h : Ext w W) hr => words_exn [s] W a 1 1 (by omega) (by omega) (hk.ext h) hr
  rw [show [s].all isName = isName s from by simp] at K5
  rw [show [s].all isExn = isExn s from by simp] at K7
  have cases : (decide ((0 : Int) < (kwd s : Nat)) = true ∧ isName s = false ∧ isExn s = false ∧ numB s = false) ∨ (decide ((0 : Int) < (kwd s : Nat)) = false ∧ isName s = true ∧ isExn s = false ∧ numB s = false) ∨ (decide ((0 : Int) < (kwd s : Nat)) = false ∧ isName s = false ∧ isExn s = true ∧ numB s = false)
      ∨ (decide ((0 : Int) < (kwd s : Nat)) = false ∧ isName s = false ∧ isExn s = false ∧ numB s = true) ∨ (decide ((0 : Int) < (kwd s : Nat)) = false ∧ isName s = false ∧ isExn s = false ∧ numB s = false) := by
    have a1 : isName s = true → kwd s = 0 := fun h => by
      unfold isName at h
      rw [Bool.and_eq_true, beq_iff_eq] at h
      exact h.2
    have a2 : isName s = true → isExn s = false := fun h => by
      have h3 := headc_name h
      rw [Bool.eq_false_iff]
      intro he
      have := headc_shape (show shapely (il s) 4 = true from he)
      omega
    have a3 : isName s = true → numB s = false := fun h => by
      have h3 := headc_name h
      rw [Bool.eq_false_iff]
      intro he
      have := headc_num he
      omega
    have a4 : isExn s = true → kwd s = 0 := fun h => by
      have h3 := headc_shape (show shapely (il s) 4 = true from h)
      refine Classical.byContradiction fun he => ?_
      have := headc_kw he
      omega
    have a5 : isExn s = true → numB s = false := fun h => by
      have h3 := headc_shape (show shapely (il s) 4 = true from h)
      rw [Bool.eq_false_iff]
      intro he
      have := headc_num he
      omega
    have a6 : numB s = true → kwd s = 0 := fun h => by
      have h3 := headc_num h
      refine Classical.byContradiction fun he => ?_
      have := headc_kw he
      omega
    by_cases hk0 : kwd s = 0
    · have d : decide ((0 : Int) < (kwd s : Nat)) = false := by rw [hk0]; rfl
      rw [d]
      cases hn : isName s <;> cases he : isExn s <;> cases hb : numB s <;> simp_all
    · have d : decide ((0 : Int) < (kwd s : Nat)) = true := by simp; omega
      rw [d]
      cases hn : isName s <;> cases he : isExn s <;> cases hb : numB s <;> simp_all
  generalize isName s = bn at *
  generalize isExn s = be at *
  generalize kwd s = kw at *
  unfold RetN at K1
  generalize numV s = nv at *
  generalize numB s = nb at *
  clear h100
  have y0 : Ext w w := Ext.refl _
  rcases cases with ⟨A, rfl, rfl, rfl⟩ | ⟨A, rfl, rfl, rfl⟩ | ⟨A, rfl, rfl, rfl⟩ | ⟨A, rfl, rfl, rfl⟩ | ⟨A, rfl, rfl, rfl⟩
  all_goals
    first | have A' : 0 < kw := (by simpa using A) | have A' : kw = 0 := (by simpa using A)
    try subst A'
    go_enter Tryd.func11, Tryd.ntmps11
    go_wp2_with (first
      | (go_at_call 33; refine (K1.out _).mono ?_; rintro e w1 ⟨rfl, x1⟩; have y1 := Ext.trans (by assumption : Ext w _) x1)
      | (go_at_call 18; refine (K3.out _ (by assumption)).mono ?_; rintro e w1 ⟨rfl, x1⟩; have y1 := Ext.trans (by assumption : Ext w _) x1)
      | (go_at_call 16; refine (K5.out _ _ (Ext.alloc (by assumption) _) (row_one _ _ _)).mono ?_; rintro e w1 ⟨rfl, x1⟩; have y1 := Ext.trans (Ext.alloc (by assumption : Ext w _) _) x1)
      | (go_at_call 17; refine (K7.out _ _ (Ext.alloc (by assumption) _) (row_one _ _ _)).mono ?_; rintro e w1 ⟨rfl, x1⟩; have y1 := Ext.trans (Ext.alloc (by assumption : Ext w _) _) x1)
      | (go_at_call 13; refine (KA.out _ (by assumption)).mono ?_; rintro e w1 ⟨rfl, x1⟩; have y1 := Ext.trans (by assumption : Ext w _) x1))
    go_ret
    exact ⟨rfl, by assumption⟩

/-- What a number's text tells. -/
theorem num_itoa (n : Int) : numB (bs (Lib.itoa n)) = (decide (0 ≤ n) && decide (n ≤ 2147483647)) ∧ numV (bs (Lib.itoa n)) = if 0 ≤ n ∧ n ≤ 2147483647 then n else 0 := by
  unfold numB numV
  rw [bs_list]
  by_cases hn : 0 ≤ n
  · obtain ⟨k, rfl⟩ := Int.eq_ofNat_of_zero_le hn
    rw [Lib.itoa_nonneg, okN_digits, (decDigits_back k).2]
    have e : decide (k ≤ 2147483647) = decide ((k : Int) ≤ 2147483647) := decide_eq_decide.2 (by omega)
    rw [e]
    refine ⟨by simp, ?_⟩
    by_cases h : (k : Int) ≤ 2147483647
    · simp [h]
    · simp [h]
  · have hi : Lib.itoa n = 45 :: Lib.decDigits n.natAbs := by unfold Lib.itoa; rw [if_pos (by omega)]
    rw [hi, okN_minus]
    have : decide (0 ≤ n) = false := by simpa using hn
    rw [this]
    refine ⟨rfl, ?_⟩
    rw [if_neg (by simp), if_neg (fun h => hn h.1)]

set_option maxHeartbeats 4000000 in
theorem law_wordsBack (n : Int) (w : World) (h0 : -9223372036854775808 ≤ n) (h1 : n ≤ 9223372036854775807) (hk : Knob w) (ht : Tab w) : Calls Tryd.prog 12 #[.int .i64 n] w (Yes w) := by
  have KA := Lib.hid fun W (h : Ext w W) => law02_awake W (hk.ext h)
  have K1 := Lib.hid (words_digits n w h0 h1 ht)
  have K2 := Lib.hid fun W => ref_digits n W h0 h1
  have K3 := Lib.hid fun W => words_number (bs (Lib.itoa n)) W
  obtain ⟨hB, hV⟩ := num_itoa n
  unfold RetN at K3
  rw [hB, hV] at K3
  clear hB hV
  generalize bs (Lib.itoa n) = D at *
  have cases : (decide (0 ≤ n) = false ∧ (if 0 ≤ n ∧ n ≤ 2147483647 then n else 0) = 0) ∨ (decide (0 ≤ n) = true ∧ decide (n ≤ 2147483647) = true ∧ (if 0 ≤ n ∧ n ≤ 2147483647 then n else 0) = n) ∨ (decide (0 ≤ n) = true ∧ decide (n ≤ 2147483647) = false ∧ (if 0 ≤ n ∧ n ≤ 2147483647 then n else 0) = 0) := by
    by_cases a : 0 ≤ n
    · by_cases b : n ≤ 2147483647
      · exact .inr (.inl ⟨by simpa using a, by simpa using b, if_pos ⟨a, b⟩⟩)
      · exact .inr (.inr ⟨by simpa using a, by simpa using b, if_neg (fun h => b h.2)⟩)
    · exact .inl ⟨by simpa using a, if_neg (fun h => a h.1)⟩
  clear h0 h1
  have y0 : Ext w w := Ext.refl _
  rcases cases with ⟨A, V⟩ | ⟨A, B, V⟩ | ⟨A, B, V⟩
  all_goals
    rw [V, A] at K3
    try rw [B] at K3
    clear V
    go_enter Tryd.func12, Tryd.ntmps12
    go_wp2_with (first
      | (go_at_call 36; refine (K1.out).mono ?_; rintro e w1 ⟨rfl, x1⟩; have y1 := Ext.trans (by assumption : Ext w _) x1)
      | (go_at_call 33; refine (K3.out _).mono ?_; rintro e w1 ⟨rfl, x1⟩; have y1 := Ext.trans (by assumption : Ext w _) x1)
      | (go_at_call 37; refine (K2.out _).mono ?_; rintro e w1 ⟨rfl, x1⟩; have y1 := Ext.trans (by assumption : Ext w _) x1)
      | (go_at_call 13; refine (KA.out _ (by assumption)).mono ?_; rintro e w1 ⟨rfl, x1⟩; have y1 := Ext.trans (by assumption : Ext w _) x1))
    go_ret
    exact ⟨rfl, by assumption⟩
end Go.Proofs.YtljpbikcpjocmaaDoor

/- The walk of the law of joined tokens. -/
import Derived.Test.YtmomahgedheekaaDoorLaw03d
import Derived.Test.YtmomahgedheekaaDoorToken6
import Derived.Laws.IdiomStrings
namespace Go.Proofs.YtmomahgedheekaaDoor
open Go Go.RowKit Go.Sort

theorem conv_to (W : World) (s : ByteArray) (hs : s.size ≤ 1000000) : ∃ c W', (convert 9 67 (.string s)).run Tryd.prog W = .ok (.slice (some ⟨W.heap.size, 0, none⟩) s.size c) W' ∧ s.size ≤ c ∧ c ≤ 9223372036854775807 ∧ IsBytes W' s.data.toList (some ⟨W.heap.size, 0, none⟩) s.size ∧ Ext W W' := by
  refine ⟨_, _, run_bytes_of_string W 9 67 5 s Tryd.underlying9 Tryd.underlying67 Tryd.underlying5, grownCap_ge _ _ _ _, ?_, ?_, (Ext.drew (Ext.refl _)).alloc _⟩
  · have := grownCap_le_maxLen W s.size 0 5 (by unfold maxLen; omega)
    unfold maxLen at this
    exact this
  · refine ⟨by rw [vby_il_length, bs_size, Array.length_toList]; rfl, fun i v hi => ⟨W.heap.size, 0, rfl, ?_⟩⟩
    rw [Nat.zero_add]
    have e : W.heap.size = W.drew.heap.size := rfl
    rw [e, World.cell?_alloc_mark]
    unfold vby at hi
    rw [il_bs, List.map_map, List.getElem?_map, Option.map_eq_some_iff] at hi
    obtain ⟨c, hc, rfl⟩ := hi
    rw [List.getElem?_eq_some_iff] at hc
    obtain ⟨hj, hc⟩ := hc
    have := bytesRow_at s (grownCap W s.size 0 5) i (by simpa using hj)
    rw [this]
    simp at hc
    simp [hc]
theorem joinTk_le (l : List Tk) (h : ∀ t, t ∈ l → t.text.size ≤ 100) : (joinTk l).length ≤ 101 * l.length := by
  unfold joinTk
  cases l with
  | nil => simp [Lib.join_nil]
  | cons t l =>
    rw [List.map_cons, Lib.join_cons]
    have ht := h t (by simp)
    have : ∀ l : List Tk, (∀ t, t ∈ l → t.text.size ≤ 100) → (Lib.joinTail [32] (l.map fun t => t.text.data.toList)).length ≤ 101 * l.length := by
      intro l
      induction l with
      | nil => intro _; simp [Lib.joinTail]
      | cons a l ih =>
        intro h
        have ha := h a (by simp)
        have hl := ih (fun t ht => h t (by simp [ht]))
        unfold Lib.joinTail at hl ⊢
        simp only [List.map_cons, List.flatten_cons, List.length_append, List.length_cons, List.length_nil] at hl ⊢
        have : a.text.data.toList.length = a.text.size := by rw [Array.length_toList]; rfl
        omega
    have hl := this l (fun t ht => h t (by simp [ht]))
    have e : t.text.data.toList.length = t.text.size := by rw [Array.length_toList]; rfl
    simp only [List.length_append, List.length_cons] at hl ⊢
    omega
theorem joinTk_T (o : List Tok) : joinTk (o.map Tok.tk) = joinT o := by
  unfold joinTk
  rw [List.map_map]
  induction o with
  | nil => rfl
  | cons t o ih =>
    by_cases ho : o = []
    · subst ho
      rw [List.map_cons, List.map_nil, Lib.join_one]
      rfl
    · rw [joinT_cons t ho, ← ih]
      cases o with
      | nil => exact absurd rfl ho
      | cons u o =>
        simp only [List.map_cons]
        rw [Lib.join_cons, Lib.join_cons]
        simp [Lib.joinTail, Tok.tk]
theorem lexL_len {p : Nat} {l : List UInt8} {o : List Tok} (h : lexL p l = .ok o) : o.length ≤ l.length + 1 ∧ (joinT o).length ≤ 2 * l.length := by
  have := lex_ind (P := fun p l => ∀ o, lexL p l = .ok o → o.length ≤ l.length + 1 ∧ (joinT o).length ≤ 2 * l.length) ?_ ?_ ?_ ?_ l.length p l (Nat.le_refl _)
  · exact this o h
  · intro p o h; cases h; simp [joinT]
  · intro p c r hc ih o h
    rw [lexL_blank hc] at h
    have := ih o h
    rw [List.length_cons]
    omega
  · intro p c r hc ht o h; rw [lexL_none hc _ ht] at h; cases h
  · intro p c r n k hc ht ih o h
    rw [lexL_tok hc _ ht] at h
    have hbd := tokAt_bd ht
    cases hr : lexL (p + n) ((c :: r).drop n) with
    | error e => rw [hr] at h; cases h
    | ok o2 =>
      have hne := lexL_ne hr
      rw [hr] at h
      cases h
      obtain ⟨h3, h4⟩ := ih o2 hr
      rw [joinT_cons _ hne]
      rw [List.length_drop] at h3 h4
      simp only [List.length_cons, List.length_append, bs_list, List.length_take] at h3 h4 hbd ⊢
      omega
theorem tk_fits {l : List Tk} {j : Nat} {t : Tk} (h : ∀ t, t ∈ l.take j → t.text.size ≤ 100) (g : l[j]? = some t) (ht : t.text.size ≤ 100) : ∀ t, t ∈ l.take (j + 1) → t.text.size ≤ 100 := by
  intro u hu
  rw [List.take_add_one, g] at hu
  rcases List.mem_append.1 hu with hu | hu
  · exact h u hu
  · simp at hu; subst hu; exact ht
theorem joinN_all (l : List Tk) : joinN l l.length = bs (joinTk l) := by unfold joinN; rw [List.take_length]
theorem joinN_le {l : List Tk} (h : ∀ t, t ∈ l → t.text.size ≤ 100) (hl : l.length ≤ 100) (i : Nat) : (joinN l i).size ≤ 1000000 := by
  unfold joinN
  rw [bs_size]
  have := joinTk_le (l.take i) (fun t ht => h t (List.mem_of_mem_take ht))
  rw [List.length_take] at this
  omega
theorem alike_at {o o' : List Tok} (h : alike o o') {q : Nat} {t t' : Tok} (g : o[q]? = some t) (g' : o'[q]? = some t') : t'.k = t.k ∧ t'.text = t.text := by
  have := congrArg (fun x => x[q]?) h
  simp only [List.getElem?_map, g, g', Option.map_some, Option.some.injEq, Prod.mk.injEq] at this
  exact ⟨this.1.symm, this.2.symm⟩
theorem alike_len {o o' : List Tok} (h : alike o o') : o'.length = o.length := by have := congrArg List.length h; simpa using this.symm
set_option maxRecDepth 8000 in
set_option maxHeartbeats 4000000 in
theorem law_tokenJoins (B : List UInt8) (l : List Tk) (w : World) (a : Option Addr) (len cap : Nat) (b : Option Addr) (lb cb : Nat) (h1 : len ≤ cap) (h2 : cap ≤ 9223372036854775807) (hr : IsBytes w B a len) (g1 : lb ≤ cb) (g2 : cb ≤ 9223372036854775807) (ht : IsToks w l b lb) (hk : Knob w) :
    Calls Tryd.prog 13 #[.slice a len cap, .slice b lb cb] w (Yes3 w) := by
  have hlen := hr.length
  have KA := Lib.hid fun W (h : Ext w W) => law03_awake W (hk.ext h)
  have HR := Lib.hid hr
  have HLEN := Lib.hid hlen
  have HT := Lib.hid ht
  have HLB := Lib.hid ht.length
  have KL := Lib.hid fun W B' a' n' c' (h : Ext w W) (hn : n' ≤ c') (hc : c' ≤ 9223372036854775807) (hb : IsBytes W B' a' n') => token_lex B' W a' n' c' hn hc hb (hk.ext h)
  clear hr hk hlen ht
  by_cases hbig : 1000 < len
  · have hz : (1000 : Int) < (len : Int) := by omega
    go_enter Tryd.func13, Tryd.ntmps13
    go_wp2_with (go_at_call 41; refine (KA.out _ (by (repeat (first | exact Ext.refl _ | assumption | refine Ext.alloc ?_ _ | refine Ext.drew ?_ | refine Ext.setCell ?_ (by first | (simp; done) | (simp; omega) | omega) _ | refine Ext.trans ?_ (by assumption))))).mono ?_; rintro e w7 ⟨rfl, x7⟩)
    go_ret
    exact ⟨rfl, by (repeat (first | exact Ext.refl _ | assumption | refine Ext.alloc ?_ _ | refine Ext.drew ?_ | refine Ext.setCell ?_ (by first | (simp; done) | (simp; omega) | omega) _ | refine Ext.trans ?_ (by assumption)))⟩
  have hz : (len : Int) ≤ 1000 := by omega
  by_cases hbig2 : 100 < lb
  · have hz2 : (100 : Int) < (lb : Int) := by omega
    go_enter Tryd.func13, Tryd.ntmps13
    go_wp2_with (go_at_call 41; refine (KA.out _ (by (repeat (first | exact Ext.refl _ | assumption | refine Ext.alloc ?_ _ | refine Ext.drew ?_ | refine Ext.setCell ?_ (by first | (simp; done) | (simp; omega) | omega) _ | refine Ext.trans ?_ (by assumption))))).mono ?_; rintro e w7 ⟨rfl, x7⟩)
    go_ret
    exact ⟨rfl, by (repeat (first | exact Ext.refl _ | assumption | refine Ext.alloc ?_ _ | refine Ext.drew ?_ | refine Ext.setCell ?_ (by first | (simp; done) | (simp; omega) | omega) _ | refine Ext.trans ?_ (by assumption)))⟩
  have hz2 : (lb : Int) ≤ 100 := by omega
  go_enter Tryd.func13, Tryd.ntmps13
  go_wp2_with fail
  go_loopg [5] lb (fun g i wr => ∃ j : Nat, g = lb - j ∧ i = .int .i64 j ∧ j ≤ lb ∧ (∀ t, t ∈ l.take j → t.text.size ≤ 100) ∧ Ext w wr)
  case atStart => exact ⟨0, rfl, rfl, Nat.zero_le _, by simp, Ext.refl _⟩
  case round =>
    obtain ⟨j, rfl, rfl, hj, hfit, hx⟩ := hrel
    have HF := Lib.hid hfit
    clear hfit
    by_cases hlt : j < lb
    · have hz3 : (j : Int) < (lb : Int) := by omega
      obtain ⟨t, b1, o1, g, hf, rfl, q0, q1, q2⟩ := (HT.out.ext hx).at3 hlt
      by_cases h100 : 100 < t.text.size
      · have hz4 : (100 : Int) < (t.text.size : Int) := by omega
        clear g hf q0 q2
        go_wp2_with (go_at_call 41; refine (KA.out _ hx).mono ?_; rintro e w7 ⟨rfl, x7⟩)
        go_ret
        exact ⟨rfl, hx.trans x7⟩
      · have hz4 : (t.text.size : Int) ≤ 100 := by omega
        have HF2 := Lib.hid (tk_fits HF.out g (by omega))
        clear g hf q0 q2
        go_wp2_with fail
        go_roundg (lb - (j + 1))
        case rel => exact ⟨j + 1, rfl, by go_num, by omega, HF2.out, hx⟩
        case measure => omega
    · obtain rfl : j = lb := by omega
      have hall : ∀ t, t ∈ l → t.text.size ≤ 100 := by
        have h := HF.out
        rwa [List.take_of_length_le (by have := HLB.out; omega)] at h
      have hjl : (joinTk l).length ≤ 10100 := by
        have := joinTk_le l hall
        have := HLB.out
        omega
      have KJ := Lib.hid (token_join l wr b j cb g1 g2 (HT.out.ext hx) (by omega) (by omega))
      have KR := Lib.hid fun W (h : Ext wr W) => ref03_join l W b j cb g1 g2 (HT.out.ext (hx.trans h)) (fun i _ => joinN_le hall (by have := HLB.out; omega) i)
      rw [joinN_all] at KR
      clear hall hjl HF
      generalize bs (joinTk l) = js at *
      rcases lexR_of B (by have := HLEN.out; omega) with ⟨p, hl, hR⟩ | ⟨o, hl, hR⟩
      · have K1 := fun W (h : Ext wr W) => KL.out W B a len cap (hx.trans h) h1 h2 (HR.out.ext (hx.trans h))
        unfold RetLex at K1
        rw [hR] at K1
        have HK1 := Lib.hid K1
        clear K1 hR hl
        go_wp2_with (first | (go_at_call 45; (with_reducible refine (KJ.out).mono ?_); rintro e w1 ⟨rfl, x1⟩) | (go_at_call 46; refine (KR.out _ x1).mono ?_; rintro e w2 ⟨rfl, x2⟩) | (go_at_call 42; (with_reducible refine (HK1.out _ (x1.trans x2)).mono ?_); rintro e w3 ⟨ra, rn, rc, rfl, hn1, hn2, ht, x3⟩; clear ht) | (go_at_call 41; refine (KA.out _ (((hx.trans x1).trans x2).trans x3)).mono ?_; rintro e w7 ⟨rfl, x7⟩))
        go_ret
        exact ⟨rfl, (((hx.trans x1).trans x2).trans x3).trans x7⟩
      · have K1 := fun W (h : Ext wr W) => KL.out W B a len cap (hx.trans h) h1 h2 (HR.out.ext (hx.trans h))
        unfold RetLex at K1
        rw [hR] at K1
        have HK1 := Lib.hid K1
        have HOL := Lib.hid (lexL_len hl)
        obtain ⟨o', hl', hal⟩ := lexL_join hl 0
        have HAL := Lib.hid hal
        have HL2 := Lib.hid hl'
        clear K1 hR hl hal hl'
        go_wp2_with (first | (go_at_call 45; (with_reducible refine (KJ.out).mono ?_); rintro e w1 ⟨rfl, x1⟩) | (go_at_call 46; refine (KR.out _ x1).mono ?_; rintro e w2 ⟨rfl, x2⟩) | (go_at_call 42; (with_reducible refine (HK1.out _ (x1.trans x2)).mono ?_); rintro e w3 ⟨ra, rn, rc, rfl, hn1, hn2, ht, x3⟩; have hrn := ht.length; rw [List.length_map] at hrn; subst hrn; have HT1 := Lib.hid ht; clear ht))
        obtain ⟨hoL, hjL⟩ := HOL.out
        have hBl := HLEN.out
        have y3 := ((hx.trans x1).trans x2).trans x3
        refine (token_join (o.map Tok.tk) w3 ra _ rc hn1 hn2 HT1.out (by omega) (by rw [joinTk_T]; omega)).mono ?_
        rintro e w4 ⟨rfl, x4⟩
        rw [joinTk_T]
        obtain ⟨c5, w5, hcv, hc1, hc2, hb5, x5⟩ := conv_to w4 (bs (joinT o)) (by rw [bs_size]; omega)
        rw [bs_list] at hb5
        have y5 := (y3.trans x4).trans x5
        have K5 := KL.out w5 (joinT o) _ _ c5 y5 hc1 hc2 hb5
        unfold RetLex at K5
        rw [lexR_ok (by omega) HL2.out] at K5
        have HK5 := Lib.hid K5
        have HT1' : Hid (∀ W, Ext w5 W → IsToks W (o.map Tok.tk) ra o.length) := Lib.hid fun W h => HT1.out.ext ((x4.trans x5).trans h)
        clear K5 hb5 hjL hBl
        generalize bs (joinT o) = js2 at *
        go_wp2_with (go_at_call 42; (with_reducible refine (HK5.out).mono ?_); rintro e w6 ⟨rb, rm, rd, rfl, hm1, hm2, ht, x6⟩; have hrn := ht.length; rw [List.length_map, alike_len HAL.out] at hrn; subst hrn; have HT2 := Lib.hid ht; clear ht)
        have y6 := y5.trans x6
        go_loopg [12] (o.length) (fun g i wq => ∃ q : Nat, g = o.length - q ∧ i = .int .i64 q ∧ q ≤ o.length ∧ Ext w6 wq)
        case atStart => exact ⟨0, rfl, rfl, Nat.zero_le _, Ext.refl _⟩
        case round =>
          obtain ⟨q, rfl, rfl, hq, hxq⟩ := hrel
          by_cases hlt : q < o.length
          · have hz5 : (q : Int) < (o.length : Int) := by omega
            obtain ⟨t1', b1, o1, g1, hf1, rfl, p0, p1, p2⟩ := (HT1'.out _ (x6.trans hxq)).at3 hlt
            obtain ⟨t2', b2, o2, g2, hf2, rfl, r0, r1, r2⟩ := (HT2.out.ext hxq).at3 hlt
            obtain ⟨t, ht⟩ : ∃ t, o[q]? = some t := ⟨o[q], List.getElem?_eq_getElem hlt⟩
            obtain ⟨t', ht'⟩ : ∃ t', o'[q]? = some t' := ⟨o'[q]'(by rw [alike_len HAL.out]; exact hlt), List.getElem?_eq_getElem _⟩
            obtain ⟨ek, et⟩ := alike_at HAL.out ht ht'
            rw [List.getElem?_map, ht] at g1
            cases g1
            rw [List.getElem?_map, ht'] at g2
            cases g2
            clear ht ht' hf1 hf2
            obtain ⟨tk, tt, tp⟩ := t
            obtain ⟨tk', tt', tp'⟩ := t'
            simp only at ek et
            subst ek et
            simp only [Tok.tk] at p0 p1 p2 r0 r1 r2
            go_upto_region 19 with fail
            have n0 := fun W (h : Ext wr W) => h.cell p0
            have n1 := fun W (h : Ext wr W) => h.cell p1
            have m0 := fun W (h : Ext wr W) => h.cell r0
            have m1 := fun W (h : Ext wr W) => h.cell r1
            clear p0 p1 p2 r0 r1 r2
            refine wp_region_held_drew (S := fun w' => Ext wr w') (by kernel_rfl) (by (try dsimp only); (repeat (first | exact Ext.refl _ | assumption | refine Ext.alloc ?_ _ | refine Ext.drew ?_ | refine Ext.setCell ?_ (by first | (simp; done) | (simp; omega) | omega) _ | refine Ext.trans ?_ (by assumption)))) (fun hHeld => ?_)
            refine held_take 0 (v := ?_) rfl (by kernel_rfl) (by kernel_rfl) (by kernel_rfl) (fun _ _ _ h => h) (by assumption) (by rfl) ?_ ?_; rotate_left; (focus (intro w hSw; (try dsimp only at hSw); go_simp; (try with_reducible rfl))); try simp only [Act.put, List.setIfInBounds_toArray, List.set_cons_zero, List.set_cons_succ]
            refine held_take 1 (v := ?_) rfl (by kernel_rfl) (by kernel_rfl) (by kernel_rfl) (fun _ _ _ h => h) (by assumption) (by rfl) ?_ ?_; rotate_left; (focus (intro w hSw; (try dsimp only at hSw); go_simp; (try with_reducible rfl))); try simp only [Act.put, List.setIfInBounds_toArray, List.set_cons_zero, List.set_cons_succ]
            refine held_take 2 (v := ?_) rfl (by kernel_rfl) (by kernel_rfl) (by kernel_rfl) (fun _ _ _ h => h) (by assumption) (by rfl) ?_ ?_; rotate_left; (focus (intro w hSw; (try dsimp only at hSw); go_simp; (try with_reducible rfl))); try simp only [Act.put, List.setIfInBounds_toArray, List.set_cons_zero, List.set_cons_succ]
            refine held_take 3 (v := ?_) rfl (by kernel_rfl) (by kernel_rfl) (by kernel_rfl) (fun _ _ _ h => h) (by assumption) (by rfl) ?_ ?_; rotate_left; (focus (intro w hSw; (try dsimp only at hSw); go_simp; (try with_reducible rfl))); try simp only [Act.put, List.setIfInBounds_toArray, List.set_cons_zero, List.set_cons_succ]
            refine held_take 4 (v := ?_) rfl (by kernel_rfl) (by kernel_rfl) (by kernel_rfl) (fun _ _ _ h => h) (by assumption) (by rfl) ?_ ?_; rotate_left; (focus (intro w hSw; (try dsimp only at hSw); go_simp; (try with_reducible rfl))); try simp only [Act.put, List.setIfInBounds_toArray, List.set_cons_zero, List.set_cons_succ]
            refine held_take 5 (v := ?_) rfl (by kernel_rfl) (by kernel_rfl) (by kernel_rfl) (fun _ _ _ h => h) (by assumption) (by rfl) ?_ ?_; rotate_left; (focus (intro w hSw; (try dsimp only at hSw); go_simp; (try with_reducible rfl))); try simp only [Act.put, List.setIfInBounds_toArray, List.set_cons_zero, List.set_cons_succ]
            refine held_take 6 (v := ?_) rfl (by kernel_rfl) (by kernel_rfl) (by kernel_rfl) (fun _ _ _ h => h) (by assumption) (by rfl) ?_ ?_; rotate_left; (focus (intro w hSw; (try dsimp only at hSw); go_simp; (try with_reducible rfl))); try simp only [Act.put, List.setIfInBounds_toArray, List.set_cons_zero, List.set_cons_succ]
            refine held_take 7 (v := ?_) rfl (by kernel_rfl) (by kernel_rfl) (by kernel_rfl) (fun _ _ _ h => h) (by assumption) (by rfl) ?_ ?_; rotate_left; (focus (intro w hSw; (try dsimp only at hSw); go_simp; (try with_reducible rfl))); try simp only [Act.put, List.setIfInBounds_toArray, List.set_cons_zero, List.set_cons_succ]
            refine held_take 8 (v := ?_) rfl (by kernel_rfl) (by kernel_rfl) (by kernel_rfl) (fun _ _ _ h => h) (by assumption) (by rfl) ?_ ?_; rotate_left; (focus (intro w hSw; (try dsimp only at hSw); go_simp; (try with_reducible rfl))); try simp only [Act.put, List.setIfInBounds_toArray, List.set_cons_zero, List.set_cons_succ]
            refine held_take 9 (v := ?_) rfl (by kernel_rfl) (by kernel_rfl) (by kernel_rfl) (fun _ _ _ h => h) (by assumption) (by rfl) ?_ ?_; rotate_left; (focus (intro w hSw; (try dsimp only at hSw); go_simp; (try with_reducible rfl))); try simp only [Act.put, List.setIfInBounds_toArray, List.set_cons_zero, List.set_cons_succ]
            refine held_take 10 (v := ?_) rfl (by kernel_rfl) (by kernel_rfl) (by kernel_rfl) (fun _ _ _ h => h) (by assumption) (by rfl) ?_ ?_; rotate_left; (focus (intro w hSw; (try dsimp only at hSw); go_simp; (try with_reducible rfl))); try simp only [Act.put, List.setIfInBounds_toArray, List.set_cons_zero, List.set_cons_succ]
            refine held_take 11 (v := ?_) rfl (by kernel_rfl) (by kernel_rfl) (by kernel_rfl) (fun _ _ _ h => h) (by assumption) (by rfl) ?_ ?_; rotate_left; (focus (intro w hSw; (try dsimp only at hSw); go_simp; (try with_reducible rfl))); try simp only [Act.put, List.setIfInBounds_toArray, List.set_cons_zero, List.set_cons_succ]
            first | (refine held_take 12 (v := ?_) rfl (by kernel_rfl) (by kernel_rfl) (by kernel_rfl) (fun _ _ _ h => h) (by assumption) (by rfl) ?_ ?_; rotate_left; (focus (intro w hSw; (try dsimp only at hSw); go_simp; (try with_reducible rfl))); try simp only [Act.put, List.setIfInBounds_toArray, List.set_cons_zero, List.set_cons_succ]) | (refine held_skip 12 rfl (by kernel_rfl) (by kernel_rfl) (by kernel_rfl) (fun _ _ _ h => h) (by assumption) (by rfl) ?_; try simp only [Act.put, List.setIfInBounds_toArray, List.set_cons_zero, List.set_cons_succ])
            first | (refine held_take 13 (v := ?_) rfl (by kernel_rfl) (by kernel_rfl) (by kernel_rfl) (fun _ _ _ h => h) (by assumption) (by rfl) ?_ ?_; rotate_left; (focus (intro w hSw; (try dsimp only at hSw); go_simp; (try with_reducible rfl))); try simp only [Act.put, List.setIfInBounds_toArray, List.set_cons_zero, List.set_cons_succ]) | (refine held_skip 13 rfl (by kernel_rfl) (by kernel_rfl) (by kernel_rfl) (fun _ _ _ h => h) (by assumption) (by rfl) ?_; try simp only [Act.put, List.setIfInBounds_toArray, List.set_cons_zero, List.set_cons_succ])
            first | (refine held_take 14 (v := ?_) rfl (by kernel_rfl) (by kernel_rfl) (by kernel_rfl) (fun _ _ _ h => h) (by assumption) (by rfl) ?_ ?_; rotate_left; (focus (intro w hSw; (try dsimp only at hSw); go_simp; (try with_reducible rfl))); try simp only [Act.put, List.setIfInBounds_toArray, List.set_cons_zero, List.set_cons_succ]) | (refine held_skip 14 rfl (by kernel_rfl) (by kernel_rfl) (by kernel_rfl) (fun _ _ _ h => h) (by assumption) (by rfl) ?_; try simp only [Act.put, List.setIfInBounds_toArray, List.set_cons_zero, List.set_cons_succ])
            first | (refine held_take 15 (v := ?_) rfl (by kernel_rfl) (by kernel_rfl) (by kernel_rfl) (fun _ _ _ h => h) (by assumption) (by rfl) ?_ ?_; rotate_left; (focus (intro w hSw; (try dsimp only at hSw); go_simp; (try with_reducible rfl))); try simp only [Act.put, List.setIfInBounds_toArray, List.set_cons_zero, List.set_cons_succ]) | (refine held_skip 15 rfl (by kernel_rfl) (by kernel_rfl) (by kernel_rfl) (fun _ _ _ h => h) (by assumption) (by rfl) ?_; try simp only [Act.put, List.setIfInBounds_toArray, List.set_cons_zero, List.set_cons_succ])
            first | (refine held_take 16 (v := ?_) rfl (by kernel_rfl) (by kernel_rfl) (by kernel_rfl) (fun _ _ _ h => h) (by assumption) (by rfl) ?_ ?_; rotate_left; (focus (intro w hSw; (try dsimp only at hSw); go_simp; (try with_reducible rfl))); try simp only [Act.put, List.setIfInBounds_toArray, List.set_cons_zero, List.set_cons_succ]) | (refine held_skip 16 rfl (by kernel_rfl) (by kernel_rfl) (by kernel_rfl) (fun _ _ _ h => h) (by assumption) (by rfl) ?_; try simp only [Act.put, List.setIfInBounds_toArray, List.set_cons_zero, List.set_cons_succ])
            first | (refine held_take 17 (v := ?_) rfl (by kernel_rfl) (by kernel_rfl) (by kernel_rfl) (fun _ _ _ h => h) (by assumption) (by rfl) ?_ ?_; rotate_left; (focus (intro w hSw; (try dsimp only at hSw); go_simp; (try with_reducible rfl))); try simp only [Act.put, List.setIfInBounds_toArray, List.set_cons_zero, List.set_cons_succ]) | (refine held_skip 17 rfl (by kernel_rfl) (by kernel_rfl) (by kernel_rfl) (fun _ _ _ h => h) (by assumption) (by rfl) ?_; try simp only [Act.put, List.setIfInBounds_toArray, List.set_cons_zero, List.set_cons_succ])
            first | (refine held_take 18 (v := ?_) rfl (by kernel_rfl) (by kernel_rfl) (by kernel_rfl) (fun _ _ _ h => h) (by assumption) (by rfl) ?_ ?_; rotate_left; (focus (intro w hSw; (try dsimp only at hSw); go_simp; (try with_reducible rfl))); try simp only [Act.put, List.setIfInBounds_toArray, List.set_cons_zero, List.set_cons_succ]) | (refine held_skip 18 rfl (by kernel_rfl) (by kernel_rfl) (by kernel_rfl) (fun _ _ _ h => h) (by assumption) (by rfl) ?_; try simp only [Act.put, List.setIfInBounds_toArray, List.set_cons_zero, List.set_cons_succ])
            first | (refine held_take 19 (v := ?_) rfl (by kernel_rfl) (by kernel_rfl) (by kernel_rfl) (fun _ _ _ h => h) (by assumption) (by rfl) ?_ ?_; rotate_left; (focus (intro w hSw; (try dsimp only at hSw); go_simp; (try with_reducible rfl))); try simp only [Act.put, List.setIfInBounds_toArray, List.set_cons_zero, List.set_cons_succ]) | (refine held_skip 19 rfl (by kernel_rfl) (by kernel_rfl) (by kernel_rfl) (fun _ _ _ h => h) (by assumption) (by rfl) ?_; try simp only [Act.put, List.setIfInBounds_toArray, List.set_cons_zero, List.set_cons_succ])
            first | (refine held_take 20 (v := ?_) rfl (by kernel_rfl) (by kernel_rfl) (by kernel_rfl) (fun _ _ _ h => h) (by assumption) (by rfl) ?_ ?_; rotate_left; (focus (intro w hSw; (try dsimp only at hSw); go_simp; (try with_reducible rfl))); try simp only [Act.put, List.setIfInBounds_toArray, List.set_cons_zero, List.set_cons_succ]) | (refine held_skip 20 rfl (by kernel_rfl) (by kernel_rfl) (by kernel_rfl) (fun _ _ _ h => h) (by assumption) (by rfl) ?_; try simp only [Act.put, List.setIfInBounds_toArray, List.set_cons_zero, List.set_cons_succ])
            first | (refine held_take 21 (v := ?_) rfl (by kernel_rfl) (by kernel_rfl) (by kernel_rfl) (fun _ _ _ h => h) (by assumption) (by rfl) ?_ ?_; rotate_left; (focus (intro w hSw; (try dsimp only at hSw); go_simp; (try with_reducible rfl))); try simp only [Act.put, List.setIfInBounds_toArray, List.set_cons_zero, List.set_cons_succ]) | (refine held_skip 21 rfl (by kernel_rfl) (by kernel_rfl) (by kernel_rfl) (fun _ _ _ h => h) (by assumption) (by rfl) ?_; try simp only [Act.put, List.setIfInBounds_toArray, List.set_cons_zero, List.set_cons_succ])
            first | (refine held_take 22 (v := ?_) rfl (by kernel_rfl) (by kernel_rfl) (by kernel_rfl) (fun _ _ _ h => h) (by assumption) (by rfl) ?_ ?_; rotate_left; (focus (intro w hSw; (try dsimp only at hSw); go_simp; (try with_reducible rfl))); try simp only [Act.put, List.setIfInBounds_toArray, List.set_cons_zero, List.set_cons_succ]) | (refine held_skip 22 rfl (by kernel_rfl) (by kernel_rfl) (by kernel_rfl) (fun _ _ _ h => h) (by assumption) (by rfl) ?_; try simp only [Act.put, List.setIfInBounds_toArray, List.set_cons_zero, List.set_cons_succ])
            refine held_take 23 (v := ?_) rfl (by kernel_rfl) (by kernel_rfl) (by kernel_rfl) (fun _ _ _ h => h) (by assumption) (by rfl) ?_ ?_; rotate_left; (focus (intro w hSw; (try dsimp only at hSw); go_simp; (try with_reducible rfl))); try simp only [Act.put, List.setIfInBounds_toArray, List.set_cons_zero, List.set_cons_succ]
            refine wpAnyH_done (by kernel_rfl) ?_ _
            go_wp2_with fail
            go_roundg (o.length - (q + 1))
            case rel => exact ⟨q + 1, rfl, by go_num, by omega, hxq.trans hHeld⟩
            case measure => omega
          · obtain rfl : q = o.length := by omega
            go_wp2_with (go_at_call 41; refine (KA.out _ (y6.trans hxq)).mono ?_; rintro e w7 ⟨rfl, x7⟩)
            go_ret
            exact ⟨rfl, (y6.trans hxq).trans x7⟩
end Go.Proofs.YtmomahgedheekaaDoor

/- The walks of enclaveref08: what the reference's functions on types compute. -/
import Derived.Test.YtkjjbackkipfdaaMem
import Derived.Test.YtkjjbackkipfdaaProg
import Derived.Deep.DeepCutAuto
import Derived.Deep.CutBlock
import Derived.Deep.LoopGhost
namespace Go.Proofs.Ytkjjbackkipfdaa
open Go Go.RowKit Go.Sort

set_option maxHeartbeats 400000 in
theorem ref_left (m : Nat) : ∀ (t : Ty) (n : Int) (w : World) (v : Value), t.size ≤ m → 0 ≤ n → n ≤ 1000000 → IsTy w t v →
    Calls Try.prog 35 #[v, .int .i64 n] w fun e w' => e = .returned (.int .i64 (t.left n)) ∧ Ext w w' := by
  induction m with
  | zero => intro t n w v h; have := t.size_pos; omega
  | succ m ih =>
    intro t n w v hm hn0 hn1 ht
    obtain ⟨k, vr, l⟩ := t
    obtain ⟨a, len, cap, rfl, h1, h2, h3, h4, h5, h6, hl⟩ := ht.open_
    simp only [Ty.size] at hm
    have HL := Lib.hid hl.length
    have hb := fun i => Ty.lefts_spec (l.take i) (fun t _ => Ty.left_spec t) (n - 1) (by omega)
    have HB := Lib.hid hb
    clear hb
    go_enter Try.func35, Try.ntmps35
    go_wp2
    go_loopw [1, 5] (fun s i wr => ∃ j : Nat, j ≤ len ∧ i = .int .i64 j ∧ s = .int .i64 (Ty.lefts (l.take j) (n - 1)) ∧ Ext w wr ∧ wr.cell? ⟨w.heap.size, 2, none⟩ = some (.slice a len cap)) (fun _ i _ => len - (intOf i).toNat)
    case atStart => exact ⟨0, by omega, rfl, by simp [Ty.lefts], (Ext.refl _).alloc _, by simp⟩
    case round =>
      obtain ⟨j, hj, rfl, rfl, hx, hc⟩ := hrel
      obtain ⟨b1, b2, _, _⟩ := HB.out j
      have HS := Lib.hid (fun q => Ty.lefts_stop l (n - 1) j q)
      by_cases hlt : j < len
      · by_cases hp : 0 ≤ Ty.lefts (l.take j) (n - 1)
        · obtain ⟨t, b, o, c0, c1, c2, g, rfl, q0, q1, q2, qt⟩ := hl.at3 hx hlt
          have hsz := Ty.size_at l j t g
          have HT := Lib.hid (Ty.lefts_take l (n - 1) j t g hp)
          clear g
          generalize Ty.lefts (l.take j) (n - 1) = s at *
          go_wp2_with (go_at_call 35; refine (ih t s _ _ (by omega) hp (by omega) qt).mono ?_; rintro e w1 ⟨rfl, x1⟩)
          go_roundw
          case rel => exact ⟨j + 1, by omega, by go_num, by rw [HT.out], hx.trans x1, x1.cell hc⟩
          case measure => simp [intOf]; omega
        · have hd : decide (0 ≤ Ty.lefts (l.take j) (n - 1)) = false := by simpa using hp
          have hf : (Ty.mk k vr l).left n = Ty.lefts (l.take j) (n - 1) := by rw [Ty.left]; exact HS.out (by omega)
          have HF := Lib.hid hf
          clear hf
          generalize Ty.lefts (l.take j) (n - 1) = s at *
          go_wp2_with fail
          go_ret
          exact ⟨ret_int HF.out.symm, hx⟩
      · obtain rfl : j = len := by omega
        have hf : (Ty.mk k vr l).left n = Ty.lefts (l.take j) (n - 1) := by rw [Ty.left, List.take_of_length_le (by rw [← HL.out]; omega)]
        have HF := Lib.hid hf
        clear hf
        generalize Ty.lefts (l.take j) (n - 1) = s at *
        go_wp2_with fail
        go_ret
        exact ⟨ret_int HF.out.symm, hx⟩

set_option maxHeartbeats 400000 in
theorem ref_great (t : Ty) (w : World) (v : Value) (ht : IsTy w t v) :
    Calls Try.prog 23 #[v] w fun e w' => e = .returned (.bool (decide (400 < t.size))) ∧ Ext w w' := by
  have hs := Ty.left_spec t 400 (by omega)
  have hd : decide (t.left 400 < 0) = decide (400 < t.size) := by
    by_cases h : 400 < t.size
    · have := hs.2.2.2 (by omega); simp [h, this]
    · have := hs.2.2.1 (by omega); simp [h]; omega
  have HD := Lib.hid hd
  clear hd hs
  have ht0 := ht
  obtain ⟨k, vr, l⟩ := t
  obtain ⟨a, len, cap, rfl, h1, h2, h3, h4, h5, h6, hl⟩ := ht.open_
  go_enter Try.func23, Try.ntmps23
  go_wp2_with (go_at_call 35; refine (ref_left _ _ 400 _ _ (Nat.le_refl _) (by omega) (by omega) (ht0.ext ((Ext.refl _).alloc _))).mono ?_; rintro e w1 ⟨rfl, x1⟩)
  go_ret
  exact ⟨ret_bool HD.out, ((Ext.refl _).alloc _).trans x1⟩

set_option maxHeartbeats 400000 in
theorem ref_size (m : Nat) : ∀ (t : Ty) (w : World) (v : Value), t.size ≤ m → t.size ≤ 1000000 → IsTy w t v →
    Calls Try.prog 24 #[v] w fun e w' => e = .returned (.int .i64 t.size) ∧ Ext w w' := by
  induction m with
  | zero => intro t w v h; have := t.size_pos; omega
  | succ m ih =>
    intro t w v hm hs ht
    obtain ⟨k, n, l⟩ := t
    obtain ⟨a, len, cap, rfl, h1, h2, h3, h4, h5, h6, hl⟩ := ht.open_
    simp only [Ty.size] at hm hs
    have HL := Lib.hid hl.length
    go_enter Try.func24, Try.ntmps24
    go_wp2
    go_loopw [3, 8] (fun s i wr => ∃ j : Nat, j ≤ len ∧ i = .int .i64 j ∧ s = .int .i64 (1 + Ty.sizes (l.take j) : Nat) ∧ Ext w wr ∧ wr.cell? ⟨w.heap.size, 2, none⟩ = some (.slice a len cap)) (fun _ i _ => len - (intOf i).toNat)
    case atStart => exact ⟨0, by omega, rfl, by simp [Ty.sizes], (Ext.refl _).alloc _, by simp⟩
    case round =>
      obtain ⟨j, hj, rfl, rfl, hx, hc⟩ := hrel
      by_cases hlt : j < len
      · obtain ⟨t, b, o, c0, c1, c2, g, rfl, q0, q1, q2, qt⟩ := hl.at3 hx hlt
        have hsz := Ty.size_at l j t g
        have hle := Ty.sizes_take_le l (j+1)
        have hss := Ty.sizes_take_succ l j t g
        have HS := Lib.hid hss
        have hse : Ty.sizes (l.take j) + t.size ≤ Ty.sizes l := by omega
        clear hss g hle
        go_wp2_with (go_at_call 24; refine (ih t _ _ (by omega) (by omega) qt).mono ?_; rintro e w1 ⟨rfl, x1⟩)
        go_roundw
        case rel => exact ⟨j + 1, by omega, by go_num, by rw [HS.out]; exact congrArg (Value.int .i64) (by omega), hx.trans x1, x1.cell hc⟩
        case measure => simp [intOf]; omega
      · obtain rfl : j = len := by omega
        go_wp2_with fail
        go_ret
        exact ⟨by rw [List.take_of_length_le (by rw [← HL.out]; omega)]; rfl, hx⟩

set_option maxHeartbeats 400000 in
theorem ref_same (m : Nat) : ∀ (t t' : Ty) (w : World) (v v' : Value), t.size ≤ m → IsTy w t v → IsTy w t' v' →
    Calls Try.prog 13 #[v, v'] w fun e w' => e = .returned (.bool (t.same t')) ∧ Ext w w' := by
  induction m with
  | zero => intro t t' w v v' h; have := t.size_pos; omega
  | succ m ih =>
    intro t t' w v v' hm ht ht'
    obtain ⟨k, n, l⟩ := t
    obtain ⟨k', n', l'⟩ := t'
    obtain ⟨a, len, cap, rfl, h1, h2, h3, h4, h5, h6, hl⟩ := ht.open_
    obtain ⟨a', len', cap', rfl, h1', h2', h3', h4', h5', h6', hl'⟩ := ht'.open_
    simp only [Ty.size] at hm
    have HL := Lib.hid hl.length
    have HL' := Lib.hid hl'.length
    by_cases hk : k = k'
    case neg =>
      have hb : (k != k') = true := by simpa using hk
      go_enter Try.func13, Try.ntmps13
      go_wp2
      go_ret
      exact ⟨by simp [Ty.same, hk], ((Ext.refl _).alloc _).alloc _⟩
    subst hk
    by_cases hn : n = n'
    case neg =>
      have hb : (n != n') = true := by simpa using hn
      go_enter Try.func13, Try.ntmps13
      go_wp2
      go_ret
      exact ⟨by simp [Ty.same, hn], ((Ext.refl _).alloc _).alloc _⟩
    subst hn
    by_cases hln : len = len'
    case neg =>
      have hb : ((len : Int) != (len' : Int)) = true := by simp; omega
      have hs := Ty.sames_len l l' (by rw [← HL.out, ← HL'.out]; exact hln)
      go_enter Try.func13, Try.ntmps13
      go_wp2
      go_ret
      exact ⟨by simp [Ty.same, hs], ((Ext.refl _).alloc _).alloc _⟩
    subst hln
    go_enter Try.func13, Try.ntmps13
    go_wp2
    go_loopw [30] (fun i wr => ∃ j : Nat, j ≤ len ∧ i = .int .i64 j ∧ Ty.samesTo l l' j ∧ Ext w wr ∧ wr.cell? ⟨w.heap.size, 2, none⟩ = some (.slice a len cap) ∧ wr.cell? ⟨w.heap.size + 1, 2, none⟩ = some (.slice a' len cap')) (fun i _ => len - (intOf i).toNat)
    case atStart => exact ⟨0, by omega, rfl, fun j hj => by omega, ((Ext.refl _).alloc _).alloc _, by simp, by simp⟩
    case round =>
      obtain ⟨j, hj, rfl, hto, hx, hc1, hc2⟩ := hrel
      have HT := Lib.hid hto
      clear hto
      by_cases hlt : j < len
      · obtain ⟨t, b, o, c0, c1, c2, g, rfl, q0, q1, q2, qt⟩ := hl.at3 hx hlt
        obtain ⟨t', b', o', c0', c1', c2', g', rfl, q0', q1', q2', qt'⟩ := hl'.at3 hx hlt
        have hsz := Ty.size_at l j t g
        have G := Lib.hid g
        have G' := Lib.hid g'
        clear g g'
        have k0 := cells_regrown q0
        have k1 := cells_regrown q1
        have k2 := cells_regrown q2
        have k0' := cells_regrown q0'
        have k1' := cells_regrown q1'
        have k2' := cells_regrown q2'
        have kc1 := cells_regrown hc1
        have kc2 := cells_regrown hc2
        have cQ := quiet_ext fun w1 h1 => ih t t' w1 _ _ (by omega) (qt.ext h1) (qt'.ext h1)
        go_wp2_with fail
        refine wp_region_quiet_below (by kernel_rfl) (by kernel_rfl) ?_
        repeat (go_big_quiet_step (exact cQ _ _))
        refine wpQuiet_nil ?_
        intro w1 hq_w1
        have x1 := ext_of_regrown hq_w1
        clear hq_w1
        go_wp2_with fail
        · rename_i hr
          go_ret
          have hr' : t.same t' = false := by simpa using hr
          exact ⟨by simp [Ty.same, Ty.sames_no l l' j t t' G.out G'.out hr'], hx.trans x1⟩
        · rename_i hr
          have hr' : t.same t' = true := by simpa using hr
          go_roundw
          case rel => exact ⟨j + 1, by omega, by go_num, Ty.samesTo_succ HT.out G.out G'.out hr', hx.trans x1, x1.cell hc1, x1.cell hc2⟩
          case measure => simp [intOf]; omega
      · obtain rfl : j = len := by omega
        go_wp2_with fail
        go_ret
        exact ⟨by simp [Ty.same, Ty.sames_yes l l' (by rw [← HL.out, ← HL'.out]) (by rw [← HL.out]; exact HT.out)], hx⟩

set_option maxHeartbeats 400000 in
theorem ref_has (m : Nat) : ∀ (t : Ty) (x : Int) (w : World) (v : Value), t.size ≤ m → IsTy w t v →
    Calls Try.prog 22 #[v, .int .u8 x] w fun e w' => e = .returned (.bool (t.has x)) ∧ Ext w w' := by
  induction m with
  | zero => intro t x w v h; have := t.size_pos; omega
  | succ m ih =>
    intro t x w v hm ht
    obtain ⟨k, n, l⟩ := t
    obtain ⟨a, len, cap, rfl, h1, h2, h3, h4, h5, h6, hl⟩ := ht.open_
    simp only [Ty.size] at hm
    have HL := Lib.hid hl.length
    by_cases hk : k = x
    case pos =>
      have hb : (k == x) = true := by simpa using hk
      go_enter Try.func22, Try.ntmps22
      go_wp2
      go_ret
      exact ⟨by simp [Ty.has, hb], (Ext.refl _).alloc _⟩
    have hb : (k == x) = false := by simpa using hk
    go_enter Try.func22, Try.ntmps22
    go_wp2
    go_loopw [13] (fun i wr => ∃ j : Nat, j ≤ len ∧ i = .int .i64 j ∧ (∀ t, t ∈ l.take j → t.has x = false) ∧ Ext w wr ∧ wr.cell? ⟨w.heap.size, 2, none⟩ = some (.slice a len cap)) (fun i _ => len - (intOf i).toNat)
    case atStart => exact ⟨0, by omega, rfl, by simp, (Ext.refl _).alloc _, by simp⟩
    case round =>
      obtain ⟨j, hj, rfl, hto, hx, hc⟩ := hrel
      have HT := Lib.hid hto
      clear hto
      by_cases hlt : j < len
      · obtain ⟨t, b, o, c0, c1, c2, g, rfl, q0, q1, q2, qt⟩ := hl.at3 hx hlt
        have hsz := Ty.size_at l j t g
        have G := Lib.hid g
        clear g
        go_wp2_with (go_at_call 22; refine (ih t x _ _ (by omega) qt).mono ?_; rintro e w1 ⟨rfl, x1⟩)
        · rename_i hr
          go_ret
          exact ⟨by simp [Ty.has, (Ty.hass_iff x l).2 ⟨t, List.mem_of_getElem? G.out, hr⟩], hx.trans x1⟩
        · rename_i hr
          go_roundw
          case rel =>
            refine ⟨j + 1, by omega, by go_num, ?_, hx.trans x1, x1.cell hc⟩
            intro y hy
            rw [List.take_add_one, G.out] at hy
            simp at hy
            rcases hy with hy | rfl
            · exact HT.out y hy
            · simpa using hr
          case measure => simp [intOf]; omega
      · obtain rfl : j = len := by omega
        go_wp2_with fail
        go_ret
        exact ⟨by
          have := HT.out
          rw [List.take_of_length_le (by rw [← HL.out]; omega)] at this
          simp [Ty.has, hb, (Ty.hass_no x l).2 this], hx⟩

theorem arity_le (k : Int) : -1 ≤ arity k ∧ arity k ≤ 2 := by unfold arity; repeat' split <;> try omega

set_option maxHeartbeats 400000 in
theorem ref_may (m : Nat) : ∀ (t : Ty) (w : World) (v : Value), t.size ≤ m → IsTy w t v →
    Calls Try.prog 21 #[v] w fun e w' => e = .returned (.bool t.may) ∧ Ext w w' := by
  induction m with
  | zero => intro t w v h; have := t.size_pos; omega
  | succ m ih =>
    intro t w v hm ht
    obtain ⟨k, n, l⟩ := t
    obtain ⟨a, len, cap, rfl, h1, h2, h3, h4, h5, h6, hl⟩ := ht.open_
    simp only [Ty.size] at hm
    have HL := Lib.hid hl.length
    have ha := arity_le k
    have hnode : Ty.node (.mk k n l) = ((decide (arity k = len) && decide (0 ≤ n)) && (decide (n = 0) || decide (k = 5))) := by simp [Ty.node, HL.out]
    have HN := Lib.hid hnode
    clear hnode
    go_enter Try.func21, Try.ntmps21
    go_upto_block 0 with fail
    go_cut [3] (fun s wx => s = .int .i64 (arity k) ∧ Ext w wx ∧ wx.cell? ⟨w.heap.size, 0, none⟩ = some (.int .u8 k) ∧ wx.cell? ⟨w.heap.size, 1, none⟩ = some (.int .i64 n) ∧ wx.cell? ⟨w.heap.size, 2, none⟩ = some (.slice a len cap))
    case first =>
      go_wp2
      all_goals
        go_meet
        exact ⟨by simp_all [arity], (Ext.refl _).alloc _, by simp, by simp, by simp⟩
    case rest =>
      obtain ⟨rfl, hx, c0, c1, c2⟩ := hcut
      have HA := Lib.hid (rfl : arity k = arity k)
      generalize hga : arity k = ar at *
      have HG := Lib.hid hga
      clear hga HA
      by_cases hnd : Ty.node (.mk k n l) = true
      case neg =>
        have hq := hnd
        rw [HN.out] at hq
        simp only [Bool.and_eq_true, Bool.or_eq_true, decide_eq_true_eq] at hq
        have HQ := Lib.hid hq
        have HND := Lib.hid (Bool.eq_false_iff.2 hnd)
        clear hq hnd
        go_wp2
        all_goals first
          | (go_ret; exact ⟨ret_bool (by simp [Ty.may, HND.out]), hx⟩)
          | (exfalso; apply HQ.out; omega)
          | (exfalso; apply HQ.out; simp only [bne_eq_false_iff_eq] at *; omega)
      have hq := hnd
      rw [HN.out] at hq
      simp only [Bool.and_eq_true, Bool.or_eq_true, decide_eq_true_eq] at hq
      obtain ⟨⟨e1, e2⟩, e3⟩ := hq
      have HN1 := Lib.hid hnd
      clear hnd
      have d0 : ((len : Int) != ar) = false := by simp; omega
      clear e1
      have d1 : decide (n < 0) = false := by simp; omega
      have d2 : (decide (0 < n) = true ∧ (k != 5) = false) ∨ decide (0 < n) = false := by
        by_cases h : 0 < n
        · left; simp; omega
        · right; simp; omega
      clear e3
      rcases d2 with ⟨d2, d3⟩ | d2
      all_goals
        go_wp2
        go_loopg [38] len (fun g i wr => ∃ j : Nat, g = len - j ∧ j ≤ len ∧ i = .int .i64 j ∧ (∀ t, t ∈ l.take j → t.may = true) ∧ Ext w wr ∧ wr.cell? ⟨w.heap.size, 2, none⟩ = some (.slice a len cap))
        case atStart => exact ⟨0, by omega, by omega, rfl, by simp, hx, c2⟩
        case round =>
          clear c0 c1 c2 hx
          obtain ⟨j, rfl, hj, rfl, hto, hx, hc⟩ := hrel
          have HT := Lib.hid hto
          clear hto
          by_cases hlt : j < len
          · obtain ⟨t, b, o, c0, c1, c2, g, rfl, q0, q1, q2, qt⟩ := hl.at3 hx hlt
            have hsz := Ty.size_at l j t g
            have G := Lib.hid g
            clear g
            go_wp2_with (go_at_call 21; refine (ih t _ _ (by omega) qt).mono ?_; rintro e w1 ⟨rfl, x1⟩)
            · rename_i hr
              go_ret
              have hr' : t.may = false := by simpa using hr
              have hm' : Ty.mays l = false := by
                rw [Bool.eq_false_iff]
                intro h
                rw [(Ty.mays_iff l).1 h t (List.mem_of_getElem? G.out)] at hr'
                cases hr'
              exact ⟨ret_bool (by simp [Ty.may, hm']), hx.trans x1⟩
            · rename_i hr
              go_roundg (len - (j + 1))
              case rel =>
                refine ⟨j + 1, rfl, by omega, by go_num, ?_, hx.trans x1, x1.cell hc⟩
                intro y hy
                rw [List.take_add_one, G.out] at hy
                simp at hy
                rcases hy with hy | rfl
                · exact HT.out y hy
                · simpa using hr
              case measure => omega
          · obtain rfl : j = len := by omega
            go_wp2_with fail
            go_ret
            have h0 := HT.out
            rw [List.take_of_length_le (by rw [← HL.out]; omega)] at h0
            exact ⟨ret_bool (by simp [Ty.may, HN1.out, (Ty.mays_iff l).2 h0]), hx⟩
end Go.Proofs.Ytkjjbackkipfdaa

/- The walks of package value: Text, number. -/
import Derived.Test.YtmomahgedheekaaDoorValue
import Derived.Test.YtmomahgedheekaaDoorErrs
namespace Go.Proofs.YtmomahgedheekaaDoor
open Go Go.RowKit Go.Sort

set_option maxHeartbeats 400000 in
theorem value_text_no (k : Int) (i : Bool) (n : Int) (x : ByteArray) (w : World) (h0 : 0 ≤ k) (h1 : k ≤ 255) (hk : Knob w) (hm : En.may ⟨k, i, n, x⟩ = false) :
    Calls Tryd.prog 19 #[.agg #[.int .u8 k, .bool i, .int .i64 n, .string x]] w fun e w' => e = .returned (.tuple #[.string ⟨#[]⟩, .int .i64 1]) ∧ Ext w w' := by
  have K := Lib.hid fun W (h : Ext w W) => value_may k i n x W h0 h1 (hk.ext h)
  rw [hm] at K
  clear hm h0 h1
  go_enter Tryd.func19, Tryd.ntmps19
  go_wp2_with (go_at_call 37; refine (K.out _ (by (repeat (first | exact Ext.refl _ | assumption | refine Ext.alloc ?_ _ | refine Ext.drew ?_ | refine Ext.setCell ?_ (by first | (simp; done) | (simp; omega) | omega) _ | refine Ext.trans ?_ (by assumption))))).mono ?_; rintro e w1 ⟨rfl, x1⟩)
  go_ret2
  exact ⟨rfl, by (repeat (first | exact Ext.refl _ | assumption | refine Ext.alloc ?_ _ | refine Ext.drew ?_ | refine Ext.setCell ?_ (by first | (simp; done) | (simp; omega) | omega) _ | refine Ext.trans ?_ (by assumption)))⟩

theorem exn_size {x : ByteArray} (h : isExn x = true) : x.size ≤ 16 := by
  unfold isExn at h
  have hl := il_length x
  cases hc : il x with
  | nil => rw [hc] at hl; simp at hl; omega
  | cons c r =>
    rw [hc] at h hl
    simp only [shapely, Bool.and_eq_true, decide_eq_true_eq] at h
    omega
theorem join_three (a b c sep : List UInt8) : Lib.join [a, b, c] sep = a ++ (sep ++ (b ++ (sep ++ c))) := by
  simp [Lib.join, List.intercalate, List.intersperse]

theorem row_cell {w : World} {l : List Value} {b n : Nat} (h : IsRow w l (some ⟨b, 0, none⟩) n) (j : Nat) (v : Value) (hj : l[j]? = some v) : w.cell? ⟨b, j, none⟩ = some v := by
  obtain ⟨b', o, e, q⟩ := h.2 j v hj
  cases e
  simpa using q
set_option maxHeartbeats 4000000 in
theorem value_text (k : Int) (i : Bool) (n : Int) (x : ByteArray) (w : World) (n0 : -9223372036854775808 ≤ n) (n1 : n ≤ 9223372036854775807) (hk : Knob w) (ht : Tab w) (hm : En.may ⟨k, i, n, x⟩ = true) :
    Calls Tryd.prog 19 #[.agg #[.int .u8 k, .bool i, .int .i64 n, .string x]] w fun e w' => e = .returned (.tuple #[.string (bs (En.text ⟨k, i, n, x⟩)), .int .i64 0]) ∧ Ext w w' := by
  have hkb : 0 ≤ k ∧ k ≤ 255 := by
    rcases En.may_cases hm with ⟨_, e⟩ | e | ⟨_, _, e, _⟩ | ⟨_, a, b, e⟩ <;> cases e <;> omega
  have K := Lib.hid fun W (h : Ext w W) => value_may k i n x W hkb.1 hkb.2 (hk.ext h)
  rw [hm] at K
  have KD := Lib.hid fun W (h : Ext w W) => words_digits n W n0 n1 (ht.ext h)
  have HSZ := Lib.hid (itoa_len n0 n1)
  clear n0 n1 hkb
  obtain ⟨W1, hW1, x1, m0, m1, m2, m3, hlt⟩ := endblk w k i n x
  rcases En.may_cases hm with ⟨n', e⟩ | e | ⟨n', x', e, hx⟩ | ⟨k', h3, h6, e⟩
  · cases e
    have HT : Hid (bs (En.text ⟨1, true, n, ByteArray.empty⟩) = ⟨#[118, 97, 108, 117, 101, 32]⟩ ++ bs (Lib.itoa n)) := by
      show _ = _
      rw [text_num, show (⟨#[118, 97, 108, 117, 101, 32]⟩ : ByteArray) = bs tValue from rfl, bs_append]
    clear hm
    have o1 : ¬ 9223372036854775807 < 6 + (bs (Lib.itoa n)).size := by have := HSZ.out; omega
    go_enter Tryd.func19, Tryd.ntmps19
    go_wp2_with fail
    rw [← hW1]
    go_at_call 37
    refine (K.out _ x1).mono ?_
    rintro e w2 ⟨rfl, x2⟩
    have c0 := m0 _ x2
    have c1 := m1 _ x2
    have c2 := m2 _ x2
    clear hW1 m0 m1 m2 m3
    go_wp2_with (go_at_call 49; refine (KD.out _ (x1.trans x2)).mono ?_; rintro e w3 ⟨rfl, x3⟩)
    go_ret2
    exact ⟨by rw [HT.out]; rfl, by (repeat (first | exact Ext.refl _ | assumption | refine Ext.alloc ?_ _ | refine Ext.drew ?_ | refine Ext.setCell ?_ (by first | (simp; done) | (simp; omega) | omega) _ | refine Ext.trans ?_ (by assumption)))⟩
  · cases e
    have HT : Hid (bs (En.text ⟨1, false, 0, ByteArray.empty⟩) = ⟨#[118, 97, 108, 117, 101, 32, 35]⟩) := by
      show _ = _
      rw [text_other]; rfl
    clear hm
    go_enter Tryd.func19, Tryd.ntmps19
    go_wp2_with fail
    rw [← hW1]
    go_at_call 37
    refine (K.out _ x1).mono ?_
    rintro e w2 ⟨rfl, x2⟩
    have c0 := m0 _ x2
    have c1 := m1 _ x2
    have c2 := m2 _ x2
    clear hW1 m0 m1 m2 m3
    go_wp2_with fail
    go_ret2
    exact ⟨by rw [HT.out]; rfl, by (repeat (first | exact Ext.refl _ | assumption | refine Ext.alloc ?_ _ | refine Ext.drew ?_ | refine Ext.setCell ?_ (by first | (simp; done) | (simp; omega) | omega) _ | refine Ext.trans ?_ (by assumption)))⟩
  · cases e
    have hsz := exn_size hx
    have KJ : Hid (∀ W b, b < W.heap.size → (∀ (j : Nat) v, [Value.string ⟨#[117, 110, 99, 97, 117, 103, 104, 116]⟩, .string x, .string (bs (Lib.itoa n))][j]? = some v → W.cell? ⟨b, j, none⟩ = some v) →
        Calls Tryd.prog 48 #[.slice (some ⟨b, 0, none⟩) 3 3, .string ⟨#[32]⟩] W fun e w' => e = .returned (.string (bs (En.text ⟨2, false, n, x⟩))) ∧ Ext W w') := by
      intro W b hb hc
      have hi := HSZ.out
      rw [bs_size] at hi
      have hj := Tryd.strings_Join b 0 3 [⟨#[117, 110, 99, 97, 117, 103, 104, 116]⟩, x, bs (Lib.itoa n)] ⟨#[32]⟩ W (fun j y hy => by
        have := hc j (.string y) (by
          rw [show [Value.string ⟨#[117, 110, 99, 97, 117, 103, 104, 116]⟩, .string x, .string (bs (Lib.itoa n))] = [(⟨#[117, 110, 99, 97, 117, 103, 104, 116]⟩ : ByteArray), x, bs (Lib.itoa n)].map Value.string from rfl, List.getElem?_map, hy]
          rfl)
        simpa using this) hb (by simp) (by simp) ?_
      · refine hj.mono fun e w' ⟨he, hw⟩ => ⟨?_, hw⟩
        rw [he]
        congr 2
        rw [text_unc]
        simp only [List.map_cons, List.map_nil, join_three, bs_list]
        rfl
      · simp only [List.map_cons, List.map_nil, join_three, bs_list]
        simp
        omega
    clear hm hsz hx
    go_enter Tryd.func19, Tryd.ntmps19
    go_wp2_with fail
    rw [← hW1]
    go_at_call 37
    refine (K.out _ x1).mono ?_
    rintro e w2 ⟨rfl, x2⟩
    have y2 := x1.trans x2
    have n0 := fun W (h : Ext w2 W) => m0 _ (x2.trans h)
    have n1 := fun W (h : Ext w2 W) => m1 _ (x2.trans h)
    have n2 := fun W (h : Ext w2 W) => m2 _ (x2.trans h)
    have n3 := fun W (h : Ext w2 W) => m3 _ (x2.trans h)
    have c0 := m0 _ x2
    clear hW1 m0 m1 m2 m3
    go_wp2_with fail
    refine wp_region_held_drew (S := fun w' => Ext w2 w') (by kernel_rfl) (by (try dsimp only); (repeat (first | exact Ext.refl _ | assumption | refine Ext.alloc ?_ _ | refine Ext.drew ?_ | refine Ext.setCell ?_ (by first | (simp; done) | (simp; omega) | omega) _ | refine Ext.trans ?_ (by assumption)))) (fun hHeld => ?_)
    refine held_take 0 (v := ?_) rfl (by kernel_rfl) (by kernel_rfl) (by kernel_rfl) (fun _ _ _ h => h) (by assumption) (by rfl) ?_ ?_; rotate_left; (focus (intro w hSw; (try dsimp only at hSw); go_simp; (try with_reducible rfl))); try simp only [Act.put, List.setIfInBounds_toArray, List.set_cons_zero, List.set_cons_succ]
    refine held_take 1 (v := ?_) rfl (by kernel_rfl) (by kernel_rfl) (by kernel_rfl) (fun _ _ _ h => h) (by assumption) (by rfl) ?_ ?_; rotate_left; (focus (intro w hSw; (try dsimp only at hSw); go_simp; (try with_reducible rfl))); try simp only [Act.put, List.setIfInBounds_toArray, List.set_cons_zero, List.set_cons_succ]
    refine held_take 2 (v := ?_) rfl (by kernel_rfl) (by kernel_rfl) (by kernel_rfl) (fun _ _ _ h => h) (by assumption) (by rfl) ?_ ?_; rotate_left; (focus (intro w hSw; (try dsimp only at hSw); go_simp; (try with_reducible rfl))); try simp only [Act.put, List.setIfInBounds_toArray, List.set_cons_zero, List.set_cons_succ]
    refine held_take 3 (v := ?_) rfl (by kernel_rfl) (by kernel_rfl) (by kernel_rfl) (fun _ _ _ h => h) (by assumption) (by rfl) ?_ ?_; rotate_left; (focus (intro w hSw; (try dsimp only at hSw); go_simp; (try with_reducible rfl))); try simp only [Act.put, List.setIfInBounds_toArray, List.set_cons_zero, List.set_cons_succ]
    refine held_do 4 rfl (by kernel_rfl) (by rfl) (fun K hK => ?_); go_simp; (first | (go_at_call 49; refine (KD.out _ (y2.trans (by (repeat (first | exact Ext.refl _ | assumption | refine Ext.alloc ?_ _ | refine Ext.drew ?_ | refine Ext.setCell ?_ (by first | (simp; done) | (simp; omega) | omega) _ | refine Ext.trans ?_ (by assumption)))))).mono ?_; rintro e w3 ⟨rfl, x3⟩) | (go_at_call 48; refine (KJ.out _ _ (by simp) (fun j v hv => by match j, hv with | 0, hv | 1, hv | 2, hv => simp at hv; subst hv; simp [go_sem])).mono ?_; rintro e w4 ⟨rfl, x4⟩)); (try (focus (go_wp2_with fail))); refine hK.out _ _ (by (try dsimp only); (repeat (first | exact Ext.refl _ | assumption | refine Ext.alloc ?_ _ | refine Ext.drew ?_ | refine Ext.setCell ?_ (by first | (simp; done) | (simp; omega) | omega) _ | refine Ext.trans ?_ (by assumption)))) (fun hHeld => ?_); clear hK K; try simp only [Act.put, List.setIfInBounds_toArray, List.set_cons_zero, List.set_cons_succ]
    refine held_do 5 rfl (by kernel_rfl) (by rfl) (fun K hK => ?_); go_simp; refine hK.out _ _ (by (try dsimp only); (repeat (first | exact Ext.refl _ | assumption | refine Ext.alloc ?_ _ | refine Ext.drew ?_ | refine Ext.setCell ?_ (by first | (simp; done) | (simp; omega) | omega) _ | refine Ext.trans ?_ (by assumption)))) (fun hHeld => ?_); clear hK K; try simp only [Act.put, List.setIfInBounds_toArray, List.set_cons_zero, List.set_cons_succ]
    refine held_do 6 rfl (by kernel_rfl) (by rfl) (fun K hK => ?_); go_simp; (first | (go_at_call 49; refine (KD.out _ (y2.trans (by (repeat (first | exact Ext.refl _ | assumption | refine Ext.alloc ?_ _ | refine Ext.drew ?_ | refine Ext.setCell ?_ (by first | (simp; done) | (simp; omega) | omega) _ | refine Ext.trans ?_ (by assumption)))))).mono ?_; rintro e w3 ⟨rfl, x3⟩) | (go_at_call 48; refine (KJ.out _ _ (by simp) (fun j v hv => by match j, hv with | 0, hv | 1, hv | 2, hv => simp at hv; subst hv; simp [go_sem])).mono ?_; rintro e w4 ⟨rfl, x4⟩)); (try (focus (go_wp2_with fail))); refine hK.out _ _ (by (try dsimp only); (repeat (first | exact Ext.refl _ | assumption | refine Ext.alloc ?_ _ | refine Ext.drew ?_ | refine Ext.setCell ?_ (by first | (simp; done) | (simp; omega) | omega) _ | refine Ext.trans ?_ (by assumption)))) (fun hHeld => ?_); clear hK K; try simp only [Act.put, List.setIfInBounds_toArray, List.set_cons_zero, List.set_cons_succ]
    refine held_take 7 (v := ?_) rfl (by kernel_rfl) (by kernel_rfl) (by kernel_rfl) (fun _ _ _ h => h) (by assumption) (by rfl) ?_ ?_; rotate_left; (focus (intro w hSw; (try dsimp only at hSw); go_simp; (try with_reducible rfl))); try simp only [Act.put, List.setIfInBounds_toArray, List.set_cons_zero, List.set_cons_succ]
    refine held_take 8 (v := ?_) rfl (by kernel_rfl) (by kernel_rfl) (by kernel_rfl) (fun _ _ _ h => h) (by assumption) (by rfl) ?_ ?_; rotate_left; (focus (intro w hSw; (try dsimp only at hSw); go_simp; (try with_reducible rfl))); try simp only [Act.put, List.setIfInBounds_toArray, List.set_cons_zero, List.set_cons_succ]
    refine wpAnyH_done (by kernel_rfl) ?_ _
    go_wp2_with fail
    go_ret2
    exact ⟨rfl, y2.trans hHeld⟩
  · cases e
    clear hm KD
    have hc : k = 3 ∨ k = 4 ∨ k = 5 ∨ k = 6 := by omega
    clear h3 h6
    have z0 : IntKind.u8.wrap 0 = 0 := by decide
    have z1 : IntKind.u8.wrap 1 = 1 := by decide
    have z2 : IntKind.u8.wrap 2 = 2 := by decide
    have z3 : IntKind.u8.wrap 3 = 3 := by decide
    rcases hc with rfl | rfl | rfl | rfl
    all_goals
      go_enter Tryd.func19, Tryd.ntmps19
      go_wp2_with fail
      rw [← hW1]
      go_at_call 37
      refine (K.out _ x1).mono ?_
      rintro e w2 ⟨rfl, x2⟩
      have y2 := x1.trans x2
      have n0 := fun W (h : Ext w2 W) => m0 _ (x2.trans h)
      have c0 := m0 _ x2
      clear hW1 m0 m1 m2 m3
      go_wp2_with fail
      refine wp_region_held_drew (S := fun w' => Ext w2 w') (by kernel_rfl) (by (try dsimp only); (repeat (first | exact Ext.refl _ | assumption | refine Ext.alloc ?_ _ | refine Ext.drew ?_ | refine Ext.setCell ?_ (by first | (simp; done) | (simp; omega) | omega) _ | refine Ext.trans ?_ (by assumption)))) (fun hHeld => ?_)
      refine held_take 1 (v := ?_) rfl (by kernel_rfl) (by kernel_rfl) (by kernel_rfl) (fun _ _ _ h => h) (by assumption) (by rfl) ?_ ?_; rotate_left; (focus (intro w hSw; (try dsimp only at hSw); go_simp; (try with_reducible rfl))); try simp only [Act.put, List.setIfInBounds_toArray, List.set_cons_zero, List.set_cons_succ]
      refine held_take 2 (v := ?_) rfl (by kernel_rfl) (by kernel_rfl) (by kernel_rfl) (fun _ _ _ h => h) (by assumption) (by rfl) ?_ ?_; rotate_left; (focus (intro w hSw; (try dsimp only at hSw); go_simp; (try with_reducible rfl))); try simp only [Act.put, List.setIfInBounds_toArray, List.set_cons_zero, List.set_cons_succ]
      refine held_take 3 (v := ?_) rfl (by kernel_rfl) (by kernel_rfl) (by kernel_rfl) (fun _ _ _ h => h) (by assumption) (by rfl) ?_ ?_; rotate_left; (focus (intro w hSw; (try dsimp only at hSw); go_simp; (try with_reducible rfl))); try simp only [Act.put, List.setIfInBounds_toArray, List.set_cons_zero, List.set_cons_succ]
      refine held_do 0 rfl (by kernel_rfl) (by rfl) (fun K hK => ?_); go_simp; (first | (go_at_call 50; refine (value_fixed _).mono ?_; rintro e w3 ⟨rfl, x3, hr⟩; have q0 : w3.cell? ⟨w2.heap.size, 0, none⟩ = some (.string (bs (tFixed 3))) := row_cell hr 0 _ rfl; have q1 : w3.cell? ⟨w2.heap.size, 1, none⟩ = some (.string (bs (tFixed 4))) := row_cell hr 1 _ rfl; have q2 : w3.cell? ⟨w2.heap.size, 2, none⟩ = some (.string (bs (tFixed 5))) := row_cell hr 2 _ rfl; have q3 : w3.cell? ⟨w2.heap.size, 3, none⟩ = some (.string (bs (tFixed 6))) := row_cell hr 3 _ rfl)); (try (focus (go_wp2_with fail))); refine hK.out _ _ (by (try dsimp only); (repeat (first | exact Ext.refl _ | assumption | refine Ext.alloc ?_ _ | refine Ext.drew ?_ | refine Ext.setCell ?_ (by first | (simp; done) | (simp; omega) | omega) _ | refine Ext.trans ?_ (by assumption)))) (fun hHeld => ?_); clear hK K; try simp only [Act.put, List.setIfInBounds_toArray, List.set_cons_zero, List.set_cons_succ]
      refine held_take 4 (v := ?_) rfl (by kernel_rfl) (by kernel_rfl) (by kernel_rfl) (fun _ _ _ h => h) (by assumption) (by rfl) ?_ ?_; rotate_left; (focus (intro w hSw; (try dsimp only at hSw); go_simp; (try with_reducible rfl))); try simp only [Act.put, List.setIfInBounds_toArray, List.set_cons_zero, List.set_cons_succ]
      refine held_do 5 rfl (by kernel_rfl) (by rfl) (fun K hK => ?_); go_simp; refine hK.out _ _ (by (try dsimp only); (repeat (first | exact Ext.refl _ | assumption | refine Ext.alloc ?_ _ | refine Ext.drew ?_ | refine Ext.setCell ?_ (by first | (simp; done) | (simp; omega) | omega) _ | refine Ext.trans ?_ (by assumption)))) (fun hHeld => ?_); clear hK K; try simp only [Act.put, List.setIfInBounds_toArray, List.set_cons_zero, List.set_cons_succ]
      refine held_take 6 (v := ?_) rfl (by kernel_rfl) (by kernel_rfl) (by kernel_rfl) (fun _ _ _ h => h) (by assumption) (by rfl) ?_ ?_; rotate_left; (focus (intro w hSw; (try dsimp only at hSw); go_simp; (try with_reducible rfl))); try simp only [Act.put, List.setIfInBounds_toArray, List.set_cons_zero, List.set_cons_succ]
      refine held_take 7 (v := ?_) rfl (by kernel_rfl) (by kernel_rfl) (by kernel_rfl) (fun _ _ _ h => h) (by assumption) (by rfl) ?_ ?_; rotate_left; (focus (intro w hSw; (try dsimp only at hSw); go_simp; (try with_reducible rfl))); try simp only [Act.put, List.setIfInBounds_toArray, List.set_cons_zero, List.set_cons_succ]
      refine wpAnyH_done (by kernel_rfl) ?_ _
      go_wp2_with fail
      go_ret2
      exact ⟨rfl, y2.trans hHeld⟩
end Go.Proofs.YtmomahgedheekaaDoor

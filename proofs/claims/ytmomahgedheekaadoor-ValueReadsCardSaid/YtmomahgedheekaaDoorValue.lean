/- The walks of package value: what makes ends, May, Text, Done. -/
import Derived.Test.YtmomahgedheekaaDoorWords2
import Derived.Test.YtmomahgedheekaaDoorRef18
import Derived.Test.YtmomahgedheekaaDoorStrs
namespace Go.Proofs.YtmomahgedheekaaDoor
open Go Go.RowKit Go.Sort

set_option maxHeartbeats 400000 in
theorem value_int (n : Int) (w : World) : Calls Tryd.prog 20 #[.int .i64 n] w fun e w' => e = .returned (.agg #[.int .u8 1, .bool true, .int .i64 n, .string ByteArray.empty]) ∧ Ext w w' := by
  go_enter Tryd.func20, Tryd.ntmps20
  go_wp2_with fail
  exact bodyPost_ret (v := .agg #[.int .u8 1, .bool true, .int .i64 n, .string ByteArray.empty]) (by simp [results, Tryd.results20, go_sem] <;> rfl) rfl ⟨rfl, by (repeat (first | exact Ext.refl _ | assumption | refine Ext.alloc ?_ _ | refine Ext.drew ?_ | refine Ext.setCell ?_ (by first | (simp; done) | (simp; omega) | omega) _ | refine Ext.trans ?_ (by assumption)))⟩
set_option maxHeartbeats 400000 in
theorem value_other (w : World) : Calls Tryd.prog 21 #[] w fun e w' => e = .returned (.agg #[.int .u8 1, .bool false, .int .i64 0, .string ByteArray.empty]) ∧ Ext w w' := by
  go_enter Tryd.func21, Tryd.ntmps21
  go_wp2_with fail
  exact bodyPost_ret (v := .agg #[.int .u8 1, .bool false, .int .i64 0, .string ByteArray.empty]) (by simp [results, Tryd.results21, go_sem] <;> rfl) rfl ⟨rfl, by (repeat (first | exact Ext.refl _ | assumption | refine Ext.alloc ?_ _ | refine Ext.drew ?_ | refine Ext.setCell ?_ (by first | (simp; done) | (simp; omega) | omega) _ | refine Ext.trans ?_ (by assumption)))⟩
set_option maxHeartbeats 400000 in
theorem value_uncaught (x : ByteArray) (n : Int) (w : World) : Calls Tryd.prog 22 #[.string x, .int .i64 n] w fun e w' => e = .returned (.agg #[.int .u8 2, .bool false, .int .i64 n, .string x]) ∧ Ext w w' := by
  go_enter Tryd.func22, Tryd.ntmps22
  go_wp2_with fail
  exact bodyPost_ret (v := .agg #[.int .u8 2, .bool false, .int .i64 n, .string x]) (by simp [results, Tryd.results22, go_sem] <;> rfl) rfl ⟨rfl, by (repeat (first | exact Ext.refl _ | assumption | refine Ext.alloc ?_ _ | refine Ext.drew ?_ | refine Ext.setCell ?_ (by first | (simp; done) | (simp; omega) | omega) _ | refine Ext.trans ?_ (by assumption)))⟩

/-- Two ends are the same. -/
def endB (k k' : Int) (i i' : Bool) (n n' : Int) (x x' : ByteArray) : Bool := k == k' && (i == i' && (n == n' && x.toList == x'.toList))
set_option maxRecDepth 8000 in
set_option maxHeartbeats 1000000 in
theorem eq_ends (k k' : Int) (i i' : Bool) (n n' : Int) (x x' : ByteArray) (w : World) : (Op.equalIn 10000 23 (.agg #[.int .u8 k, .bool i, .int .i64 n, .string x]) (.agg #[.int .u8 k', .bool i', .int .i64 n', .string x'])).run Tryd.prog w = .ok (endB k k' i i' n n' x x') w := by
  have hS : Tryd.prog.underlying 23 = some (.struct (Tryd.prog.fieldsOf 23)) := by kernel_rfl
  have hp : Tryd.prog.stoodInHeld 23 = false := by kernel_rfl
  rw [show (10000 : Nat) = 9999 + 1 from rfl, run_equalIn_struct w 9999 23 _ _ hS hp]
  simp only [Program.fieldsOf, Tryd.underlying23]
  unfold endB
  cases A : (k == k')
  · go_simp
    try simp [A]
  cases B : (i == i')
  · go_simp
    try simp [A, B]
  cases C : (n == n')
  · go_simp
    try simp [A, B, C]
  cases D : (x.toList == x'.toList)
  · go_simp
    try simp [A, B, C, D]
  go_simp
  try simp [A, B, C, D]

theorem empty_list : ByteArray.empty.toList = [] := by rw [ByteArray.toList_eq]; rfl
theorem isEmpty_beq (x : ByteArray) : (x.toList == ByteArray.empty.toList) = x.toList.isEmpty := by
  rw [empty_list]
  cases x.toList <;> rfl

/-- The block of an end that was just boxed. -/
theorem endblk (w : World) (k : Int) (i : Bool) (n : Int) (x : ByteArray) : ∃ W1, W1 = w.alloc (.cells #[.int .u8 k, .bool i, .int .i64 n, .string x] 23) ∧ Ext w W1 ∧ (∀ W, Ext W1 W → W.cell? ⟨w.heap.size, 0, none⟩ = some (.int .u8 k)) ∧ (∀ W, Ext W1 W → W.cell? ⟨w.heap.size, 1, none⟩ = some (.bool i)) ∧ (∀ W, Ext W1 W → W.cell? ⟨w.heap.size, 2, none⟩ = some (.int .i64 n)) ∧ (∀ W, Ext W1 W → W.cell? ⟨w.heap.size, 3, none⟩ = some (.string x)) ∧ w.heap.size < W1.heap.size := by
  refine ⟨_, rfl, (Ext.refl _).alloc _, fun W h => h.cell ?_, fun W h => h.cell ?_, fun W h => h.cell ?_, fun W h => h.cell ?_, by simp⟩ <;> simp [go_sem]

set_option maxHeartbeats 4000000 in
theorem value_may (k : Int) (i : Bool) (n : Int) (x : ByteArray) (w : World) (h0 : 0 ≤ k) (h1 : k ≤ 255) (hk : Knob w) :
    Calls Tryd.prog 37 #[.agg #[.int .u8 k, .bool i, .int .i64 n, .string x]] w fun e w' => e = .returned (.bool (En.may ⟨k, i, n, x⟩)) ∧ Ext w w' := by
  have HE : Hid (En.may ⟨k, i, n, x⟩ = if k = 1 then (i || decide (n = 0)) && x.toList.isEmpty else if k = 2 then !i && isExn x else decide (3 ≤ k) && (decide (k ≤ 6) && (!i && (decide (n = 0) && x.toList.isEmpty)))) := rfl
  have hc : k = 1 ∨ k = 2 ∨ k = 0 ∨ 6 < k ∨ (3 ≤ k ∧ k ≤ 6) := by omega
  rcases hc with rfl | rfl | hc | hc | ⟨hc, hc'⟩
  · have cO := quiet_ext (w := w.alloc (.cells #[.int .u8 1, .bool i, .int .i64 n, .string x] 23)) fun w1 _ => value_other w1
    have cI := quiet_ext (w := w.alloc (.cells #[.int .u8 1, .bool i, .int .i64 n, .string x] 23)) fun w1 _ => value_int n w1
    have E1 := fun w => eq_ends 1 1 i false n 0 x ByteArray.empty w
    have E2 := fun w => eq_ends 1 1 i true n n x ByteArray.empty w
    have bx := box_regrown w
    have HB1 : Hid (endB 1 1 i false n 0 x ByteArray.empty = (!i && (decide (n = 0) && x.toList.isEmpty))) := by
      show _ = _
      unfold endB
      rw [isEmpty_beq]
      cases i <;> simp <;> rfl
    have HB2 : Hid (endB 1 1 i true n n x ByteArray.empty = (i && x.toList.isEmpty)) := by
      show _ = _
      unfold endB
      rw [isEmpty_beq]
      cases i <;> simp
    generalize endB 1 1 i false n 0 x ByteArray.empty = b1 at *
    generalize endB 1 1 i true n n x ByteArray.empty = b2 at *
    cases b1
    all_goals
      go_enter Tryd.func37, Tryd.ntmps37
      go_wp2_with fail
      refine wp_region_quiet_below (by kernel_rfl) (by kernel_rfl) ?_
      repeat (go_big_quiet_step (first | exact cO _ _ | exact cI _ _))
      refine wpQuiet_nil ?_
      intro w1 hq_w1
      have x1 := ext_of_regrown hq_w1
      clear hq_w1
      go_wp2_with fail
      go_ret
      refine ⟨ret_bool ?_, by (repeat (first | exact Ext.refl _ | assumption | refine Ext.alloc ?_ _ | refine Ext.drew ?_ | refine Ext.setCell ?_ (by first | (simp; done) | (simp; omega) | omega) _ | refine Ext.trans ?_ (by assumption)))⟩
      rw [HE.out]
      have h1 := HB1.out
      have h2 := HB2.out
      try rw [h2]
      revert h1
      cases i <;> simp
  · have E1 := fun w => eq_ends 2 2 i false n n x x w
    have HB1 : Hid (endB 2 2 i false n n x x = !i) := by
      show _ = _
      unfold endB
      cases i <;> simp
    have KX := Lib.hid fun W a (h : Ext w W) hr => words_exn [x] W a 1 1 (by omega) (by omega) (hk.ext h) hr
    rw [show [x].all isExn = isExn x from by simp] at KX
    generalize isExn x = bx at *
    rw [HB1.out] at E1
    obtain ⟨W1, hW1, x1, m0, m1, m2, m3, hlt⟩ := endblk w 2 i n x
    cases i
    all_goals
      simp only [Bool.not_false, Bool.not_true] at E1
      go_enter Tryd.func37, Tryd.ntmps37
      go_wp2_with fail
      rw [← hW1]
      clear hW1
      refine wp_region_held_drew (S := fun w' => Ext W1 w') (by kernel_rfl) (by (try dsimp only); (repeat (first | exact Ext.refl _ | assumption | refine Ext.alloc ?_ _ | refine Ext.drew ?_ | refine Ext.setCell ?_ (by first | (simp; done) | (simp; omega) | omega) _ | refine Ext.trans ?_ (by assumption)))) (fun hHeld => ?_)
      refine held_take 0 (v := ?_) rfl (by kernel_rfl) (by kernel_rfl) (by kernel_rfl) (fun _ _ _ h => h) (by assumption) (by rfl) ?_ ?_; rotate_left; (focus (intro w hSw; (try dsimp only at hSw); go_simp; (try with_reducible rfl))); try simp only [Act.put, List.setIfInBounds_toArray, List.set_cons_zero, List.set_cons_succ]
      refine held_take 1 (v := ?_) rfl (by kernel_rfl) (by kernel_rfl) (by kernel_rfl) (fun _ _ _ h => h) (by assumption) (by rfl) ?_ ?_; rotate_left; (focus (intro w hSw; (try dsimp only at hSw); go_simp; (try with_reducible rfl))); try simp only [Act.put, List.setIfInBounds_toArray, List.set_cons_zero, List.set_cons_succ]
      refine held_take 2 (v := ?_) rfl (by kernel_rfl) (by kernel_rfl) (by kernel_rfl) (fun _ _ _ h => h) (by assumption) (by rfl) ?_ ?_; rotate_left; (focus (intro w hSw; (try dsimp only at hSw); go_simp; (try with_reducible rfl))); try simp only [Act.put, List.setIfInBounds_toArray, List.set_cons_zero, List.set_cons_succ]
      refine held_take 3 (v := ?_) rfl (by kernel_rfl) (by kernel_rfl) (by kernel_rfl) (fun _ _ _ h => h) (by assumption) (by rfl) ?_ ?_; rotate_left; (focus (intro w hSw; (try dsimp only at hSw); go_simp; (try with_reducible rfl))); try simp only [Act.put, List.setIfInBounds_toArray, List.set_cons_zero, List.set_cons_succ]
      refine held_take 4 (v := ?_) rfl (by kernel_rfl) (by kernel_rfl) (by kernel_rfl) (fun _ _ _ h => h) (by assumption) (by rfl) ?_ ?_; rotate_left; (focus (intro w hSw; (try dsimp only at hSw); go_simp; (try with_reducible rfl))); try simp only [Act.put, List.setIfInBounds_toArray, List.set_cons_zero, List.set_cons_succ]
      refine held_do 5 rfl (by kernel_rfl) (by rfl) (fun K hK => ?_); go_simp; (first | (go_at_call 22; refine (value_uncaught x n _).mono ?_; rintro e w2 ⟨rfl, x2⟩) | (go_at_call 70; refine (KX.out _ _ (x1.trans (by (repeat (first | exact Ext.refl _ | assumption | refine Ext.alloc ?_ _ | refine Ext.drew ?_ | refine Ext.setCell ?_ (by first | (simp; done) | (simp; omega) | omega) _ | refine Ext.trans ?_ (by assumption))))) (IsRow.new _ _ (vstr [x]))).mono ?_; rintro e w3 ⟨rfl, x3⟩)); (try (focus (go_wp2_with fail))); refine hK.out _ _ (by (try dsimp only); (repeat (first | exact Ext.refl _ | assumption | refine Ext.alloc ?_ _ | refine Ext.drew ?_ | refine Ext.setCell ?_ (by first | (simp; done) | (simp; omega) | omega) _ | refine Ext.trans ?_ (by assumption)))) (fun hHeld => ?_); clear hK K; try simp only [Act.put, List.setIfInBounds_toArray, List.set_cons_zero, List.set_cons_succ]
      refine held_take 6 (v := ?_) rfl (by kernel_rfl) (by kernel_rfl) (by kernel_rfl) (fun _ _ _ h => h) (by assumption) (by rfl) ?_ ?_; rotate_left; (focus (intro w hSw; (try dsimp only at hSw); go_simp; (try with_reducible rfl))); try simp only [Act.put, List.setIfInBounds_toArray, List.set_cons_zero, List.set_cons_succ]
      refine held_take 7 (v := ?_) rfl (by kernel_rfl) (by kernel_rfl) (by kernel_rfl) (fun _ _ _ h => h) (by assumption) (by rfl) ?_ ?_; rotate_left; (focus (intro w hSw; (try dsimp only at hSw); go_simp; (try with_reducible rfl))); try simp only [Act.put, List.setIfInBounds_toArray, List.set_cons_zero, List.set_cons_succ]
      first | (refine held_take 8 (v := ?_) rfl (by kernel_rfl) (by kernel_rfl) (by kernel_rfl) (fun _ _ _ h => h) (by assumption) (by rfl) ?_ ?_; rotate_left; (focus (intro w hSw; (try dsimp only at hSw); go_simp; (try with_reducible rfl))); try simp only [Act.put, List.setIfInBounds_toArray, List.set_cons_zero, List.set_cons_succ]) | (refine held_skip 8 rfl (by kernel_rfl) (by kernel_rfl) (by kernel_rfl) (fun _ _ _ h => h) (by assumption) (by rfl) ?_; try simp only [Act.put, List.setIfInBounds_toArray, List.set_cons_zero, List.set_cons_succ])
      first | (refine held_take 9 (v := ?_) rfl (by kernel_rfl) (by kernel_rfl) (by kernel_rfl) (fun _ _ _ h => h) (by assumption) (by rfl) ?_ ?_; rotate_left; (focus (intro w hSw; (try dsimp only at hSw); go_simp; (try with_reducible rfl))); try simp only [Act.put, List.setIfInBounds_toArray, List.set_cons_zero, List.set_cons_succ]) | (refine held_skip 9 rfl (by kernel_rfl) (by kernel_rfl) (by kernel_rfl) (fun _ _ _ h => h) (by assumption) (by rfl) ?_; try simp only [Act.put, List.setIfInBounds_toArray, List.set_cons_zero, List.set_cons_succ])
      first | (refine held_skip 10 rfl (by kernel_rfl) (by kernel_rfl) (by kernel_rfl) (fun _ _ _ h => h) (by assumption) (by rfl) ?_; try simp only [Act.put, List.setIfInBounds_toArray, List.set_cons_zero, List.set_cons_succ]) | (refine held_do 10 rfl (by kernel_rfl) (by rfl) (fun K hK => ?_); go_simp; refine hK.out _ _ (by (try dsimp only); (repeat (first | exact Ext.refl _ | assumption | refine Ext.alloc ?_ _ | refine Ext.drew ?_ | refine Ext.setCell ?_ (by first | (simp; done) | (simp; omega) | omega) _ | refine Ext.trans ?_ (by assumption)))) (fun hHeld => ?_); clear hK K; try simp only [Act.put, List.setIfInBounds_toArray, List.set_cons_zero, List.set_cons_succ])
      first | (refine held_skip 11 rfl (by kernel_rfl) (by kernel_rfl) (by kernel_rfl) (fun _ _ _ h => h) (by assumption) (by rfl) ?_; try simp only [Act.put, List.setIfInBounds_toArray, List.set_cons_zero, List.set_cons_succ]) | (refine held_do 11 rfl (by kernel_rfl) (by rfl) (fun K hK => ?_); go_simp; (first | (go_at_call 22; refine (value_uncaught x n _).mono ?_; rintro e w2 ⟨rfl, x2⟩) | (go_at_call 70; refine (KX.out _ _ (x1.trans (by (repeat (first | exact Ext.refl _ | assumption | refine Ext.alloc ?_ _ | refine Ext.drew ?_ | refine Ext.setCell ?_ (by first | (simp; done) | (simp; omega) | omega) _ | refine Ext.trans ?_ (by assumption))))) (IsRow.new _ _ (vstr [x]))).mono ?_; rintro e w3 ⟨rfl, x3⟩)); (try (focus (go_wp2_with fail))); refine hK.out _ _ (by (try dsimp only); (repeat (first | exact Ext.refl _ | assumption | refine Ext.alloc ?_ _ | refine Ext.drew ?_ | refine Ext.setCell ?_ (by first | (simp; done) | (simp; omega) | omega) _ | refine Ext.trans ?_ (by assumption)))) (fun hHeld => ?_); clear hK K; try simp only [Act.put, List.setIfInBounds_toArray, List.set_cons_zero, List.set_cons_succ])
      refine held_take 12 (v := ?_) rfl (by kernel_rfl) (by kernel_rfl) (by kernel_rfl) (fun _ _ _ h => h) (by assumption) (by rfl) ?_ ?_; rotate_left; (focus (intro w hSw; (try dsimp only at hSw); go_simp; (try with_reducible rfl))); try simp only [Act.put, List.setIfInBounds_toArray, List.set_cons_zero, List.set_cons_succ]
      refine held_take 13 (v := ?_) rfl (by kernel_rfl) (by kernel_rfl) (by kernel_rfl) (fun _ _ _ h => h) (by assumption) (by rfl) ?_ ?_; rotate_left; (focus (intro w hSw; (try dsimp only at hSw); go_simp; (try with_reducible rfl))); try simp only [Act.put, List.setIfInBounds_toArray, List.set_cons_zero, List.set_cons_succ]
      refine wpAnyH_done (by kernel_rfl) ?_ _
      go_wp2_with fail
      go_ret
      exact ⟨ret_bool (by rw [HE.out]; simp), x1.trans hHeld⟩
  · subst hc
    go_enter Tryd.func37, Tryd.ntmps37
    go_wp2_with fail
    go_ret
    exact ⟨ret_bool (by rw [HE.out]; simp), by (repeat (first | exact Ext.refl _ | assumption | refine Ext.alloc ?_ _ | refine Ext.drew ?_ | refine Ext.setCell ?_ (by first | (simp; done) | (simp; omega) | omega) _ | refine Ext.trans ?_ (by assumption)))⟩
  · have d1 : (k == 1) = false := beq_false_of_ne (by omega)
    have d2 : (k == 2) = false := beq_false_of_ne (by omega)
    have d3 : decide (3 ≤ k) = true := by simp; omega
    have d4 : decide (k ≤ 6) = false := by simp; omega
    go_enter Tryd.func37, Tryd.ntmps37
    go_wp2_with fail
    go_ret
    exact ⟨ret_bool (by rw [HE.out, if_neg (by omega), if_neg (by omega), d4]; simp), by (repeat (first | exact Ext.refl _ | assumption | refine Ext.alloc ?_ _ | refine Ext.drew ?_ | refine Ext.setCell ?_ (by first | (simp; done) | (simp; omega) | omega) _ | refine Ext.trans ?_ (by assumption)))⟩
  · have d1 : (k == 1) = false := beq_false_of_ne (by omega)
    have d2 : (k == 2) = false := beq_false_of_ne (by omega)
    have d3 : decide (3 ≤ k) = true := by simp; omega
    have d4 : decide (k ≤ 6) = true := by simp; omega
    have HN := Lib.hid (show k ≠ 1 ∧ k ≠ 2 from ⟨by omega, by omega⟩)
    clear hc hc'
    go_enter Tryd.func37, Tryd.ntmps37
    go_wp2_with fail
    all_goals
      go_ret
      refine ⟨ret_bool ?_, by (repeat (first | exact Ext.refl _ | assumption | refine Ext.alloc ?_ _ | refine Ext.drew ?_ | refine Ext.setCell ?_ (by first | (simp; done) | (simp; omega) | omega) _ | refine Ext.trans ?_ (by assumption)))⟩
      rw [HE.out, if_neg HN.out.1, if_neg HN.out.2, d3, d4]
      simp [*]

/-- The texts of ends that have nothing besides. -/
def fixedT : List ByteArray := [bs (tFixed 3), bs (tFixed 4), bs (tFixed 5), bs (tFixed 6)]
set_option maxHeartbeats 400000 in
theorem value_fixed (w : World) : Calls Tryd.prog 50 #[] w fun e w' => e = .returned (.slice (some ⟨w.heap.size, 0, none⟩) 4 4) ∧ Ext w w' ∧ IsRow w' (vstr fixedT) (some ⟨w.heap.size, 0, none⟩) 4 := by
  go_enter Tryd.func50, Tryd.ntmps50
  go_wp2_with fail
  go_ret
  exact ⟨rfl, by (repeat (first | exact Ext.refl _ | assumption | refine Ext.alloc ?_ _ | refine Ext.drew ?_ | refine Ext.setCell ?_ (by first | (simp; done) | (simp; omega) | omega) _ | refine Ext.trans ?_ (by assumption))), IsRow.new w _ (vstr fixedT)⟩
end Go.Proofs.YtmomahgedheekaaDoor

/- Part 36 of the proof: Term2; no condition of ours. -/
import Derived.Test.YtaioeailgknfjaaGreatDoorPkp2
import Derived.Test.YtaioeailgknfjaaGreatDoorPkp35
set_option linter.unusedVariables false
set_option linter.unusedSimpArgs false
namespace Go.Proofs.YtaioeailgknfjaaGreatDoor
open Go.Lib (hid)
open Go Go.RowKit Go.Sort
def shapeL : List (Int × ByteArray) := [(0, ⟨#[110]⟩), (0, ⟨#[109]⟩), (2, ⟨#[]⟩), (1, ⟨#[]⟩), (1, ⟨#[]⟩), (1, ⟨#[]⟩), (1, ⟨#[]⟩), (2, ⟨#[]⟩), (2, ⟨#[111]⟩), (2, ⟨#[]⟩), (1, ⟨#[97]⟩), (2, ⟨#[109]⟩), (2, ⟨#[109, 97]⟩), (3, ⟨#[]⟩), (1, ⟨#[101]⟩), (2, ⟨#[101, 97]⟩)]
def kidsOf (i : Nat) : Int := (shapeL.getD i (0, ⟨#[]⟩)).1
def fieldsOf (i : Nat) : ByteArray := (shapeL.getD i (0, ⟨#[]⟩)).2
theorem kids_karity (i : Nat) (h : i < 16) : kidsOf i = karity ((i : Int) + 1) := by
  have : ∀ i : Fin 16, kidsOf i.val = karity ((i.val : Int) + 1) := by decide +kernel
  exact this ⟨i, h⟩
theorem fields_o (i : Nat) (h : i < 16) : (il (fieldsOf i)).contains 111 = ((i : Int) + 1 == 9) := by
  have : ∀ i : Fin 16, (il (fieldsOf i.val)).contains 111 = ((i.val : Int) + 1 == 9) := by decide +kernel
  exact this ⟨i, h⟩
theorem fields_n (i : Nat) (h : i < 16) : (il (fieldsOf i)).contains 110 = ((i : Int) + 1 == 1) := by
  have : ∀ i : Fin 16, (il (fieldsOf i.val)).contains 110 = ((i.val : Int) + 1 == 1) := by decide +kernel
  exact this ⟨i, h⟩
theorem fields_m (i : Nat) (h : i < 16) : (il (fieldsOf i)).contains 109 = ((i : Int) + 1 == 2 || ((i : Int) + 1 == 12 || (i : Int) + 1 == 13)) := by
  have : ∀ i : Fin 16, (il (fieldsOf i.val)).contains 109 = ((i.val : Int) + 1 == 2 || ((i.val : Int) + 1 == 12 || (i.val : Int) + 1 == 13)) := by decide +kernel
  exact this ⟨i, h⟩
theorem fields_a (i : Nat) (h : i < 16) : (il (fieldsOf i)).contains 97 = ((i : Int) + 1 == 11 || ((i : Int) + 1 == 13 || (i : Int) + 1 == 16)) := by
  have : ∀ i : Fin 16, (il (fieldsOf i.val)).contains 97 = ((i.val : Int) + 1 == 11 || ((i.val : Int) + 1 == 13 || (i.val : Int) + 1 == 16)) := by decide +kernel
  exact this ⟨i, h⟩
theorem fields_e (i : Nat) (h : i < 16) : (il (fieldsOf i)).contains 101 = ((i : Int) + 1 == 15 || (i : Int) + 1 == 16) := by
  have : ∀ i : Fin 16, (il (fieldsOf i.val)).contains 101 = ((i.val : Int) + 1 == 15 || (i.val : Int) + 1 == 16) := by decide +kernel
  exact this ⟨i, h⟩
theorem fields_size (i : Nat) (h : i < 16) : (fieldsOf i).size ≤ 2 := by
  have : ∀ i : Fin 16, (fieldsOf i.val).size ≤ 2 := by decide +kernel
  exact this ⟨i, h⟩
set_option maxRecDepth 8000 in
set_option maxHeartbeats 1000000 in
theorem term_shapes (w : World) : Calls Tryz.prog 100 #[] w fun e w' => e = .returned (.slice (some ⟨w.heap.size, 0, none⟩) 16 16) ∧ Ext w w' ∧ ∀ i, i < 16 → w'.cell? ⟨w.heap.size, i * 2, none⟩ = some (.int .i64 (kidsOf i)) ∧ w'.cell? ⟨w.heap.size, i * 2 + 1, none⟩ = some (.string (fieldsOf i)) := by
  go_enter Tryz.func100, Tryz.ntmps100
  go_wp2_with fail
  go_ret
  refine ⟨rfl, (Ext.refl _).alloc _, ?_⟩
  intro i hi
  rw [World.cell?_alloc_new, World.cell?_alloc_new]
  have h16 : i = 0 ∨ i = 1 ∨ i = 2 ∨ i = 3 ∨ i = 4 ∨ i = 5 ∨ i = 6 ∨ i = 7 ∨ i = 8 ∨ i = 9 ∨ i = 10 ∨ i = 11 ∨ i = 12 ∨ i = 13 ∨ i = 14 ∨ i = 15 := by omega
  rcases h16 with rfl | rfl | rfl | rfl | rfl | rfl | rfl | rfl | rfl | rfl | rfl | rfl | rfl | rfl | rfl | rfl <;> exact ⟨rfl, rfl⟩
theorem row_string0 (w : World) (s : ByteArray) (cap : Nat) (t : TypeId) (fz : Nat × Nat) : IsRow (w.alloc (.cells (bytesRow s cap) t fz)).drew (vby (il s)) (some ⟨w.heap.size, 0, none⟩) s.size :=
  (IsRow.of_string w s cap t fz).ext (Ext.refl _).drew
set_option maxHeartbeats 1000000 in
theorem shape_has (kd c : Int) (s : ByteArray) (w : World) (hs : s.size ≤ 9223372036854775807) :
    Calls Tryz.prog 101 #[.agg #[.int .i64 kd, .string s], .int .u8 c] w fun e w' => e = .returned (.bool ((il s).contains c)) ∧ Ext w w' := by
  have hmax : s.size ≤ maxLen := hs
  have hcv := fun w => run_bytes_of_string (P := Tryz.prog) w 9 22 5 s Tryz.underlying9 Tryz.underlying22 Tryz.underlying5
  have hgc := fun W => And.intro (grownCap_ge W s.size 0 5) (grownCap_le_maxLen W s.size 0 5 hmax)
  have HG := hid hgc
  clear hgc hmax
  have KC := hid fun W a cap (h1 : s.size ≤ cap) (h2 : cap ≤ 9223372036854775807) (hr : IsRow W (vby (il s)) a s.size) => bytes_contains c (il s) W a s.size cap h1 h2 hr
  generalize (il s).contains c = r at *
  go_enter Tryz.func101, Tryz.ntmps101
  go_wp2_with fail
  have hr := row_string0 (w.alloc (.cells #[.int .i64 kd, .string s] 135)) s (grownCap (w.alloc (.cells #[.int .i64 kd, .string s] 135)) s.size 0 5) 5 ((bytesRow s (grownCap (w.alloc (.cells #[.int .i64 kd, .string s] 135)) s.size 0 5)).size, (bytesRow s (grownCap (w.alloc (.cells #[.int .i64 kd, .string s] 135)) s.size 0 5)).size + 1)
  rw [World.size_alloc] at hr
  refine (KC.out _ _ _ (HG.out _).1 (HG.out _).2 hr).mono ?_
  rintro e w1 ⟨rfl, x1⟩
  go_wp2_with fail
  go_ret
  exact ⟨rfl, ((((Ext.refl w).alloc _).alloc _).drew).trans x1⟩
set_option maxHeartbeats 1000000 in
theorem shape_field (kd c : Int) (s text : ByteArray) (p : ByteArray → Bool) (K : Nat) (eK : ∀ args w, (callFunc K args).run Tryz.prog w = .ok (.enter K args) w) (w : World) (hs : s.size ≤ 9223372036854775807)
    (hK : ∀ W a, Ext w W → IsRow W (vstr [text]) a 1 → Calls Tryz.prog K #[.slice a 1 1] W fun e w' => e = .returned (.bool (p text)) ∧ Ext W w') :
    Calls Tryz.prog 102 #[.agg #[.int .i64 kd, .string s], .int .u8 c, .string text, .func (.func K) #[] #[]] w fun e w' => e = .returned (.bool (fitB ((il s).contains c) text (p text))) ∧ Ext w w' := by
  have K1 := hid fun W => shape_has kd c s W hs
  have HK := hid hK
  clear hK
  cases hc : (il s).contains c
  · rw [hc] at K1
    clear hc
    by_cases hz : text = ByteArray.empty
    · have he : text.toList.isEmpty = true := by rw [hz, ByteArray.toList_eq]; rfl
      clear hz
      go_enter Tryz.func102, Tryz.ntmps102
      go_wp2_with (go_at_call 101; refine (K1.out _).mono ?_; rintro e w1 ⟨rfl, x1⟩)
      go_ret
      exact ⟨ret_bool (by simp [fitB, he]), ((Ext.refl w).alloc _).trans x1⟩
    · have he := not_empty_of hz
      clear hz
      go_enter Tryz.func102, Tryz.ntmps102
      go_wp2_with (go_at_call 101; refine (K1.out _).mono ?_; rintro e w1 ⟨rfl, x1⟩)
      go_ret
      exact ⟨ret_bool (by simp [fitB, he]), ((Ext.refl w).alloc _).trans x1⟩
  · rw [hc] at K1
    clear hc
    generalize p text = r at *
    go_enter Tryz.func102, Tryz.ntmps102
    go_wp2_with (go_at_call 101; refine (K1.out _).mono ?_; rintro e w1 ⟨rfl, x1⟩)
    have y1 := ((Ext.refl w).alloc (.cells #[.int .i64 kd, .string s] 135)).trans x1
    refine (HK.out _ _ (y1.alloc _) (IsRow.new w1 _ (vstr [text]))).mono ?_
    rintro e w2 ⟨rfl, x2⟩
    go_wp2_with fail
    go_ret
    exact ⟨ret_bool (by simp [fitB]), (y1.alloc _).trans x2⟩
end Go.Proofs.YtaioeailgknfjaaGreatDoor

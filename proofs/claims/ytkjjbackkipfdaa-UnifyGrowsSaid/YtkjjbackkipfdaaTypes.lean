/- The walks of package types: what the program's functions on types compute, but for texts. -/
import Derived.Test.YtkjjbackkipfdaaFind
import Derived.Test.YtkjjbackkipfdaaMem
import Derived.Test.YtkjjbackkipfdaaProg
import Derived.Shelf.Abstract
import Derived.Deep.DeepCutAuto
import Derived.Deep.CutBlock
import Derived.Deep.LoopGhost
namespace Go.Proofs.Ytkjjbackkipfdaa
open Go Go.RowKit Go.Sort

set_option maxHeartbeats 400000 in
theorem types_kids (k : Int) (w : World) (h0 : 0 ≤ k) (h1 : k ≤ 255) :
    Calls Try.prog 55 #[.int .u8 k] w fun e w' => e = .returned (.int .i64 (arity k)) ∧ Ext w w' := by
  have hc : k = 0 ∨ k = 1 ∨ k = 2 ∨ k = 3 ∨ k = 4 ∨ k = 5 ∨ 6 ≤ k := by omega
  rcases hc with rfl | rfl | rfl | rfl | rfl | rfl | hc
  all_goals
    go_enter Try.func55, Try.ntmps55
    go_wp2
    go_ret
    refine ⟨ret_int ?_, ?_⟩
  all_goals first
    | exact (Ext.refl _).alloc _
    | exact ((Ext.refl _).alloc _).setCell (Nat.le_refl _) _
    | (simp [arity]; done)
    | (unfold arity; repeat rw [if_neg (by omega)])

set_option maxHeartbeats 1000000 in
theorem types_node (t : Ty) (w : World) (v : Value) (ht : IsTy w t v) :
    Calls Try.prog 49 #[v] w fun e w' => e = .returned (.bool t.node) ∧ Ext w w' := by
  obtain ⟨k, n, l⟩ := t
  obtain ⟨a, len, cap, rfl, h1, h2, h3, h4, h5, h6, hl⟩ := ht.open_
  have HN : Hid (Ty.node (.mk k n l) = ((decide (arity k = len) && decide (0 ≤ n)) && (decide (n = 0) || decide (k = 5)))) := by
    show _ = _
    simp [Ty.node, hl.length]
  have cK := fun w1 => quiet_ext (w := w1) fun w2 _ => types_kids k w2 h3 h4
  generalize arity k = ar at *
  have bx := box_regrown w
  have cases : ((ar == (len : Int)) = false) ∨ ((ar == (len : Int)) = true ∧ decide (0 ≤ n) = false) ∨ ((ar == (len : Int)) = true ∧ decide (0 ≤ n) = true ∧ (n == 0) = true)
      ∨ ((ar == (len : Int)) = true ∧ decide (0 ≤ n) = true ∧ (n == 0) = false ∧ (k == 5) = true) ∨ ((ar == (len : Int)) = true ∧ decide (0 ≤ n) = true ∧ (n == 0) = false ∧ (k == 5) = false) := by
    by_cases A : ar = len <;> by_cases B : 0 ≤ n <;> by_cases C : n = 0 <;> by_cases D : k = 5 <;> simp [A, B, C, D]
  rcases cases with A | ⟨A, B⟩ | ⟨A, B, C⟩ | ⟨A, B, C, D⟩ | ⟨A, B, C, D⟩
  all_goals
    go_enter Try.func49, Try.ntmps49
    go_wp2_with fail
    refine wp_region_quiet_below (by kernel_rfl) (by kernel_rfl) ?_
    repeat (go_big_quiet_step (exact cK _ _ _))
    refine wpQuiet_nil ?_
    intro w1 hq_w1
    have x1 := ext_of_regrown hq_w1
    clear hq_w1
    go_wp2_with fail
    go_ret
    refine ⟨ret_bool ?_, ((Ext.refl _).alloc _).trans x1⟩
    rw [HN.out]
    simp only [beq_iff_eq, beq_eq_false_iff_ne, decide_eq_true_eq, decide_eq_false_iff_not, ne_eq] at *
    simp [*]
    try omega

/-- A slice of types is gone through by the closure of 'all'. -/
def Clo (q : Ty → Bool) (l : List Ty) (cv : Value) (w : World) : Prop :=
  ∀ w1, Ext w w1 → ∀ t v, t ∈ l → IsTy w1 t v → Calls Try.prog 54 #[v, cv] w1 fun e w' => e = .returned (.bool (q t)) ∧ Ext w1 w'

set_option maxHeartbeats 400000 in
theorem types_index (q : Ty → Bool) (l : List Ty) (cv : Value) (w : World) (a : Option Addr) (len cap : Nat) (h1 : len ≤ cap) (h2 : cap ≤ 9223372036854775807) (hl : IsTys w l a len) (hC : Clo q l cv w) :
    Calls Try.prog 56 #[.slice a len cap, .func (.func 54) #[] #[cv]] w fun e w' => e = .returned (.int .i64 (fidx q l)) ∧ Ext w w' := by
  have HL := Lib.hid hl.length
  have HC := Lib.hid hC
  clear hC
  go_enter Try.func56, Try.ntmps56
  go_wp2_with fail
  go_loopg [8] len (fun g i wr => ∃ j : Nat, g = len - j ∧ j ≤ len ∧ i = .int .i64 j ∧ (∀ t, t ∈ l.take j → q t = false) ∧ Ext w wr)
  case atStart => exact ⟨0, by omega, by omega, rfl, by simp, Ext.refl _⟩
  case round =>
    obtain ⟨j, rfl, hj, rfl, hto, hx⟩ := hrel
    have HT := Lib.hid hto
    clear hto
    by_cases hlt : j < len
    · obtain ⟨t, b, o, c0, c1, c2, g, rfl, q0, q1, q2, qt⟩ := hl.at3 hx hlt
      have G := Lib.hid g
      have hq := HC.out wr hx t _ (List.mem_of_getElem? g) qt
      have HQ := Lib.hid hq
      clear g hq
      go_wp2_with (go_at_call 54; refine (HQ.out).mono ?_; rintro e w1 ⟨rfl, x1⟩)
      · rename_i hr
        go_ret
        exact ⟨ret_int (fidx_at HT.out G.out hr).symm, hx.trans x1⟩
      · rename_i hr
        go_roundg (len - (j + 1))
        case rel =>
          refine ⟨j + 1, rfl, by omega, by go_num, ?_, hx.trans x1⟩
          intro y hy
          rw [List.take_add_one, G.out] at hy
          simp at hy
          rcases hy with hy | rfl
          · exact HT.out y hy
          · simpa using hr
        case measure => omega
    · obtain rfl : j = len := by omega
      go_wp2_with fail
      go_ret
      have h0 := HT.out
      rw [List.take_of_length_le (by rw [← HL.out]; omega)] at h0
      exact ⟨ret_int (fidx_none h0).symm, hx⟩

set_option maxHeartbeats 400000 in
theorem types_contains (q : Ty → Bool) (l : List Ty) (cv : Value) (w : World) (a : Option Addr) (len cap : Nat) (h1 : len ≤ cap) (h2 : cap ≤ 9223372036854775807) (hl : IsTys w l a len) (hC : Clo q l cv w) :
    Calls Try.prog 53 #[.slice a len cap, .func (.func 54) #[] #[cv]] w fun e w' => e = .returned (.bool (l.any q)) ∧ Ext w w' := by
  have HC := Lib.hid hC
  have HL := Lib.hid hl
  have HF := Lib.hid (fidx_nonneg q l)
  clear hC hl
  go_enter Try.func53, Try.ntmps53
  go_wp2_with (go_at_call 56; refine (types_index q l cv w a len cap h1 h2 HL.out HC.out).mono ?_; rintro e w1 ⟨rfl, x1⟩)
  go_ret
  exact ⟨ret_bool HF.out, x1⟩

theorem Ty.all_of (p : Ty → Bool) (l : List Ty) : (l.any fun t => !t.all p) = !Ty.alls p l := by
  induction l with
  | nil => simp [Ty.alls]
  | cons t l ih => simp [Ty.alls, ih]

set_option maxHeartbeats 400000 in
theorem types_all1 (p : Ty → Bool) (K : Nat) (eK : ∀ args w, (callFunc K args).run Try.prog w = .ok (.enter K args) w)
    (hp : ∀ w t v, IsTy w t v → Calls Try.prog K #[v] w fun e w' => e = .returned (.bool (p t)) ∧ Ext w w')
    (t : Ty) (w : World) (v : Value) (b : Nat) (hb : w.cell? ⟨b, 0, none⟩ = some (.func (.func K) #[] #[])) (ht : IsTy w t v)
    (ih : ∀ w a len cap, len ≤ cap → cap ≤ 9223372036854775807 → IsTys w t.kids a len → Calls Try.prog 48 #[.func (.func K) #[] #[], .slice a len cap] w fun e w' => e = .returned (.bool (Ty.alls p t.kids)) ∧ Ext w w') :
    Calls Try.prog 54 #[v, .pointer (some ⟨b, 0, none⟩)] w fun e w' => e = .returned (.bool (!t.all p)) ∧ Ext w w' := by
  have ht0 := ht
  obtain ⟨k, n, l⟩ := t
  obtain ⟨a, len, cap, rfl, h1, h2, h3, h4, h5, h6, hl⟩ := ht.open_
  simp only [Ty.kids] at ih
  have hbl := block_lt_of_cell hb
  simp at hbl
  have IH := Lib.hid ih
  have HP := Lib.hid hp
  clear ih hp
  cases hpt : p (.mk k n l)
  · have HPT := Lib.hid hpt
    clear hpt
    go_enter Try.func54, Try.ntmps54
    go_wp2_with fail
    refine (HP.out _ _ _ (ht0.ext ((Ext.refl _).alloc _))).mono ?_
    rintro e w1 ⟨rfl, x1⟩
    rw [HPT.out]
    go_wp2_with fail
    go_ret
    exact ⟨ret_bool (by simp [Ty.all, HPT.out]), ((Ext.refl _).alloc _).trans x1⟩
  · have HPT := Lib.hid hpt
    clear hpt
    go_enter Try.func54, Try.ntmps54
    go_wp2_with fail
    refine (HP.out _ _ _ (ht0.ext ((Ext.refl _).alloc _))).mono ?_
    rintro e w1 ⟨rfl, x1⟩
    rw [HPT.out]
    have q1 := x1.cell (p := ⟨b, 0, none⟩) (v := .func (.func K) #[] #[]) (((Ext.refl w).alloc _).cell hb)
    have q2 := x1.cell (p := ⟨w.heap.size, 2, none⟩) (v := .slice a len cap) (by simp)
    go_wp2_with (go_at_call 48; refine (IH.out _ _ _ _ h1 h2 (hl.ext (((Ext.refl _).alloc _).trans x1))).mono ?_; rintro e w2 ⟨rfl, x2⟩)
    go_ret
    exact ⟨ret_bool (by simp [Ty.all, HPT.out]), (((Ext.refl _).alloc _).trans x1).trans x2⟩

set_option maxHeartbeats 400000 in
theorem types_all (p : Ty → Bool) (K : Nat) (eK : ∀ args w, (callFunc K args).run Try.prog w = .ok (.enter K args) w)
    (hp : ∀ w t v, IsTy w t v → Calls Try.prog K #[v] w fun e w' => e = .returned (.bool (p t)) ∧ Ext w w') (m : Nat) :
    ∀ (l : List Ty) (w : World) (a : Option Addr) (len cap : Nat), Ty.sizes l ≤ m → len ≤ cap → cap ≤ 9223372036854775807 → IsTys w l a len →
    Calls Try.prog 48 #[.func (.func K) #[] #[], .slice a len cap] w fun e w' => e = .returned (.bool (Ty.alls p l)) ∧ Ext w w' := by
  have EK := Lib.hid eK
  have HP := Lib.hid hp
  clear eK hp
  induction m with
  | zero =>
    intro l w a len cap hm h1 h2 hl
    have hC : ∀ b W, Clo (fun t => !t.all p) l (.pointer (some ⟨b, 0, none⟩)) W := by
      intro b W w1 h1 t v ht _
      have := Ty.size_mem l t ht
      have := t.size_pos
      omega
    have HC := Lib.hid hC
    have HO := Lib.hid (Ty.all_of p l)
    clear hC
    go_enter Try.func48, Try.ntmps48
    go_wp2_with (go_at_call 53; refine (types_contains (fun t => !t.all p) l _ _ a len cap h1 h2 (hl.ext ((Ext.refl _).alloc _)) (HC.out _ _)).mono ?_; rintro e w1 ⟨rfl, x1⟩)
    go_ret
    exact ⟨ret_bool (by rw [HO.out]; simp), ((Ext.refl _).alloc _).trans x1⟩
  | succ m ih =>
    intro l w a len cap hm h1 h2 hl
    have hC : Clo (fun t => !t.all p) l (.pointer (some ⟨w.heap.size, 0, none⟩)) (w.alloc (.cells #[.func (.func K) #[] #[]] 52)) := by
      intro w1 hx t v ht hv
      refine types_all1 p K EK.out HP.out t w1 v w.heap.size (hx.cell (by simp)) hv fun w2 a2 len2 cap2 g1 g2 g3 => ih t.kids w2 a2 len2 cap2 ?_ g1 g2 g3
      have := Ty.size_mem l t ht
      obtain ⟨k, n, l'⟩ := t
      simp only [Ty.kids]
      simp only [Ty.size] at this
      omega
    have HC := Lib.hid hC
    have HO := Lib.hid (Ty.all_of p l)
    clear hC
    go_enter Try.func48, Try.ntmps48
    go_wp2_with (go_at_call 53; refine (types_contains (fun t => !t.all p) l _ _ a len cap h1 h2 (hl.ext ((Ext.refl _).alloc _)) HC.out).mono ?_; rintro e w1 ⟨rfl, x1⟩)
    go_ret
    exact ⟨ret_bool (by rw [HO.out]; simp), ((Ext.refl _).alloc _).trans x1⟩
end Go.Proofs.Ytkjjbackkipfdaa

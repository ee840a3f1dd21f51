/- The names that are bound in a kid: the walks of names.inner and enclaveref07.Bound; names.free, raises. -/
import Derived.Test.YtmomahgedheekaaDoorScope1
import Derived.Test.YtmomahgedheekaaDoorHeld
namespace Go.Proofs.YtmomahgedheekaaDoor
open Go Go.RowKit Go.Sort

theorem nm_owned_some {A : Nat → Prop} {w w' : World} {e : TypeId} {v : Value} {n : Nat} {bd : List ByteArray} (h : w'.ownsRow w.heap.size e 1 v n (vstr bd)) (hA : ∀ k, A k → k < w.heap.size) (hn : 0 < n) :
    ∃ p cap, v = .slice (some p) n cap ∧ Nm A w' bd (some p) n cap := by
  obtain ⟨a, cap, rfl, hN⟩ := nm_owned h hA
  cases a with
  | some p => exact ⟨p, cap, rfl, hN⟩
  | none => have := (hN.nil rfl).1; omega
/-- What hands back a row of names that isn't nil. -/
def RetNms (A : Nat → Prop) (bd : List ByteArray) (w : World) (e : Ending) (w' : World) : Prop := ∃ p n cap, e = .returned (.slice (some p) n cap) ∧ Nm A w' bd (some p) n cap ∧ Ext w w'

/-- A term's box. -/
def tbox (x : Hd) (a : Option Addr) (len cap : Nat) : Obj := .cells #[.int .u8 x.k, .int .u8 x.op, .int .i64 x.pos, .int .i64 x.n, .string x.name, .string x.arg, .string x.exn, .slice a len cap] 41
theorem row_one (w : World) (o : Obj) (s : ByteArray) : IsRow ((w.alloc o).alloc (.cells #[.string s] 9)) (vstr [s]) (some ⟨w.heap.size + 1, 0, none⟩) [s].length := by
  have h := IsRow.new (w.alloc o) 9 (vstr [s])
  rw [World.size_alloc] at h
  exact h
theorem row_two (w : World) (o : Obj) (s t : ByteArray) : IsRow ((w.alloc o).alloc (.cells #[.string s, .string t] 9)) (vstr [s, t]) (some ⟨w.heap.size + 1, 0, none⟩) [s, t].length := by
  have h := IsRow.new (w.alloc o) 9 (vstr [s, t])
  rw [World.size_alloc] at h
  exact h

set_option maxRecDepth 8000 in
set_option maxHeartbeats 4000000 in
theorem names_inner {A : Nat → Prop} (bd : List ByteArray) (kid : Nat) (x : Hd) (w : World) (a : Option Addr) (n cap : Nat) (ak : Option Addr) (lenk capk : Nat) (h : Nm A w bd a n cap) (hA : ∀ k, A k → k < w.heap.size) (hlen : bd.length + 2 ≤ 1000000) :
    Calls Tryd.prog 90 #[.slice a n cap, .agg #[.int .u8 x.k, .int .u8 x.op, .int .i64 x.pos, .int .i64 x.n, .string x.name, .string x.arg, .string x.exn, .slice ak lenk capk], .int .i64 (kid : Int)] w (RetNm A (bound x kid bd) w) := by
  have HB : Hid (bound x kid bd = if x.k = 11 ∨ (x.k = 16 ∧ kid = 1) then bd ++ [x.arg] else if (x.k = 12 ∨ x.k = 13) ∧ kid = 1 then bd ++ [x.name] else if x.k = 13 then bd ++ [x.name, x.arg] else bd) := rfl
  generalize hbx : bound x kid bd = out at *
  clear hbx
  obtain ⟨k, op, pos, num, name, arg, exn⟩ := x
  simp only at HB
  have K1 : Hid (∀ s : ByteArray, Calls Tryd.prog 121 #[.slice a n cap, .slice (some ⟨w.heap.size + 1, 0, none⟩) 1 1] ((w.alloc (.cells #[.int .u8 k, .int .u8 op, .int .i64 pos, .int .i64 num, .string name, .string arg, .string exn, .slice ak lenk capk] 41)).alloc (.cells #[.string s] 9)) (RetNm A (bd ++ [s]) ((w.alloc (.cells #[.int .u8 k, .int .u8 op, .int .i64 pos, .int .i64 num, .string name, .string arg, .string exn, .slice ak lenk capk] 41)).alloc (.cells #[.string s] 9)))) := Lib.hid fun s =>
    names_with bd [s] _ a n cap (w.heap.size + 1) 1 (h.ext (((Ext.refl w).alloc _).alloc _)) (fun k hk => by have := hA k hk; simp; omega) (row_one w _ s) (by simp) (by simp; omega)
  have K2 : Hid (∀ s t : ByteArray, Calls Tryd.prog 121 #[.slice a n cap, .slice (some ⟨w.heap.size + 1, 0, none⟩) 2 2] ((w.alloc (.cells #[.int .u8 k, .int .u8 op, .int .i64 pos, .int .i64 num, .string name, .string arg, .string exn, .slice ak lenk capk] 41)).alloc (.cells #[.string s, .string t] 9)) (RetNm A (bd ++ [s, t]) ((w.alloc (.cells #[.int .u8 k, .int .u8 op, .int .i64 pos, .int .i64 num, .string name, .string arg, .string exn, .slice ak lenk capk] 41)).alloc (.cells #[.string s, .string t] 9)))) := Lib.hid fun s t =>
    names_with bd [s, t] _ a n cap (w.heap.size + 1) 2 (h.ext (((Ext.refl w).alloc _).alloc _)) (fun k hk => by have := hA k hk; simp; omega) (row_two w _ s t) (by simp) (by simp; omega)
  have HN := Lib.hid h
  have hq : ((kid : Int) == 1) = decide (kid = 1) := by
    rw [Bool.eq_iff_iff]
    simp
    omega
  have cases : (k = 11) ∨ (k = 16) ∨ (k = 12) ∨ (k = 13) ∨ ((k == 11) = false ∧ (k == 16) = false ∧ (k == 12) = false ∧ (k == 13) = false) := by
    simp only [beq_eq_false_iff_ne]
    omega
  clear h hA hlen
  by_cases hk1 : kid = 1
  all_goals
    first
      | rw [decide_eq_true hk1] at hq
      | rw [decide_eq_false hk1] at hq
    have HK := Lib.hid hk1
    clear hk1
    rcases cases with rfl | rfl | rfl | rfl | ⟨d1, d2, d3, d4⟩
    all_goals
      go_enter Tryd.func90, Tryd.ntmps90
      go_wp2_with (go_at_call 121; (first | (with_reducible refine (K1.out _).mono ?_) | (with_reducible refine (K2.out _ _).mono ?_)); rintro e w1 ⟨a1, n1, c1, rfl, hn1, x1⟩; have HN1 := Lib.hid hn1; clear hn1)
      go_ret
      have hk := HK.out
      first
        | (refine ⟨a1, n1, c1, rfl, ?_, by (repeat (first | exact Ext.refl _ | assumption | refine Ext.alloc ?_ _ | refine Ext.drew ?_ | refine Ext.setCell ?_ (by first | (simp; done) | (simp; omega) | omega) _ | refine Ext.trans ?_ (by assumption)))⟩; rw [HB.out]; simp only [hk]; simpa using HN1.out)
        | (simp only [beq_eq_false_iff_ne, ne_eq] at d1 d2 d3 d4; refine ⟨a, n, cap, rfl, ?_, by (repeat (first | exact Ext.refl _ | assumption | refine Ext.alloc ?_ _ | refine Ext.drew ?_ | refine Ext.setCell ?_ (by first | (simp; done) | (simp; omega) | omega) _ | refine Ext.trans ?_ (by assumption)))⟩; rw [HB.out]; simp only [hk, d1, d2, d3, d4]; simpa using HN.out.ext ((Ext.refl w).alloc _))
        | (refine ⟨a, n, cap, rfl, ?_, by (repeat (first | exact Ext.refl _ | assumption | refine Ext.alloc ?_ _ | refine Ext.drew ?_ | refine Ext.setCell ?_ (by first | (simp; done) | (simp; omega) | omega) _ | refine Ext.trans ?_ (by assumption)))⟩; rw [HB.out]; simp only [hk]; simpa using HN.out.ext ((Ext.refl w).alloc _))
end Go.Proofs.YtmomahgedheekaaDoor

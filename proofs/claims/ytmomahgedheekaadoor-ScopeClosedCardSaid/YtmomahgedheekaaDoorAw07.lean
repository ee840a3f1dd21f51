/- The walk of the document's example of layer 7; whether a program is too great. -/
import Derived.Test.YtmomahgedheekaaDoorScope9
namespace Go.Proofs.YtmomahgedheekaaDoor
open Go Go.RowKit Go.Sort

def Yes7 (w : World) (e : Ending) (w' : World) : Prop := e = .returned (.bool true) ∧ Ext w w'
def hv7 (s : ByteArray) : Hd := ⟨2, 0, 0, 0, s, ⟨#[]⟩, ⟨#[]⟩⟩
def ha7 : Hd := ⟨10, 0, 0, 0, ⟨#[]⟩, ⟨#[]⟩, ⟨#[]⟩⟩
def hf7 : Hd := ⟨11, 0, 0, 0, ⟨#[]⟩, ⟨#[120]⟩, ⟨#[]⟩⟩
theorem fits_v7 (s : ByteArray) (h : s.size ≤ 9223372036854775807) : (hv7 s).Fits where
  k0 := by show (0 : Int) ≤ 2; omega
  k1 := by show (2 : Int) ≤ 255; omega
  op0 := by show (0 : Int) ≤ 0; omega
  op1 := by show (0 : Int) ≤ 255; omega
  pos0 := by show (-9223372036854775808 : Int) ≤ 0; omega
  pos1 := by show (0 : Int) ≤ 9223372036854775807; omega
  n0 := by show (-9223372036854775808 : Int) ≤ 0; omega
  n1 := by show (0 : Int) ≤ 9223372036854775807; omega
  name1 := h
  arg1 := by show (0 : Nat) ≤ 9223372036854775807; omega
  exn1 := by show (0 : Nat) ≤ 9223372036854775807; omega
theorem fits_a7 : ha7.Fits := by constructor <;> decide +kernel
theorem fits_f7 : hf7.Fits := by constructor <;> decide +kernel
def ta7 : Tm := .mk ha7 [.mk (hv7 ⟨#[121]⟩) [], .mk (hv7 ⟨#[120]⟩) []]
def tf7 : Tm := .mk hf7 [ta7]
theorem free_f7 : freesR [tf7] = [⟨#[121]⟩] := by decide +kernel
theorem closed_f7 : closedR tf7 [] = (0, 4) := by decide +kernel
set_option maxHeartbeats 1000000 in
theorem law07_v (s : ByteArray) (w : World) : Calls Tryd.prog 53 #[.string s] w fun e w' => e = .returned (.agg #[.int .u8 2, .int .u8 0, .int .i64 0, .int .i64 0, .string s, .string ⟨#[]⟩, .string ⟨#[]⟩, .slice none 0 0]) ∧ Ext w w' := by
  go_enter Tryd.func53, Tryd.ntmps53
  go_wp2_with fail
  exact bodyPost_ret (v := .agg #[.int .u8 2, .int .u8 0, .int .i64 0, .int .i64 0, .string s, .string ⟨#[]⟩, .string ⟨#[]⟩, .slice none 0 0]) (by simp [results, Tryd.results53, go_sem]) rfl ⟨rfl, (Ext.refl _).alloc _⟩
theorem two_terms (w : World) (T : TypeId) : IsTms (w.alloc (.cells #[.int .u8 2, .int .u8 0, .int .i64 0, .int .i64 0, .string ⟨#[121]⟩, .string ⟨#[]⟩, .string ⟨#[]⟩, .slice none 0 0, .int .u8 2, .int .u8 0, .int .i64 0, .int .i64 0, .string ⟨#[120]⟩, .string ⟨#[]⟩, .string ⟨#[]⟩, .slice none 0 0] T)) [.mk (hv7 ⟨#[121]⟩) [], .mk (hv7 ⟨#[120]⟩) []] (some ⟨w.heap.size, 0, none⟩) 2 :=
  IsTmsA.of_places [.mk (hv7 ⟨#[121]⟩) [], .mk (hv7 ⟨#[120]⟩) []] _ _ id fun i t g => by
    cases i with
    | zero =>
      simp at g
      subst g
      simp only [TmAt]
      exact ⟨⟨by rw [World.cell?_alloc_new]; rfl, by rw [World.cell?_alloc_new]; rfl, by rw [World.cell?_alloc_new]; rfl, by rw [World.cell?_alloc_new]; rfl, by rw [World.cell?_alloc_new]; rfl, by rw [World.cell?_alloc_new]; rfl, by rw [World.cell?_alloc_new]; rfl⟩, fits_v7 _ (by decide), none, 0, 0, by rw [World.cell?_alloc_new]; rfl, Nat.le_refl _, by unfold maxLen; omega, IsTmsA.nil _⟩
    | succ i =>
      cases i with
      | zero =>
        simp at g
        subst g
        simp only [TmAt]
        exact ⟨⟨by rw [World.cell?_alloc_new]; rfl, by rw [World.cell?_alloc_new]; rfl, by rw [World.cell?_alloc_new]; rfl, by rw [World.cell?_alloc_new]; rfl, by rw [World.cell?_alloc_new]; rfl, by rw [World.cell?_alloc_new]; rfl, by rw [World.cell?_alloc_new]; rfl⟩, fits_v7 _ (by decide), none, 0, 0, by rw [World.cell?_alloc_new]; rfl, Nat.le_refl _, by unfold maxLen; omega, IsTmsA.nil _⟩
      | succ i => simp at g
set_option maxRecDepth 8000 in
set_option maxHeartbeats 4000000 in
theorem law07_awake (w : World) (hkn : Knob w) : Calls Tryd.prog 25 #[] w (Yes7 w) := by
  have KV := Lib.hid law07_v
  have mk : ∀ W : World, Ext w W → ∃ W5, W5 = ((W.alloc (.cells #[.int .u8 2, .int .u8 0, .int .i64 0, .int .i64 0, .string ⟨#[121]⟩, .string ⟨#[]⟩, .string ⟨#[]⟩, .slice none 0 0, .int .u8 2, .int .u8 0, .int .i64 0, .int .i64 0, .string ⟨#[120]⟩, .string ⟨#[]⟩, .string ⟨#[]⟩, .slice none 0 0] 41)).alloc (.cells #[.int .u8 10, .int .u8 0, .int .i64 0, .int .i64 0, .string ⟨#[]⟩, .string ⟨#[]⟩, .string ⟨#[]⟩, .slice (some ⟨W.heap.size, 0, none⟩) 2 2] 41)).alloc (.cells #[.int .u8 11, .int .u8 0, .int .i64 0, .int .i64 0, .string ⟨#[]⟩, .string ⟨#[120]⟩, .string ⟨#[]⟩, .slice (some ⟨W.heap.size + 1, 0, none⟩) 1 1] 41) ∧
      Ext W W5 ∧ IsTms W5 [ta7] (some ⟨W.heap.size + 1, 0, none⟩) 1 ∧ W5.heap.size = W.heap.size + 3 ∧ (∀ i : Nat, W5.cell? ⟨W.heap.size + 1 + 1, i, none⟩ = (#[.int .u8 11, .int .u8 0, .int .i64 0, .int .i64 0, .string ⟨#[]⟩, .string ⟨#[120]⟩, .string ⟨#[]⟩, .slice (some ⟨W.heap.size + 1, 0, none⟩) 1 1] : Array Value)[i]?) := by
    intro W _
    refine ⟨_, rfl, (((Ext.refl _).alloc _).alloc _).alloc _, ?_, by simp, ?_⟩
    · have h := (IsTms.new (h := ha7) 41 (two_terms W 41) (Nat.le_refl 2) (by omega) fits_a7).ext ((Ext.refl _).alloc (.cells #[.int .u8 11, .int .u8 0, .int .i64 0, .int .i64 0, .string ⟨#[]⟩, .string ⟨#[120]⟩, .string ⟨#[]⟩, .slice (some ⟨W.heap.size + 1, 0, none⟩) 1 1] 41))
      rw [World.size_alloc] at h
      exact h
    · intro i
      have h := World.cell?_alloc_new ((W.alloc (.cells #[.int .u8 2, .int .u8 0, .int .i64 0, .int .i64 0, .string ⟨#[121]⟩, .string ⟨#[]⟩, .string ⟨#[]⟩, .slice none 0 0, .int .u8 2, .int .u8 0, .int .i64 0, .int .i64 0, .string ⟨#[120]⟩, .string ⟨#[]⟩, .string ⟨#[]⟩, .slice none 0 0] 41)).alloc (.cells #[.int .u8 10, .int .u8 0, .int .i64 0, .int .i64 0, .string ⟨#[]⟩, .string ⟨#[]⟩, .string ⟨#[]⟩, .slice (some ⟨W.heap.size, 0, none⟩) 2 2] 41)) (#[.int .u8 11, .int .u8 0, .int .i64 0, .int .i64 0, .string ⟨#[]⟩, .string ⟨#[120]⟩, .string ⟨#[]⟩, .slice (some ⟨W.heap.size + 1, 0, none⟩) 1 1]) 41 i
      rw [World.size_alloc, World.size_alloc] at h
      exact h
  have MK := Lib.hid mk
  have KN := Lib.hid hkn
  clear mk hkn
  go_enter Tryd.func25, Tryd.ntmps25
  go_wp2_with fail
  refine (KV.out _ _).mono ?_
  rintro e w1 ⟨rfl, x1⟩
  go_wp2_with fail
  refine (KV.out _ _).mono ?_
  rintro e w2 ⟨rfl, x2⟩
  obtain ⟨W5, hW5, x5, ht5, hs5, hc5⟩ := MK.out w2 (x1.trans x2)
  have d0 := hc5 0
  have d1 := hc5 1
  have d2 := hc5 2
  have d3 := hc5 3
  have d4 := hc5 4
  have d5 := hc5 5
  have d6 := hc5 6
  have d7 := hc5 7
  simp at d0 d1 d2 d3 d4 d5 d6 d7
  have XA := Lib.hid ((x1.trans x2).trans x5)
  have HT5 := Lib.hid ht5
  have KF : Hid (∀ n, n = W5.heap.size → Calls Tryd.prog 31 #[.slice (some ⟨n, 0, none⟩) 1 1] (W5.alloc (.cells #[.int .u8 11, .int .u8 0, .int .i64 0, .int .i64 0, .string ⟨#[]⟩, .string ⟨#[120]⟩, .string ⟨#[]⟩, .slice (some ⟨w2.heap.size + 1, 0, none⟩) 1 1] 41)) (RetStrs [⟨#[121]⟩] (W5.alloc (.cells #[.int .u8 11, .int .u8 0, .int .i64 0, .int .i64 0, .string ⟨#[]⟩, .string ⟨#[120]⟩, .string ⟨#[]⟩, .slice (some ⟨w2.heap.size + 1, 0, none⟩) 1 1] 41)))) := Lib.hid fun n hn => by
    subst hn
    have h := scope_free [tf7] (W5.alloc (.cells #[.int .u8 11, .int .u8 0, .int .i64 0, .int .i64 0, .string ⟨#[]⟩, .string ⟨#[120]⟩, .string ⟨#[]⟩, .slice (some ⟨w2.heap.size + 1, 0, none⟩) 1 1] 41)) (some ⟨W5.heap.size, 0, none⟩) 1 1 (by decide +kernel) (Nat.le_refl _) (by omega) (IsTms.new (h := hf7) 41 HT5.out (Nat.le_refl _) (by omega) fits_f7) (KN.out.ext (XA.out.trans ((Ext.refl _).alloc _)))
    rw [free_f7] at h
    exact h
  have HS5 := Lib.hid hs5
  have HW5 := Lib.hid hW5
  clear hW5 x5 ht5 hs5 hc5
  go_wp2_with fail
  rw [← HW5.out]
  refine (KF.out _ (by rw [HS5.out])).mono ?_
  rintro e w6 ⟨b6, n6, c6, rfl, g1, g2, g3, x6⟩
  have y6 : Ext W5 w6 := ((Ext.refl _).alloc _).trans x6
  obtain rfl : n6 = 1 := by simpa [vstr] using g3.1
  obtain ⟨s, b, o, e1, rfl, hq⟩ := IsRow.str (l := [⟨#[121]⟩]) g3 (j := 0) (by omega)
  simp at e1
  subst e1
  have e0 := y6.cell d0
  have e1 := y6.cell d1
  have e2 := y6.cell d2
  have e3 := y6.cell d3
  have e4 := y6.cell d4
  have e5 := y6.cell d5
  have e6 := y6.cell d6
  have e7 := y6.cell d7
  have KC := Lib.hid (scope_closed ⟨[], tf7⟩ w6 (pgval none 0 0 hf7 (some ⟨w2.heap.size + 1, 0, none⟩) 1 1) ⟨none, 0, 0, hf7, [ta7], some ⟨w2.heap.size + 1, 0, none⟩, 1, 1, rfl, rfl, Nat.le_refl _, by omega, ⟨IsFlat.nil _ _ _, by simp⟩, fits_f7, Nat.le_refl _, by omega, HT5.out.ext y6⟩ (by decide +kernel) (KN.out.ext (XA.out.trans y6)))
  rw [show closedR (Pg.body ⟨[], tf7⟩) (Pg.ps ⟨[], tf7⟩) = (0, 4) from closed_f7] at KC
  unfold pgval hf7 RetC at KC
  clear g3
  go_wp2_with fail
  refine (KC.out).mono ?_
  rintro e w7 ⟨rfl, x7⟩
  have hq7 := x7.cell hq
  simp only [Nat.add_zero] at hq7
  go_wp2_with fail
  go_ret
  exact ⟨rfl, XA.out.trans (y6.trans x7)⟩
end Go.Proofs.YtmomahgedheekaaDoor

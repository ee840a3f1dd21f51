/- The walks of types' texts. -/
import Derived.Test.YtopkjocdeolbmaaDoorDigits
import Derived.Test.YtopkjocdeolbmaaDoorTypes3
import Derived.Test.YtopkjocdeolbmaaDoorRef08
namespace Go.Proofs.YtopkjocdeolbmaaDoor
open Go Go.RowKit Go.Sort

mutual
theorem IsTyA.fit {A : Nat → Prop} {w : World} : ∀ {t : Ty} {v : Value}, IsTyA A w t v → t.fit
  | .mk k n l, v, h => by
    simp only [IsTyA] at h
    obtain ⟨a, len, cap, e, h1, h2, h3, h4, h5, h6, hl⟩ := h
    simp only [Ty.fit]
    exact ⟨⟨h5, h6⟩, IsTysA.fit hl⟩
theorem IsTysA.fit {A : Nat → Prop} {w : World} : ∀ {l : List Ty} {a : Option Addr} {len : Nat}, IsTysA A w l a len → Ty.fitss l
  | [], a, len, h => by simp [Ty.fitss]
  | t :: l, a, len, h => by
    simp only [IsTysA] at h
    obtain ⟨h0, ad, c0, c1, c2, e, ha, g0, g1, g2, gt, hl⟩ := h
    simp only [Ty.fitss]
    exact ⟨IsTyA.fit gt, IsTysA.fit hl⟩
end
theorem str_add (a b : List UInt8) : (bs a).data ++ (bs b).data = (bs (a ++ b)).data := by simp [bs]

/-- What the text of a kid is, as a contract. -/
def TextIs (f : FuncId) (t : Ty) (s : List UInt8) (w : World) (v : Value) : Prop := ∀ W, Ext w W → Calls Tryd.prog f #[v] W fun e w' => e = .returned (.string (bs s)) ∧ Ext W w'

set_option maxHeartbeats 400000 in
theorem types_tight (t : Ty) (w : World) (v : Value) (ht : IsTy w t v) (hs : t.size ≤ 100000) (hT : TextIs 27 t t.text w v) : TextIs 35 t (tightOf t.kind t.text) w v := by
  intro W hW
  have hlen := Ty.text_length t ht.fit
  have HT := Lib.hid fun W' (h : Ext W W') => hT W' (hW.trans h)
  replace ht := ht.ext hW
  clear hT
  have hd : ((bs t.text).size : Int) ≤ 10000000 := by rw [bs_size]; omega
  obtain ⟨S, hS⟩ : ∃ S, S = bs t.text := ⟨_, rfl⟩
  rw [← hS] at hd
  have hn1 : 2 + S.size ≤ 9223372036854775807 := by omega
  have hn2 : 2 + S.size + 2 ≤ 9223372036854775807 := by omega
  have HS := Lib.hid hS
  rw [← hS] at HT
  clear hS
  obtain ⟨k, n, l⟩ := t
  obtain ⟨a, len, cap, rfl, h1, h2, h3, h4, h5, h6, hl⟩ := ht.open_
  by_cases hk : k = 4
  · subst hk
    go_enter Tryd.func35, Tryd.ntmps35
    go_wp2_with (go_at_call 27; refine (HT.out _ ((Ext.refl _).alloc _)).mono ?_; rintro e w1 ⟨rfl, x1⟩)
    go_ret
    refine ⟨?_, ((Ext.refl _).alloc _).trans x1⟩
    simp only [Ty.kind, tightOf, if_true]
    rw [← bs_append, ← bs_append, ← HS.out]
    rfl
  · have hb : (k == 4) = false := by simpa using hk
    have HK := Lib.hid hk
    clear hk
    go_enter Tryd.func35, Tryd.ntmps35
    go_wp2_with (go_at_call 27; refine (HT.out _ ((Ext.refl _).alloc _)).mono ?_; rintro e w1 ⟨rfl, x1⟩)
    go_ret
    refine ⟨?_, ((Ext.refl _).alloc _).trans x1⟩
    show _ = Ending.returned (.string (bs (tightOf k (Ty.mk k n l).text)))
    unfold tightOf
    rw [if_neg HK.out, ← HS.out]
    rfl

/-- A pair's text, joined. -/
theorem join_pair (s t : List UInt8) (w : World) (hs : s.length ≤ 10000000) (ht : t.length ≤ 10000000) :
    Calls Tryd.prog 34 #[.slice (some ⟨w.heap.size, 0, none⟩) 5 5, .string ⟨#[32]⟩] (w.alloc (.cells #[.string ⟨#[40]⟩, .string (bs s), .string ⟨#[42]⟩, .string (bs t), .string ⟨#[41]⟩] 9)) fun e w' =>
      e = .returned (.string (bs ([40, 32] ++ s ++ [32, 42, 32] ++ t ++ [32, 41]))) ∧ Ext (w.alloc (.cells #[.string ⟨#[40]⟩, .string (bs s), .string ⟨#[42]⟩, .string (bs t), .string ⟨#[41]⟩] 9)) w' := by
  have e0 : Lib.join ([⟨#[40]⟩, bs s, ⟨#[42]⟩, bs t, ⟨#[41]⟩].map (·.data.toList)) (ByteArray.data ⟨#[32]⟩).toList = [40, 32] ++ s ++ [32, 42, 32] ++ t ++ [32, 41] := by
    simp only [List.map_cons, List.map_nil, bs_list]
    rw [join5]
    simp
  refine (Tryd.strings_Join w.heap.size 0 5 [⟨#[40]⟩, bs s, ⟨#[42]⟩, bs t, ⟨#[41]⟩] ⟨#[32]⟩ _ ?_ (by simp) (by simp) (by simp) (by rw [e0]; simp; omega)).mono ?_
  · intro j x hj
    match j, hj with
    | 0, hj => simp at hj; subst hj; simp [go_sem]
    | 1, hj => simp at hj; subst hj; simp [go_sem]
    | 2, hj => simp at hj; subst hj; simp [go_sem]
    | 3, hj => simp at hj; subst hj; simp [go_sem]
    | 4, hj => simp at hj; subst hj; simp [go_sem]
  · rintro e w' ⟨rfl, hb⟩
    exact ⟨by rw [e0]; rfl, hb⟩

set_option maxHeartbeats 2000000 in
theorem types_text (m : Nat) : ∀ (t : Ty) (w : World) (v : Value), t.size ≤ m → t.size ≤ 100000 → t.may = true → IsTy w t v → Tab w →
    Calls Tryd.prog 27 #[v] w fun e w' => e = .returned (.string (bs t.text)) ∧ Ext w w' := by
  induction m with
  | zero => intro t w v h; have := t.size_pos; omega
  | succ m ih =>
    intro t w v hm hs hmay ht htab
    obtain ⟨k, n, l⟩ := t
    obtain ⟨a, len, cap, rfl, h1, h2, h3, h4, h5, h6, hl⟩ := ht.open_
    have hlen := hl.length
    simp only [Ty.size] at hm hs
    rcases Ty.may_cases hmay with ⟨rfl, rfl⟩ | ⟨x, y, rfl, rfl, hx, hy⟩ | ⟨x, rfl, rfl, hx⟩ | ⟨x, y, rfl, rfl, hx, hy⟩ | ⟨rfl, rfl, hn⟩
    · go_enter Tryd.func27, Tryd.ntmps27
      go_wp2_with fail
      go_ret
      exact ⟨rfl, (Ext.refl _).alloc _⟩
    · simp at hlen
      subst hlen
      obtain ⟨b, o, c0, c1, c2, rfl, q0, q1, q2, qt, _⟩ := hl.at_ (i := 0) (t := x) rfl
      obtain ⟨b', o', d0, d1, d2, e', r0, r1, r2, rt, _⟩ := hl.at_ (i := 1) (t := y) rfl
      simp at e'
      obtain ⟨rfl, rfl⟩ := e'
      simp at q0 q1 q2 r0 r1 r2
      have u0 := block_lt_of_cell q0
      simp at u0
      simp [Ty.sizes] at hm hs
      have hlx := Ty.text_length x qt.fit
      have hly := Ty.text_length y rt.fit
      have KX : TextIs 27 x x.text w (.agg #[c0, c1, c2]) := fun W hW => ih x W _ (by omega) (by omega) hx (qt.ext hW) (htab.ext hW)
      have KY : TextIs 27 y y.text w (.agg #[d0, d1, d2]) := fun W hW => ih y W _ (by omega) (by omega) hy (rt.ext hW) (htab.ext hW)
      unfold TextIs at KX KY
      have KX := Lib.hid KX
      have KY := Lib.hid KY
      obtain ⟨W0, hW0⟩ : ∃ W0, W0 = w.alloc (.cells #[.int .u8 2, .int .i64 n, .slice (some ⟨b, o, none⟩) 2 cap] 25) := ⟨_, rfl⟩
      have x0 : Ext w W0 := by rw [hW0]; exact (Ext.refl _).alloc _
      have k0 := fun W (h : Ext W0 W) => (x0.trans h).cell q0
      have k1 := fun W (h : Ext W0 W) => (x0.trans h).cell q1
      have k2 := fun W (h : Ext W0 W) => (x0.trans h).cell q2
      have k3 := fun W (h : Ext W0 W) => (x0.trans h).cell r0
      have k4 := fun W (h : Ext W0 W) => (x0.trans h).cell r1
      have k5 := fun W (h : Ext W0 W) => (x0.trans h).cell r2
      have kb := fun W (h : Ext W0 W) => h.cell (p := ⟨w.heap.size, 2, none⟩) (v := .slice (some ⟨b, o, none⟩) 2 cap) (by rw [hW0]; simp [go_sem])
      clear ih q0 q1 q2 r0 r1 r2 qt rt hl ht
      have HJ := Lib.hid fun W => join_pair x.text y.text W (by omega) (by omega)
      have HW := Lib.hid hW0
      go_enter Tryd.func27, Tryd.ntmps27
      go_wp2_with fail
      rw [← HW.out]
      clear HW hW0
      have m0 : (0 : Int) < 2 := by omega
      have m1 : (1 : Int) < 2 := by omega
      go_region_held3 (fun w' => Ext W0 w') ((repeat (first | exact Ext.refl _ | assumption | refine Ext.alloc ?_ _ | refine Ext.drew ?_ | refine Ext.setCell ?_ (by first | (simp; done) | (simp; omega) | omega) _ | refine Ext.trans ?_ (by assumption)))) ((first | (go_at_call 27; (with_reducible refine (KX.out _ (x0.trans (by assumption))).mono ?_); rintro e w1 ⟨rfl, x1⟩) | (go_at_call 27; (with_reducible refine (KY.out _ (x0.trans (by assumption))).mono ?_); rintro e w2 ⟨rfl, x2⟩) | (go_at_call 34; refine (HJ.out _).mono ?_; rintro e w3 ⟨rfl, x3⟩)))
      rename_i hfin
      clear k0 k1 k2 k3 k4 k5 kb
      go_wp2_with fail
      go_ret
      exact ⟨congrArg (fun l => Ending.returned (.string (bs l))) (by simp [Ty.text, Ty.texts, txt]), x0.trans hfin⟩
    · simp at hlen
      subst hlen
      obtain ⟨b, o, c0, c1, c2, rfl, q0, q1, q2, qt, _⟩ := hl.at_ (i := 0) (t := x) rfl
      simp at q0 q1 q2
      have u0 := block_lt_of_cell q0
      simp at u0
      simp [Ty.sizes] at hm hs
      have hlx := Ty.text_length x qt.fit
      have hlt := tightOf_length x.kind x.text
      have hT := types_tight x w _ qt (by omega) fun W hW => ih x W _ (by omega) (by omega) hx (qt.ext hW) (htab.ext hW)
      have HT := Lib.hid hT
      obtain ⟨S, hS⟩ : ∃ S, S = bs (tightOf x.kind x.text) := ⟨_, rfl⟩
      have hn1 : 4 + S.size ≤ 9223372036854775807 := by rw [hS, bs_size]; omega
      unfold TextIs at HT
      rw [← hS] at HT
      have HS := Lib.hid hS
      clear hS hT ih
      go_enter Tryd.func27, Tryd.ntmps27
      go_wp2_with (go_at_call 35; refine (HT.out _ ((Ext.refl _).alloc _)).mono ?_; rintro e w1 ⟨rfl, x1⟩)
      go_ret
      refine ⟨?_, ((Ext.refl _).alloc _).trans x1⟩
      show _ = Ending.returned (.string (bs ([114, 101, 102, 32] ++ tightOf x.kind x.text)))
      rw [← bs_append, ← HS.out]
      rfl
    · simp at hlen
      subst hlen
      obtain ⟨b, o, c0, c1, c2, rfl, q0, q1, q2, qt, _⟩ := hl.at_ (i := 0) (t := x) rfl
      obtain ⟨b', o', d0, d1, d2, e', r0, r1, r2, rt, _⟩ := hl.at_ (i := 1) (t := y) rfl
      simp at e'
      obtain ⟨rfl, rfl⟩ := e'
      simp at q0 q1 q2 r0 r1 r2
      have u0 := block_lt_of_cell q0
      simp at u0
      simp [Ty.sizes] at hm hs
      have hlx := Ty.text_length x qt.fit
      have hly := Ty.text_length y rt.fit
      have KX : TextIs 27 x x.text w (.agg #[c0, c1, c2]) := fun W hW => ih x W _ (by omega) (by omega) hx (qt.ext hW) (htab.ext hW)
      have KY : TextIs 27 y y.text w (.agg #[d0, d1, d2]) := fun W hW => ih y W _ (by omega) (by omega) hy (rt.ext hW) (htab.ext hW)
      have KX := types_tight x w _ qt (by omega) KX
      unfold TextIs at KX KY
      have hlt := tightOf_length x.kind x.text
      obtain ⟨S, hS⟩ : ∃ S, S = bs (tightOf x.kind x.text) := ⟨_, rfl⟩
      have hn1 : ¬ 9223372036854775807 < S.size + 4 := by rw [hS, bs_size]; omega
      obtain ⟨S2, hS2⟩ : ∃ S, S = bs y.text := ⟨_, rfl⟩
      have hn2 : ¬ 9223372036854775807 < S.size + 4 + S2.size := by rw [hS, hS2, bs_size, bs_size]; omega
      rw [← hS] at KX
      rw [← hS2] at KY
      have HS := Lib.hid hS
      have HS2 := Lib.hid hS2
      clear hS hS2
      have KX := Lib.hid KX
      have KY := Lib.hid KY
      obtain ⟨W0, hW0⟩ : ∃ W0, W0 = w.alloc (.cells #[.int .u8 4, .int .i64 n, .slice (some ⟨b, o, none⟩) 2 cap] 25) := ⟨_, rfl⟩
      have x0 : Ext w W0 := by rw [hW0]; exact (Ext.refl _).alloc _
      have k0 := fun W (h : Ext W0 W) => (x0.trans h).cell q0
      have k1 := fun W (h : Ext W0 W) => (x0.trans h).cell q1
      have k2 := fun W (h : Ext W0 W) => (x0.trans h).cell q2
      have k3 := fun W (h : Ext W0 W) => (x0.trans h).cell r0
      have k4 := fun W (h : Ext W0 W) => (x0.trans h).cell r1
      have k5 := fun W (h : Ext W0 W) => (x0.trans h).cell r2
      have kb := fun W (h : Ext W0 W) => h.cell (p := ⟨w.heap.size, 2, none⟩) (v := .slice (some ⟨b, o, none⟩) 2 cap) (by rw [hW0]; simp [go_sem])
      clear ih q0 q1 q2 r0 r1 r2 qt rt hl ht
      have HW := Lib.hid hW0
      go_enter Tryd.func27, Tryd.ntmps27
      go_wp2_with fail
      rw [← HW.out]
      clear HW hW0
      have m0 : (0 : Int) < 2 := by omega
      have m1 : (1 : Int) < 2 := by omega
      go_region_held3 (fun w' => Ext W0 w') ((repeat (first | exact Ext.refl _ | assumption | refine Ext.alloc ?_ _ | refine Ext.drew ?_ | refine Ext.setCell ?_ (by first | (simp; done) | (simp; omega) | omega) _ | refine Ext.trans ?_ (by assumption)))) ((first | (go_at_call 35; (with_reducible refine (KX.out _ (x0.trans (by assumption))).mono ?_); rintro e w1 ⟨rfl, x1⟩) | (go_at_call 27; (with_reducible refine (KY.out _ (x0.trans (by assumption))).mono ?_); rintro e w2 ⟨rfl, x2⟩)))
      rename_i hfin
      clear k0 k1 k2 k3 k4 k5 kb
      go_wp2_with fail
      go_ret
      refine ⟨?_, x0.trans hfin⟩
      show _ = Ending.returned (.string (bs (tightOf x.kind x.text ++ [32, 45, 62, 32] ++ y.text)))
      rw [← bs_append, ← bs_append, ← HS.out, ← HS2.out]
      rfl
    · have hlx := Lib.itoa_length_le n h5 h6
      have HD := Lib.hid fun W (h : Ext w W) => words_digits n W h5 h6 (htab.ext h)
      obtain ⟨S, hS⟩ : ∃ S, S = bs (Lib.itoa n) := ⟨_, rfl⟩
      have hn1 : 1 + S.size ≤ 9223372036854775807 := by rw [hS, bs_size]; omega
      rw [← hS] at HD
      have HS := Lib.hid hS
      clear hS ih
      go_enter Tryd.func27, Tryd.ntmps27
      go_wp2_with (go_at_call 36; refine (HD.out _ ((Ext.refl _).alloc _)).mono ?_; rintro e w1 ⟨rfl, x1⟩)
      go_ret
      refine ⟨?_, ((Ext.refl _).alloc _).trans x1⟩
      show _ = Ending.returned (.string (bs ([63] ++ Lib.itoa n)))
      rw [← bs_append, ← HS.out]
      rfl
end Go.Proofs.YtopkjocdeolbmaaDoor

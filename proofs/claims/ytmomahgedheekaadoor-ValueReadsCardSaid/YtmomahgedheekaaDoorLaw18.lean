/- The walks of the laws ValueMakes and ValueApart. -/
import Derived.Test.YtmomahgedheekaaDoorValue3
namespace Go.Proofs.YtmomahgedheekaaDoor
open Go Go.RowKit Go.Sort

/-- A law answers true. -/
def Yes (w : World) (e : Ending) (w' : World) : Prop := e = .returned (.bool true) ∧ Ext w w'
theorem any_take {l : List En} {j : Nat} {e : En} (h : l[j]? = some e) : (l.take (j + 1)).any notDone = ((l.take j).any notDone || notDone e) := by
  rw [List.take_add_one, h]
  simp
set_option maxHeartbeats 4000000 in
theorem law_valueMakes (n : Int) (x : ByteArray) (l : List En) (w : World) (a : Option Addr) (len cap : Nat) (hn : -9223372036854775808 ≤ n) (hn' : n ≤ 9223372036854775807) (hx : x.size ≤ 9223372036854775807) (h1 : len ≤ cap) (h2 : cap ≤ 9223372036854775807) (hl : IsEnds w l a len) (hk : Knob w) (ht : Tab w) :
    Calls Tryd.prog 4 #[.int .i64 n, .string x, .slice a len cap] w (Yes w) := by
  have KA := Lib.hid fun W (h : Ext w W) => law18_awake W (hk.ext h) (ht.ext h)
  clear hn hn' hk ht
  have great : (decide ((100 : Int) < x.size) = true) ∨ (decide ((100 : Int) < x.size) = false ∧ decide ((50 : Int) < len) = true) ∨ (decide ((100 : Int) < x.size) = false ∧ decide ((50 : Int) < len) = false) := by
    cases decide ((100 : Int) < x.size) <;> cases decide ((50 : Int) < len) <;> simp
  rcases great with hg | ⟨hg, hg'⟩ | ⟨hg, hg'⟩
  case inl =>
    go_enter Tryd.func4, Tryd.ntmps4
    go_wp2_with (go_at_call 18; refine (KA.out _ (Ext.refl _)).mono ?_; rintro e w1 ⟨rfl, x1⟩)
    go_ret
    exact ⟨rfl, x1⟩
  case inr.inl =>
    go_enter Tryd.func4, Tryd.ntmps4
    go_wp2_with (go_at_call 18; refine (KA.out _ (Ext.refl _)).mono ?_; rintro e w1 ⟨rfl, x1⟩)
    go_ret
    exact ⟨rfl, x1⟩
  case inr.inr =>
    have HLL := Lib.hid hl.length
    have HL := Lib.hid hl
    clear hl
    go_enter Tryd.func4, Tryd.ntmps4
    go_wp2_with fail
    go_loopg [7, 8] len (fun g d i wr => ∃ j : Nat, g = len - j ∧ j ≤ len ∧ i = .int .i64 j ∧ d = .bool (!(l.take j).any notDone) ∧ wr = w)
    case atStart => exact ⟨0, by omega, by omega, rfl, by simp, rfl⟩
    case round =>
      obtain ⟨j, rfl, hj, rfl, rfl, rfl⟩ := hrel
      by_cases hlt : j < len
      · obtain ⟨⟨k, i, m, y⟩, b, o, g, hf, rfl, q0, q1, q2, q3⟩ := HL.out.at4 hlt
        have HS := Lib.hid (any_take g)
        have HQ : Hid (notDone ⟨k, i, m, y⟩ = (!(k == 1) && !(k == 2))) := rfl
        clear g hf
        simp only at q0 q1 q2 q3
        generalize (l.take j).any notDone = d at *
        cases d
        · cases e1 : (k == 1)
          · cases e2 : (k == 2)
            all_goals
              rw [e1, e2] at HQ
              go_wp2_with fail
              go_roundg (len - (j + 1))
              case rel => exact ⟨j + 1, rfl, by omega, by go_num, by rw [HS.out, HQ.out]; rfl, rfl⟩
              case measure => omega
          · rw [e1] at HQ
            go_wp2_with fail
            go_roundg (len - (j + 1))
            case rel => exact ⟨j + 1, rfl, by omega, by go_num, by rw [HS.out, HQ.out]; rfl, rfl⟩
            case measure => omega
        · go_wp2_with fail
          go_roundg (len - (j + 1))
          case rel => exact ⟨j + 1, rfl, by omega, by go_num, by rw [HS.out]; rfl, rfl⟩
          case measure => omega
      · obtain rfl : j = len := by omega
        have KD := Lib.hid fun W (h : Ext wr W) => value_done l W a j cap h1 h2 (HL.out.ext h)
        rw [← show l.take j = l from List.take_of_length_le (by rw [← HLL.out]; omega)] at KD
        generalize (l.take j).any notDone = d at *
        cases d
        all_goals
          go_wp2_with (first | (go_at_call 20; refine (value_int _ _).mono ?_; rintro e w1 ⟨rfl, x1⟩) | (go_at_call 21; refine (value_other _).mono ?_; rintro e w2 ⟨rfl, x2⟩) | (go_at_call 22; refine (value_uncaught _ _ _).mono ?_; rintro e w3 ⟨rfl, x3⟩) | (go_at_call 23; refine (KD.out _ (by (repeat (first | exact Ext.refl _ | assumption | refine Ext.alloc ?_ _ | refine Ext.drew ?_ | refine Ext.setCell ?_ (by first | (simp; done) | (simp; omega) | omega) _ | refine Ext.trans ?_ (by assumption))))).mono ?_; rintro e w4 ⟨rfl, x4⟩) | (go_at_call 18; refine (KA.out _ (by (repeat (first | exact Ext.refl _ | assumption | refine Ext.alloc ?_ _ | refine Ext.drew ?_ | refine Ext.setCell ?_ (by first | (simp; done) | (simp; omega) | omega) _ | refine Ext.trans ?_ (by assumption))))).mono ?_; rintro e w5 ⟨rfl, x5⟩))
          go_ret
          exact ⟨rfl, by (repeat (first | exact Ext.refl _ | assumption | refine Ext.alloc ?_ _ | refine Ext.drew ?_ | refine Ext.setCell ?_ (by first | (simp; done) | (simp; omega) | omega) _ | refine Ext.trans ?_ (by assumption)))⟩

theorem same_text (a b : En) (ha : a.may = true) (hb : b.may = true) : ((bs a.text).toList == (bs b.text).toList) = endB a.k b.k a.isInt b.isInt a.n b.n a.exn b.exn := by
  rw [Bool.eq_iff_iff, beq_iff_eq]
  unfold endB
  simp only [Bool.and_eq_true, beq_iff_eq]
  constructor
  · intro h
    have : a.text = b.text := by
      have h' := congrArg (fun l : List UInt8 => l) h
      rw [ByteArray.toList_eq, ByteArray.toList_eq, bs_list, bs_list] at h'
      exact h'
    have := En.text_inj ha hb this
    subst this
    exact ⟨rfl, rfl, rfl, rfl⟩
  · rintro ⟨h1, h2, h3, h4⟩
    obtain ⟨k, i, n, x⟩ := a
    obtain ⟨k', i', n', x'⟩ := b
    simp only at h1 h2 h3 h4
    subst h1 h2 h3
    have : x = x' := by
      rw [ByteArray.toList_eq, ByteArray.toList_eq] at h4
      exact ByteArray.ext (Array.toList_inj.1 h4)
    subst this
    rfl
theorem En.may_k {e : En} (h : e.may = true) : 0 ≤ e.k ∧ e.k ≤ 255 := by
  obtain ⟨k, i, n, x⟩ := e
  rcases En.may_cases h with ⟨_, e⟩ | e | ⟨_, _, e, _⟩ | ⟨_, a, b, e⟩ <;> cases e <;> simp only <;> omega

set_option maxHeartbeats 8000000 in
theorem law_valueApart (e e' : En) (w : World) (v v' : Value) (he : IsEnd w e v) (he' : IsEnd w e' v') (hk : Knob w) (ht : Tab w) : Calls Tryd.prog 3 #[v, v'] w (Yes w) := by
  obtain ⟨k, i, n, x⟩ := e
  obtain ⟨k', i', n', x'⟩ := e'
  obtain ⟨rfl, hf⟩ := he
  obtain ⟨rfl, hf'⟩ := he'
  simp only
  have KA := Lib.hid fun W (h : Ext w W) => law18_awake W (hk.ext h) (ht.ext h)
  have KM := Lib.hid fun W => ref18_may k i n x W hf.k0 hf.k1
  have KM' := Lib.hid fun W => ref18_may k' i' n' x' W hf'.k0 hf'.k1
  have KT := Lib.hid fun W (h : Ext w W) hm => value_text k i n x W hf.n0 hf.n1 (hk.ext h) (ht.ext h) hm
  have KT' := Lib.hid fun W (h : Ext w W) hm => value_text k' i' n' x' W hf'.n0 hf'.n1 (hk.ext h) (ht.ext h) hm
  clear hf hf' hk ht
  obtain ⟨W1, hW1, x1, m0, m1, m2, m3, hlt⟩ := endblk w k i n x
  obtain ⟨W2, hW2, x2, m0', m1', m2', m3', hlt'⟩ := endblk W1 k' i' n' x'
  have hs : W1.heap.size = w.heap.size + 1 := by rw [hW1]; simp
  rw [hs] at m0' m1' m2' m3' hlt'
  have y2 := x1.trans x2
  replace m0 := fun W (h : Ext W2 W) => m0 W (x2.trans h)
  replace m1 := fun W (h : Ext W2 W) => m1 W (x2.trans h)
  replace m2 := fun W (h : Ext W2 W) => m2 W (x2.trans h)
  replace m3 := fun W (h : Ext W2 W) => m3 W (x2.trans h)
  have great : (decide ((100 : Int) < x.size) = true) ∨ (decide ((100 : Int) < x.size) = false ∧ decide ((100 : Int) < x'.size) = true) ∨ (decide ((100 : Int) < x.size) = false ∧ decide ((100 : Int) < x'.size) = false ∧ En.may ⟨k, i, n, x⟩ = false) ∨ (decide ((100 : Int) < x.size) = false ∧ decide ((100 : Int) < x'.size) = false ∧ En.may ⟨k, i, n, x⟩ = true ∧ En.may ⟨k', i', n', x'⟩ = false) ∨ (decide ((100 : Int) < x.size) = false ∧ decide ((100 : Int) < x'.size) = false ∧ En.may ⟨k, i, n, x⟩ = true ∧ En.may ⟨k', i', n', x'⟩ = true) := by
    cases decide ((100 : Int) < x.size) <;> cases decide ((100 : Int) < x'.size) <;> cases En.may ⟨k, i, n, x⟩ <;> cases En.may ⟨k', i', n', x'⟩ <;> simp
  rcases great with g1 | ⟨g1, g2⟩ | ⟨g1, g2, g3⟩ | ⟨g1, g2, g3, g4⟩ | ⟨g1, g2, g3, g4⟩
  case inr.inr.inr.inr =>
    rw [g3] at KM
    rw [g4] at KM'
    have KT2 := Lib.hid fun W (h : Ext w W) => KT.out W h g3
    have KT2' := Lib.hid fun W (h : Ext w W) => KT'.out W h g4
    have E := fun w => eq_ends k k' i i' n n' x x' w
    have HB := Lib.hid (same_text ⟨k, i, n, x⟩ ⟨k', i', n', x'⟩ g3 g4)
    simp only at HB
    clear g3 g4 KT KT'
    generalize bs (En.text ⟨k, i, n, x⟩) = s at *
    generalize bs (En.text ⟨k', i', n', x'⟩) = s' at *
    have HB2 := HB.out
    generalize endB k k' i i' n n' x x' = b at *
    generalize hq : (s.toList == s'.toList) = q at *
    subst HB2
    clear HB
    cases q
    all_goals
      have hq2 := Lib.hid hq
      go_enter Tryd.func3, Tryd.ntmps3
      go_upto_region 1 with fail
      rw [← hW1, ← hW2]
      clear hW1 hW2
      have z2 := Ext.refl W2
      go_wp2_with (first | (go_at_call 17; (first | (with_reducible refine (KM.out _).mono ?_) | (with_reducible refine (KM'.out _).mono ?_)); rintro e w3 ⟨rfl, x3⟩; have z3 : Ext W2 w3 := (by (repeat (first | exact Ext.refl _ | assumption | refine Ext.alloc ?_ _ | refine Ext.drew ?_ | refine Ext.setCell ?_ (by first | (simp; done) | (simp; omega) | omega) _ | refine Ext.trans ?_ (by assumption))))) | (go_at_call 19; (first | (with_reducible refine (KT2.out _ (y2.trans (by (repeat (first | exact Ext.refl _ | assumption | refine Ext.alloc ?_ _ | refine Ext.drew ?_ | refine Ext.setCell ?_ (by first | (simp; done) | (simp; omega) | omega) _ | refine Ext.trans ?_ (by assumption)))))).mono ?_) | (with_reducible refine (KT2'.out _ (y2.trans (by (repeat (first | exact Ext.refl _ | assumption | refine Ext.alloc ?_ _ | refine Ext.drew ?_ | refine Ext.setCell ?_ (by first | (simp; done) | (simp; omega) | omega) _ | refine Ext.trans ?_ (by assumption)))))).mono ?_)); rintro e w4 ⟨rfl, x4⟩; have z4 : Ext W2 w4 := (by (repeat (first | exact Ext.refl _ | assumption | refine Ext.alloc ?_ _ | refine Ext.drew ?_ | refine Ext.setCell ?_ (by first | (simp; done) | (simp; omega) | omega) _ | refine Ext.trans ?_ (by assumption))))) | (go_at_call 18; refine (KA.out _ (y2.trans (by (repeat (first | exact Ext.refl _ | assumption | refine Ext.alloc ?_ _ | refine Ext.drew ?_ | refine Ext.setCell ?_ (by first | (simp; done) | (simp; omega) | omega) _ | refine Ext.trans ?_ (by assumption)))))).mono ?_; rintro e w5 ⟨rfl, x5⟩; have z5 : Ext W2 w5 := (by (repeat (first | exact Ext.refl _ | assumption | refine Ext.alloc ?_ _ | refine Ext.drew ?_ | refine Ext.setCell ?_ (by first | (simp; done) | (simp; omega) | omega) _ | refine Ext.trans ?_ (by assumption))))))
      go_ret
      exact ⟨rfl, y2.trans (by (repeat (first | exact Ext.refl _ | assumption | refine Ext.alloc ?_ _ | refine Ext.drew ?_ | refine Ext.setCell ?_ (by first | (simp; done) | (simp; omega) | omega) _ | refine Ext.trans ?_ (by assumption))))⟩
  all_goals
    try rw [g3] at KM
    try rw [g4] at KM'
    go_enter Tryd.func3, Tryd.ntmps3
    go_upto_region 1 with fail
    rw [← hW1, ← hW2]
    clear hW1 hW2
    have z2 := Ext.refl W2
    go_wp2_with (first | (go_at_call 17; (first | (with_reducible refine (KM.out _).mono ?_) | (with_reducible refine (KM'.out _).mono ?_)); rintro e w3 ⟨rfl, x3⟩; have z3 : Ext W2 w3 := (by (repeat (first | exact Ext.refl _ | assumption | refine Ext.alloc ?_ _ | refine Ext.drew ?_ | refine Ext.setCell ?_ (by first | (simp; done) | (simp; omega) | omega) _ | refine Ext.trans ?_ (by assumption))))) | (go_at_call 18; refine (KA.out _ (y2.trans (by (repeat (first | exact Ext.refl _ | assumption | refine Ext.alloc ?_ _ | refine Ext.drew ?_ | refine Ext.setCell ?_ (by first | (simp; done) | (simp; omega) | omega) _ | refine Ext.trans ?_ (by assumption)))))).mono ?_; rintro e w5 ⟨rfl, x5⟩; have z5 : Ext W2 w5 := (by (repeat (first | exact Ext.refl _ | assumption | refine Ext.alloc ?_ _ | refine Ext.drew ?_ | refine Ext.setCell ?_ (by first | (simp; done) | (simp; omega) | omega) _ | refine Ext.trans ?_ (by assumption))))))
    go_ret
    exact ⟨rfl, y2.trans (by (repeat (first | exact Ext.refl _ | assumption | refine Ext.alloc ?_ _ | refine Ext.drew ?_ | refine Ext.setCell ?_ (by first | (simp; done) | (simp; omega) | omega) _ | refine Ext.trans ?_ (by assumption))))⟩
end Go.Proofs.YtmomahgedheekaaDoor

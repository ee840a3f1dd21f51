/- Part 10 of the proof: Token3; no condition of ours. -/
import Derived.Test.YtaioeailgknfjaaGreatDoorPkp9
set_option linter.unusedVariables false
set_option linter.unusedSimpArgs false
namespace Go.Proofs.YtaioeailgknfjaaGreatDoor
open Go.Lib (hid)
open Go Go.RowKit Go.Sort
theorem spanOf_U (cl : List Int) (l : List UInt8) : spanOf cl (il (bs l)) = spanU cl l := by
  rw [il_bs]
  unfold spanOf spanU
  induction l with
  | nil => rfl
  | cons c l ih =>
    simp only [List.map_cons, List.takeWhile_cons]
    have e : cl.contains (cls ((c.toNat : Nat) : Int)) = cl.contains (clsU c) := rfl
    rw [e]
    cases cl.contains (clsU c) <;> simp_all
def TokRes (at_ : Nat) (l : List UInt8) (e : Ending) : Option (Nat × Int) → Prop
    | some (n, k) => e = .returned (.tuple #[.agg #[.int .u8 k, .string (bs (l.take n)), .int .i64 at_], .bool true])
    | none => ∃ k s, e = .returned (.tuple #[.agg #[.int .u8 k, .string s, .int .i64 at_], .bool false])
def RetTok (at_ : Nat) (l : List UInt8) (w : World) (e : Ending) (w' : World) : Prop := Ext w w' ∧ TokRes at_ l e (tokAt l)
theorem row_2' (w : World) (t : TypeId) : IsRow (w.alloc (.cells #[.int .u8 2] t)) (vby [2]) (some ⟨w.heap.size, 0, none⟩) 1 := IsRow.new w t (vby [2])
theorem row_234 (w : World) (t : TypeId) : IsRow (w.alloc (.cells #[.int .u8 2, .int .u8 3, .int .u8 4] t)) (vby [2, 3, 4]) (some ⟨w.heap.size, 0, none⟩) 3 := IsRow.new w t (vby [2, 3, 4])
theorem tok_cells {w : World} {b : Nat} {t : TypeId} {c0 c1 c2 u0 u1 u2 : Value} (h : Blk w b t (((#[c0, c1, c2].setIfInBounds 0 u0).setIfInBounds 1 u1).setIfInBounds 2 u2)) : w.cell? ⟨b, 0, none⟩ = some u0 ∧ w.cell? ⟨b, 1, none⟩ = some u1 ∧ w.cell? ⟨b, 2, none⟩ = some u2 := by
  have e0 := h.cell 0
  have e1 := h.cell 1
  have e2 := h.cell 2
  simp at e0 e1 e2
  exact ⟨e0, e1, e2⟩
set_option maxRecDepth 8000 in
set_option maxHeartbeats 4000000 in
theorem token_next (B : List UInt8) (at_ : Nat) (w : World) (b o len cap : Nat) (h1 : len ≤ cap) (h2 : cap ≤ 9223372036854775807) (hr : IsBytes w B (some ⟨b, o, none⟩) len) (hat : at_ < len) (hk : Knob w) :
    Calls Tryz.prog 91 #[.slice (some ⟨b, o, none⟩) len cap, .int .i64 (at_ : Int)] w (RetTok at_ (B.drop at_) w) := by
  have hlen := hr.length
  obtain ⟨c, b', o', g, e, q⟩ := hr.at_ hat
  cases e
  have hdrop : B.drop at_ = c :: B.drop (at_ + 1) := by
    rw [List.drop_eq_getElem_cons (by omega)]
    rw [List.getElem?_eq_getElem (by omega)] at g
    cases g
    rfl
  obtain ⟨r, hrr⟩ : ∃ r, r = B.drop (at_ + 1) := ⟨_, rfl⟩
  rw [← hrr] at hdrop
  have hrl : (c :: r).length = len - at_ := by rw [← hdrop, List.length_drop, hlen]
  have hbb := byte_bound c
  obtain ⟨W0, hW0⟩ : ∃ W0, W0 = w.alloc (.cells #[.int .u8 0, .string ⟨#[]⟩, .int .i64 0] 37) := ⟨_, rfl⟩
  have x0 : Ext w W0 := by rw [hW0]; exact (Ext.refl _).alloc _
  have hB0 : Blk W0 w.heap.size 37 #[.int .u8 0, .string ⟨#[]⟩, .int .i64 0] := by rw [hW0]; exact Blk.new w _ _
  have KCl := hid fun W => chars_class ((c.toNat : Nat) : Int) W hbb.1 hbb.2
  have KSp := hid fun W (cl : List Int) a' n' (h : Ext w W) (hc : IsRow W (vby cl) a' n') (hn : n' ≤ 9223372036854775807) => chars_span cl (il (bs B)) at_ W b o len cap a' n' n' h1 h2 (Nat.le_refl _) hn hat (hr.ext h) (fun c hc => il_bound _ hc) hc
  have hsp : ∀ cl, spanOf cl ((il (bs B)).drop at_) = spanU cl (c :: r) := fun cl => by rw [il_drop, spanOf_U, hdrop]
  simp only [hsp] at KSp
  have hcv : ∀ W, Ext w W → ∀ n k, n ≤ len - at_ → (convert 22 9 (.slice (some ⟨b, o + at_, none⟩) n k)).run Tryz.prog W = .ok (.string (bs ((c :: r).take n))) W := fun W hx n k hn => by
    have := conv_bytes (hr.ext hx) at_ n k (by omega)
    rwa [hdrop] at this
  have KK := hid fun W s (h : Ext w W) => token_kind s W (hk.ext h)
  have KS := hid fun W (h : Ext w W) => token_sign c r W b (o + at_) (len - at_) (cap - at_) (by omega) (by omega) (by have := (hr.ext h).drop at_; rwa [hdrop] at this)
  have HCV := hid hcv
  have HW0 := hid hW0
  have HB0 := hid hB0
  rw [hdrop]
  have hz1 : (at_ : Int) < (len : Int) := by omega
  have KA1 : Hid (∀ cl, (clsU c = 2 ∧ cl = [2]) ∨ ((clsU c = 3 ∨ clsU c = 4) ∧ cl = [2, 3, 4]) → tokAt (c :: r) = (if 0 < kindOf (bs ((c :: r).take (spanU cl (c :: r)))) then some (spanU cl (c :: r), kindOf (bs ((c :: r).take (spanU cl (c :: r))))) else none)) := hid fun cl h => tokAt_kind cl h
  have KA2 := hid (fun h => tokAt_sign (c := c) (r := r) h)
  have KA3 := hid (fun h => tokAt_other (c := c) (r := r) h)
  have SL := hid fun cl => spanU_le cl (c :: r)
  have SP := hid fun cl (h : cl.contains (clsU c) = true) => show 0 < spanU cl (c :: r) from by rw [spanU_pos h]; omega
  have GL := hid (signOf_le (c := c) (r := r))
  have HRL := hid hrl
  have hq0 := x0.cell q
  have hbw : b < w.heap.size := block_lt_of_cell q
  clear g hlen hrr hrl hr hk hdrop hsp hcv hW0 hB0
  have hcl : clsU c = cls ((c.toNat : Nat) : Int) := rfl
  rw [← hcl] at KCl
  have hcb : 0 ≤ clsU c ∧ clsU c ≤ 5 := cls_bound _
  generalize hcc : clsU c = cc at *
  clear hcc hcl
  unfold RetTok
  have hcs : cc = 2 ∨ cc = 3 ∨ cc = 4 ∨ cc = 5 ∨ cc = 0 ∨ cc = 1 := by omega
  rcases hcs with rfl | rfl | rfl | rfl | rfl | rfl
  · have HT := hid (KA1.out [2] (.inl ⟨rfl, rfl⟩))
    have hsp := SP.out [2] rfl
    have hsl := SL.out [2]
    rw [HRL.out] at hsl
    have KSp2 := hid fun W a' (h : Ext w W) (hc : IsRow W (vby [2]) a' 1) => KSp.out W [2] a' 1 h hc (by omega)
    generalize spanU [2] (c :: r) = n at *
    have HC := hid fun W (h : Ext w W) k => HCV.out W h n k hsl
    generalize hsv : bs ((c :: r).take n) = s at *
    have HSV := hid hsv
    clear hsv
    have hkb := kindOf_bd s
    have KK2 := hid fun W (h : Ext w W) => KK.out W s h
    generalize kindOf s = kd at *
    go_enter Tryz.func91, Tryz.ntmps91
    go_wp2_with fail
    rw [← HW0.out]
    refine (KCl.out _).mono ?_
    rintro e w1 ⟨rfl, x1⟩
    have y1 := x0.trans x1
    go_wp2_with fail
    refine (KSp2.out _ _ (y1.alloc _) (row_2' w1 _)).mono ?_
    rintro e w2 ⟨rfl, x2⟩
    have y2 : Ext w w2 := y1.trans (((Ext.refl _).alloc _).trans x2)
    have hcv2 := fun k => HC.out w2 y2 k
    have hwp : IntKind.i64.wrap ((at_ : Int) + (n : Int)) = (at_ : Int) + n := IntWalk.i64_in _ ⟨by omega, by omega⟩
    go_wp2_with fail
    refine (KK2.out _ y2).mono ?_
    rintro e w3 ⟨rfl, x3⟩
    have y3 : Ext w w3 := y2.trans x3
    have hcv3 := fun k => HC.out w3 y3 k
    have hB3 := HB0.out.ext (x1.trans ((((Ext.refl _).alloc _).trans x2).trans x3))
    have e0 := hB3.cell 0
    have e1 := hB3.cell 1
    have e2 := hB3.cell 2
    have f0 := hB3.frozen 0
    have f1 := hB3.frozen 1
    have f2 := hB3.frozen 2
    have hl3 := hB3.lt
    have hB9 := hid (((hB3.set_ 0 (.int .u8 kd)).set_ 1 (.string s)).set_ 2 (.int .i64 at_))
    have Y3 := hid y3
    clear hB3
    by_cases hk0 : 0 < kd
    · have ht := HT.out
      rw [if_pos hk0] at ht
      have HT9 := hid ht
      have HKD := hk0
      clear ht
      go_wp2_with fail
      obtain ⟨r0, r1, r2⟩ := tok_cells hB9.out
      refine bodyPost_ret (v := .tuple #[.agg #[.int .u8 kd, .string s, .int .i64 at_], .bool true]) (by simp [results, Tryz.results91, go_sem, r0, r1, r2, HKD]) rfl ⟨by (exact eX), ?_⟩
      rw [HT9.out]
      show _ = _
      rw [HSV.out]
    · have ht := HT.out
      rw [if_neg hk0] at ht
      have HT9 := hid ht
      have hk1 : kd ≤ 0 := by omega
      have HKD := hk1
      clear ht
      go_wp2_with fail
      obtain ⟨r0, r1, r2⟩ := tok_cells hB9.out
      refine bodyPost_ret (v := .tuple #[.agg #[.int .u8 kd, .string s, .int .i64 at_], .bool false]) (by simp [results, Tryz.results91, go_sem, r0, r1, r2, HKD]) rfl ⟨by (exact eX), ?_⟩
      rw [HT9.out]
      exact ⟨_, _, rfl⟩
  · have HT := hid (KA1.out [2, 3, 4] (.inr ⟨by omega, rfl⟩))
    have hsp := SP.out [2, 3, 4] rfl
    have hsl := SL.out [2, 3, 4]
    rw [HRL.out] at hsl
    have KSp2 := hid fun W a' (h : Ext w W) (hc : IsRow W (vby [2, 3, 4]) a' 3) => KSp.out W [2, 3, 4] a' 3 h hc (by omega)
    generalize spanU [2, 3, 4] (c :: r) = n at *
    have HC := hid fun W (h : Ext w W) k => HCV.out W h n k hsl
    generalize hsv : bs ((c :: r).take n) = s at *
    have HSV := hid hsv
    clear hsv
    have hkb := kindOf_bd s
    have KK2 := hid fun W (h : Ext w W) => KK.out W s h
    generalize kindOf s = kd at *
    go_enter Tryz.func91, Tryz.ntmps91
    go_wp2_with fail
    rw [← HW0.out]
    refine (KCl.out _).mono ?_
    rintro e w1 ⟨rfl, x1⟩
    have y1 := x0.trans x1
    go_wp2_with fail
    refine (KSp2.out _ _ (y1.alloc _) (row_234 w1 _)).mono ?_
    rintro e w2 ⟨rfl, x2⟩
    have y2 : Ext w w2 := y1.trans (((Ext.refl _).alloc _).trans x2)
    have hcv2 := fun k => HC.out w2 y2 k
    have hwp : IntKind.i64.wrap ((at_ : Int) + (n : Int)) = (at_ : Int) + n := IntWalk.i64_in _ ⟨by omega, by omega⟩
    go_wp2_with fail
    refine (KK2.out _ y2).mono ?_
    rintro e w3 ⟨rfl, x3⟩
    have y3 : Ext w w3 := y2.trans x3
    have hcv3 := fun k => HC.out w3 y3 k
    have hB3 := HB0.out.ext (x1.trans ((((Ext.refl _).alloc _).trans x2).trans x3))
    have e0 := hB3.cell 0
    have e1 := hB3.cell 1
    have e2 := hB3.cell 2
    have f0 := hB3.frozen 0
    have f1 := hB3.frozen 1
    have f2 := hB3.frozen 2
    have hl3 := hB3.lt
    have hB9 := hid (((hB3.set_ 0 (.int .u8 kd)).set_ 1 (.string s)).set_ 2 (.int .i64 at_))
    have Y3 := hid y3
    clear hB3
    by_cases hk0 : 0 < kd
    · have ht := HT.out
      rw [if_pos hk0] at ht
      have HT9 := hid ht
      have HKD := hk0
      clear ht
      go_wp2_with fail
      obtain ⟨r0, r1, r2⟩ := tok_cells hB9.out
      refine bodyPost_ret (v := .tuple #[.agg #[.int .u8 kd, .string s, .int .i64 at_], .bool true]) (by simp [results, Tryz.results91, go_sem, r0, r1, r2, HKD]) rfl ⟨by (exact eX), ?_⟩
      rw [HT9.out]
      show _ = _
      rw [HSV.out]
    · have ht := HT.out
      rw [if_neg hk0] at ht
      have HT9 := hid ht
      have hk1 : kd ≤ 0 := by omega
      have HKD := hk1
      clear ht
      go_wp2_with fail
      obtain ⟨r0, r1, r2⟩ := tok_cells hB9.out
      refine bodyPost_ret (v := .tuple #[.agg #[.int .u8 kd, .string s, .int .i64 at_], .bool false]) (by simp [results, Tryz.results91, go_sem, r0, r1, r2, HKD]) rfl ⟨by (exact eX), ?_⟩
      rw [HT9.out]
      exact ⟨_, _, rfl⟩
  · have HT := hid (KA1.out [2, 3, 4] (.inr ⟨by omega, rfl⟩))
    have hsp := SP.out [2, 3, 4] rfl
    have hsl := SL.out [2, 3, 4]
    rw [HRL.out] at hsl
    have KSp2 := hid fun W a' (h : Ext w W) (hc : IsRow W (vby [2, 3, 4]) a' 3) => KSp.out W [2, 3, 4] a' 3 h hc (by omega)
    generalize spanU [2, 3, 4] (c :: r) = n at *
    have HC := hid fun W (h : Ext w W) k => HCV.out W h n k hsl
    generalize hsv : bs ((c :: r).take n) = s at *
    have HSV := hid hsv
    clear hsv
    have hkb := kindOf_bd s
    have KK2 := hid fun W (h : Ext w W) => KK.out W s h
    generalize kindOf s = kd at *
    go_enter Tryz.func91, Tryz.ntmps91
    go_wp2_with fail
    rw [← HW0.out]
    refine (KCl.out _).mono ?_
    rintro e w1 ⟨rfl, x1⟩
    have y1 := x0.trans x1
    go_wp2_with fail
    refine (KSp2.out _ _ (y1.alloc _) (row_234 w1 _)).mono ?_
    rintro e w2 ⟨rfl, x2⟩
    have y2 : Ext w w2 := y1.trans (((Ext.refl _).alloc _).trans x2)
    have hcv2 := fun k => HC.out w2 y2 k
    have hwp : IntKind.i64.wrap ((at_ : Int) + (n : Int)) = (at_ : Int) + n := IntWalk.i64_in _ ⟨by omega, by omega⟩
    go_wp2_with fail
    refine (KK2.out _ y2).mono ?_
    rintro e w3 ⟨rfl, x3⟩
    have y3 : Ext w w3 := y2.trans x3
    have hcv3 := fun k => HC.out w3 y3 k
    have hB3 := HB0.out.ext (x1.trans ((((Ext.refl _).alloc _).trans x2).trans x3))
    have e0 := hB3.cell 0
    have e1 := hB3.cell 1
    have e2 := hB3.cell 2
    have f0 := hB3.frozen 0
    have f1 := hB3.frozen 1
    have f2 := hB3.frozen 2
    have hl3 := hB3.lt
    have hB9 := hid (((hB3.set_ 0 (.int .u8 kd)).set_ 1 (.string s)).set_ 2 (.int .i64 at_))
    have Y3 := hid y3
    clear hB3
    by_cases hk0 : 0 < kd
    · have ht := HT.out
      rw [if_pos hk0] at ht
      have HT9 := hid ht
      have HKD := hk0
      clear ht
      go_wp2_with fail
      obtain ⟨r0, r1, r2⟩ := tok_cells hB9.out
      refine bodyPost_ret (v := .tuple #[.agg #[.int .u8 kd, .string s, .int .i64 at_], .bool true]) (by simp [results, Tryz.results91, go_sem, r0, r1, r2, HKD]) rfl ⟨by (exact eX), ?_⟩
      rw [HT9.out]
      show _ = _
      rw [HSV.out]
    · have ht := HT.out
      rw [if_neg hk0] at ht
      have HT9 := hid ht
      have hk1 : kd ≤ 0 := by omega
      have HKD := hk1
      clear ht
      go_wp2_with fail
      obtain ⟨r0, r1, r2⟩ := tok_cells hB9.out
      refine bodyPost_ret (v := .tuple #[.agg #[.int .u8 kd, .string s, .int .i64 at_], .bool false]) (by simp [results, Tryz.results91, go_sem, r0, r1, r2, HKD]) rfl ⟨by (exact eX), ?_⟩
      rw [HT9.out]
      exact ⟨_, _, rfl⟩
  · have HT := hid (KA2.out rfl)
    have hsl := GL.out
    rw [HRL.out] at hsl
    generalize hn : signOf (c :: r) = n at *
    have HC := hid fun W (h : Ext w W) k => HCV.out W h n k hsl
    generalize hsv : bs ((c :: r).take n) = s at *
    have HSV := hid hsv
    clear hsv hn
    go_enter Tryz.func91, Tryz.ntmps91
    go_wp2_with fail
    rw [← HW0.out]
    refine (KCl.out _).mono ?_
    rintro e w1 ⟨rfl, x1⟩
    have y1 := x0.trans x1
    go_wp2_with fail
    refine (KS.out _ y1).mono ?_
    rintro e w3 ⟨rfl, x3⟩
    have y3 : Ext w w3 := y1.trans x3
    have hwp : IntKind.i64.wrap ((at_ : Int) + (n : Int)) = (at_ : Int) + n := IntWalk.i64_in _ ⟨by omega, by omega⟩
    have hcv3 := fun k => HC.out w3 y3 k
    have hB3 := HB0.out.ext (x1.trans x3)
    have e0 := hB3.cell 0
    have e1 := hB3.cell 1
    have e2 := hB3.cell 2
    have f0 := hB3.frozen 0
    have f1 := hB3.frozen 1
    have f2 := hB3.frozen 2
    have hl3 := hB3.lt
    have hB9 := hid (((hB3.set_ 0 (.int .u8 5)).set_ 1 (.string s)).set_ 2 (.int .i64 at_))
    clear hB3
    by_cases hn0 : 0 < n
    · have ht := HT.out
      rw [if_neg (by omega)] at ht
      have HT9 := hid ht
      have hz0 : (0 : Int) < (n : Int) := by omega
      clear ht
      go_wp2_with fail
      obtain ⟨r0, r1, r2⟩ := tok_cells hB9.out
      refine bodyPost_ret (v := .tuple #[.agg #[.int .u8 5, .string s, .int .i64 at_], .bool true]) (by simp [results, Tryz.results91, go_sem, r0, r1, r2]) rfl ⟨by (exact eX), ?_⟩
      rw [HT9.out]
      show _ = _
      rw [HSV.out]
    · have ht := HT.out
      have hz : n = 0 := by omega
      rw [if_pos hz] at ht
      have HT9 := hid ht
      subst hz
      clear ht
      go_wp2_with fail
      obtain ⟨r0, r1, r2⟩ := tok_cells hB9.out
      refine bodyPost_ret (v := .tuple #[.agg #[.int .u8 5, .string s, .int .i64 at_], .bool false]) (by simp [results, Tryz.results91, go_sem, r0, r1, r2]) rfl ⟨by (exact eX), ?_⟩
      rw [HT9.out]
      exact ⟨_, _, rfl⟩
  all_goals
    have HT := hid (KA3.out (by omega))
    have HC := hid fun W (h : Ext w W) k => HCV.out W h 0 k (by omega)
    generalize bs ((c :: r).take 0) = s at *
    go_enter Tryz.func91, Tryz.ntmps91
    go_wp2_with fail
    rw [← HW0.out]
    refine (KCl.out _).mono ?_
    rintro e w3 ⟨rfl, x3⟩
    have y3 : Ext w w3 := x0.trans x3
    have hwp : IntKind.i64.wrap ((at_ : Int) + 0) = (at_ : Int) := by rw [Int.add_zero]; exact IntWalk.i64_in _ ⟨by omega, by omega⟩
    have hcv3 := fun k => HC.out w3 y3 k
    have hB3 := HB0.out.ext x3
    have e0 := hB3.cell 0
    have e1 := hB3.cell 1
    have e2 := hB3.cell 2
    have f0 := hB3.frozen 0
    have f1 := hB3.frozen 1
    have f2 := hB3.frozen 2
    have hl3 := hB3.lt
    have hB9 := hid (((hB3.set_ 0 (.int .u8 5)).set_ 1 (.string s)).set_ 2 (.int .i64 at_))
    clear hB3
    go_wp2_with fail
    obtain ⟨r0, r1, r2⟩ := tok_cells hB9.out
    refine bodyPost_ret (v := .tuple #[.agg #[.int .u8 5, .string s, .int .i64 at_], .bool false]) (by simp [results, Tryz.results91, go_sem, r0, r1, r2]) rfl ⟨by (exact eX), ?_⟩
    rw [HT.out]
    exact ⟨_, _, rfl⟩
end Go.Proofs.YtaioeailgknfjaaGreatDoor

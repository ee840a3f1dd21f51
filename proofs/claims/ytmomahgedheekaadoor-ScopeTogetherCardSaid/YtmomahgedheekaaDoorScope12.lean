/- Whether a program is closed, by the reference: the walk of enclaveref07.Closed. -/
import Derived.Test.YtmomahgedheekaaDoorScope8
import Derived.Test.YtmomahgedheekaaDoorScope11
namespace Go.Proofs.YtmomahgedheekaaDoor
open Go Go.RowKit Go.Sort

set_option maxRecDepth 8000 in
set_option maxHeartbeats 4000000 in
theorem ref7_closed (p : Pg) (w : World) (v : Value) (hp : IsPg w p v) (hs : p.body.size ≤ 100000) : Calls Tryd.prog 27 #[v] w (RetC (closedR p.body p.ps) w) := by
  have HPN : Hid (∀ a n, IsToks w p.exns a n → n = p.ps.length) := Lib.hid fun a n h => by rw [ps_length]; exact h.length
  obtain ⟨a, n, c, x, l, ak, lenk, capk, hb, rfl, h1, h2, ht, hf, h3, h4, hl⟩ := hp
  unfold pgval
  have HPN : Hid (n = p.ps.length) := Lib.hid (HPN.out a n ht)
  obtain ⟨W0, hW0⟩ : ∃ W0, W0 = w.alloc (.cells #[.slice a n c, .int .u8 x.k, .int .u8 x.op, .int .i64 x.pos, .int .i64 x.n, .string x.name, .string x.arg, .string x.exn, .slice ak lenk capk] 43) := ⟨_, rfl⟩
  have x0 : Ext w W0 := by rw [hW0]; exact (Ext.refl _).alloc _
  have hs0 : w.heap.size < W0.heap.size := by rw [hW0]; simp
  have q0 : W0.cell? ⟨w.heap.size, 0, none⟩ = some (.slice a n c) := by rw [hW0]; simp [go_sem]
  have q1 : W0.cell? ⟨w.heap.size, 1, none⟩ = some (.int .u8 x.k) := by rw [hW0]; simp [go_sem]
  have q2 : W0.cell? ⟨w.heap.size, 2, none⟩ = some (.int .u8 x.op) := by rw [hW0]; simp [go_sem]
  have q3 : W0.cell? ⟨w.heap.size, 3, none⟩ = some (.int .i64 x.pos) := by rw [hW0]; simp [go_sem]
  have q4 : W0.cell? ⟨w.heap.size, 4, none⟩ = some (.int .i64 x.n) := by rw [hW0]; simp [go_sem]
  have q5 : W0.cell? ⟨w.heap.size, 5, none⟩ = some (.string x.name) := by rw [hW0]; simp [go_sem]
  have q6 : W0.cell? ⟨w.heap.size, 6, none⟩ = some (.string x.arg) := by rw [hW0]; simp [go_sem]
  have q7 : W0.cell? ⟨w.heap.size, 7, none⟩ = some (.string x.exn) := by rw [hW0]; simp [go_sem]
  have q8 : W0.cell? ⟨w.heap.size, 8, none⟩ = some (.slice ak lenk capk) := by rw [hW0]; simp [go_sem]
  have CM : Hid (∀ W, Ext w W → Calls Tryd.prog 29 #[tval x ak lenk capk] W fun e w' => e = .returned (.bool p.body.may) ∧ Ext W w') := Lib.hid fun W h => ref4_may p.body W (tval x ak lenk capk) (by rw [hb]; exact IsTmA.mk_ (hl.ext h) h3 h4 hf) (by omega)
  have HB := Lib.hid hb
  have HT := Lib.hid ht
  have HTL := Lib.hid hl
  have HF := Lib.hid hf
  have HW0 := Lib.hid hW0
  have HPS : Hid (∀ (j : Nat) (t : Tk), p.exns[j]? = some t → p.ps[j]? = some (t.text, t.pos)) := Lib.hid fun j t g => ps_at g
  unfold tval at CM
  clear hb ht hf hl hW0
  cases hm : p.body.may
  · rw [hm] at CM
    have HM := Lib.hid hm
    clear hm
    go_enter Tryd.func27, Tryd.ntmps27
    go_wp2_with fail
    rw [← HW0.out]
    refine (CM.out _ x0).mono ?_
    rintro e w1 ⟨rfl, x1⟩
    go_wp2_with fail
    exact bodyPost_ret (v := .tuple #[.int .i64 0, .int .i64 1]) (by simp [results, Tryd.results27, go_sem]) rfl ⟨by rw [closedR_no HM.out], x0.trans x1⟩
  rw [hm] at CM
  have HM := Lib.hid hm
  clear hm
  by_cases h64 : 64 < n
  · obtain ⟨t, b, o, g, hft, rfl, c0, c1, c2⟩ := (HT.out.ext x0).at3 h64
    have hz : (64 : Int) < (n : Int) := by omega
    have HQ := Lib.hid (closedR_long HM.out (by have := HPN.out; omega) (HPS.out _ _ g))
    clear g hft
    go_enter Tryd.func27, Tryd.ntmps27
    go_wp2_with fail
    rw [← HW0.out]
    refine (CM.out _ x0).mono ?_
    rintro e w1 ⟨rfl, x1⟩
    have d0 := x1.cell q0
    have d2 := x1.cell (show W0.cell? ⟨b, o + 192 + 2, none⟩ = some (.int .i64 t.pos) from c2)
    go_wp2_with fail
    exact bodyPost_ret (v := .tuple #[.int .i64 t.pos, .int .i64 3]) (by simp [results, Tryd.results27, go_sem]) rfl ⟨by rw [HQ.out], x0.trans x1⟩
  have hz : (n : Int) ≤ 64 := by omega
  generalize hps : p.ps = ps at *
  have HPE := Lib.hid hps
  clear hps
  obtain ⟨i0, hi, hz0, hz1, hz2⟩ := infoStr1
  have HIN := Lib.hid (And.intro hi (And.intro hz0 (And.intro hz1 hz2)))
  clear hi hz0 hz1 hz2
  go_enter Tryd.func27, Tryd.ntmps27
  go_wp2_with fail
  rw [← HW0.out]
  refine (CM.out _ x0).mono ?_
  rintro e w1 ⟨rfl, x1⟩
  have d0 := x1.cell q0
  have hs1 := x1.size
  have hs2 : w.heap.size < w1.heap.size := by omega
  go_wp2_with fail
  go_loopg [4, 25] n (fun g s i wr => ∃ (j : Nat) (pj : Addr) (cj : Nat), g = n - j ∧ j ≤ n ∧ s = .slice (some pj) j cj ∧ i = .int .i64 j ∧ firstTwice [] ps = firstTwice ((ps.take j).map Prod.fst) (ps.drop j) ∧ wr.ownsRow w1.heap.size 9 1 s j (vstr ((ps.take j).map Prod.fst)) ∧ Ext w1 wr)
  case atStart => exact ⟨0, _, _, by omega, by omega, rfl, rfl, by simp, owns_new w1 w1.heap.size 9 1 0 [] (Nat.le_refl _) (by unfold maxLen; omega) rfl, (Ext.refl _).alloc _⟩
  case round =>
    obtain ⟨j, pj, cj, rfl, hj, rfl, rfl, htw, ho, hx⟩ := hrel
    have HTW := Lib.hid htw
    have HO := Lib.hid ho
    obtain ⟨ar, cr, e, g1, g2, g3⟩ := owns_row1 ho
    cases e
    have G3 := Lib.hid g3
    have hsx := hx.size
    have e0 := hx.cell d0
    clear htw ho g3
    by_cases hlt : j < n
    · obtain ⟨t, b, o, g, hft, rfl, c0, c1, c2⟩ := (HT.out.ext (x0.trans (x1.trans hx))).at3 hlt
      have HR := Lib.hid (twice_round ps j t.text t.pos (HPS.out _ _ g) HTW.out)
      have HS := Lib.hid (texts_succ ps j t.text t.pos (HPS.out _ _ g))
      have KC := Lib.hid (ref7_in t.text ((ps.take j).map Prod.fst) wr (some pj) j cj g1 g2 G3.out)
      clear g hft
      cases hin : inB ((ps.take j).map Prod.fst) t.text
      · rw [hin] at KC HR
        clear hin
        go_wp2_with (first | (go_at_call 36; refine (KC.out).mono ?_; rintro e w2 ⟨rfl, x2⟩; have f0 := x2.cell e0; have f1 := x2.cell c1; have hs2' := x2.size; have hb2 := block_lt_of_cell f1; simp only at hb2; have hb3 : w.heap.size < w2.heap.size := (by omega)) | (at_builtin; refine wpList_append_mine rfl (.tmp 42) (.tmp 49) 51 rfl w1.heap.size 9 i0 (.string ByteArray.empty) 1 16 Tryd.underlying51 HIN.out.1 HIN.out.2.1 HIN.out.2.2.1 HIN.out.2.2.2 rfl (by decide) (Value.slice (some pj) j cj) j (vstr ((ps.take j).map Prod.fst)) rfl (owns_ext (x2.alloc _) HO.out) ⟨w2.heap.size, 0, none⟩ 1 1 [.string t.text] rfl rfl (fun i u hu => by rw [Addr.add_lit, Nat.zero_add]; exact (World.cell?_alloc_new w2 _ _ _).trans (by simpa using hu)) (fun u hu => by simp at hu; subst hu; rfl) (by unfold maxLen; omega) (by omega) (by simp; omega) ?_; intro v6 w6 ho6 hg6 _; have hX6 := ext_grown hg6 ((hx.trans x2).alloc _) (fun k hk => (HO.out.lt k hk).1); obtain ⟨g6, c6, rfl, _, _, _, _, _⟩ := owns_open ho6 (by omega); have HO6 := Lib.hid ho6; clear ho6 hg6))
        go_roundg (n - (j + 1))
        case rel => exact ⟨j + 1, _, _, rfl, by omega, rfl, by go_num, by rw [HR.out]; rfl, by rw [HS.out, vstr_snoc]; exact HO6.out, hX6⟩
        case measure => omega
      · rw [hin] at KC HR
        clear hin
        have HQ := Lib.hid (closedR_twice (l := ps) HM.out (by have := HPN.out; omega) HR.out)
        go_wp2_with (go_at_call 36; refine (KC.out).mono ?_; rintro e w2 ⟨rfl, x2⟩; have f0 := x2.cell e0; have f2 := x2.cell c2)
        exact bodyPost_ret (v := .tuple #[.int .i64 t.pos, .int .i64 4]) (by simp [results, Tryd.results27, go_sem]) rfl ⟨by rw [HQ.out], x0.trans (x1.trans (hx.trans x2))⟩
    · obtain rfl : j = n := by omega
      obtain ⟨a', c', e, hN⟩ := nm_owned_at (A := NoA) HO.out (fun k hk => hk.elim)
      cases e
      have hpt : ps.take j = ps := List.take_of_length_le (by have := HPN.out; omega)
      have hpd : ps.drop j = [] := List.drop_eq_nil_of_le (by have := HPN.out; omega)
      have hlen : (ps.map Prod.fst).length ≤ 64 := by rw [List.length_map]; have := HPN.out; omega
      have hlen0 : ps.length ≤ 64 := by have := HPN.out; omega
      rw [hpt] at hN
      have hnone := HTW.out
      rw [hpd] at hnone
      have xr := x0.trans (x1.trans hx)
      have z1 := hx.cell (x1.cell q1)
      have z2 := hx.cell (x1.cell q2)
      have z3 := hx.cell (x1.cell q3)
      have z4 := hx.cell (x1.cell q4)
      have z5 := hx.cell (x1.cell q5)
      have z6 := hx.cell (x1.cell q6)
      have z7 := hx.cell (x1.cell q7)
      have z8 := hx.cell (x1.cell q8)
      have hsr : w.heap.size < wr.heap.size := by omega
      have CB := ref7_bad (ps.map Prod.fst) _ p.body [] (wr.alloc (.cells #[] 9)) ⟨wr.heap.size, 0, none⟩ pj 0 0 j cj (tval x ak lenk capk) (Nat.le_refl _) (by simp; omega) (hN.ext ((Ext.refl _).alloc _)) (Nm.zero wr _) (by rw [HB.out]; exact IsTmA.mk_ (HTL.out.ext (xr.alloc _)) h3 h4 HF.out)
      unfold tval at CB
      have XR := Lib.hid xr
      clear hN hpt hpd xr
      cases hbad : p.body.bad (ps.map Prod.fst) [] with
      | none =>
        rw [hbad] at CB
        have HQ := Lib.hid (closedR_ok HM.out (l := ps) hlen0 hnone hbad)
        have CBH := Lib.hid CB
        clear hbad hnone CB
        simp only [badR, Option.getD_none, Option.isSome_none] at CBH
        go_wp2_with (go_at_call 61; refine (CBH.out).mono ?_; rintro e w2 ⟨rfl, x2⟩)
        exact bodyPost_ret (v := .tuple #[.int .i64 0, .int .i64 0]) (by simp [results, Tryd.results27, go_sem]) rfl ⟨by rw [HQ.out], XR.out.trans (((Ext.refl _).alloc _).trans x2)⟩
      | some q =>
        rw [hbad] at CB
        have HQ := Lib.hid (closedR_bad HM.out (l := ps) hlen0 hnone hbad)
        have CBH := Lib.hid CB
        clear hbad hnone CB
        simp only [badR, Option.getD_some, Option.isSome_some] at CBH
        go_wp2_with (go_at_call 61; refine (CBH.out).mono ?_; rintro e w2 ⟨rfl, x2⟩)
        exact bodyPost_ret (v := .tuple #[.int .i64 q, .int .i64 4]) (by simp [results, Tryd.results27, go_sem]) rfl ⟨by rw [HQ.out], XR.out.trans (((Ext.refl _).alloc _).trans x2)⟩
end Go.Proofs.YtmomahgedheekaaDoor

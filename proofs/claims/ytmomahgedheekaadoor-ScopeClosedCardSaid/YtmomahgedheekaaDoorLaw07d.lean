/- The walk of the law ScopeClosed. -/
import Derived.Test.YtmomahgedheekaaDoorLaw07b
namespace Go.Proofs.YtmomahgedheekaaDoor
open Go Go.RowKit Go.Sort

theorem twice_append (a b : List (ByteArray × Int)) : ∀ o, firstTwice o (a ++ b) = match firstTwice o a with | some p => some p | none => firstTwice (o ++ a.map Prod.fst) b := by
  induction a with
  | nil => intro o; simp [firstTwice]
  | cons x a ih =>
    intro o
    obtain ⟨x, p⟩ := x
    simp only [List.cons_append, firstTwice]
    split
    · rfl
    · rw [ih]
      simp
theorem twice_succ (ps : List (ByteArray × Int)) (j : Nat) (x : ByteArray) (q : Int) (g : ps[j]? = some (x, q)) : (firstTwice [] (ps.take (j + 1))).isNone = ((firstTwice [] (ps.take j)).isNone && !inB ((ps.take j).map Prod.fst) x) := by
  rw [List.take_add_one, g]
  simp only [Option.toList_some]
  rw [twice_append]
  cases firstTwice [] (ps.take j) with
  | some p => simp
  | none =>
    simp only [firstTwice, List.nil_append]
    split
    · rename_i h; rw [h]; rfl
    · rename_i h; rw [Bool.not_eq_true] at h; rw [h]; rfl
theorem all_succ (l : List ByteArray) (p : ByteArray → Bool) (j : Nat) (x : ByteArray) (g : l[j]? = some x) : (l.take (j + 1)).all p = ((l.take j).all p && p x) := by
  rw [List.take_add_one, g]
  simp
theorem closedR_iff (t : Tm) (ps : List (ByteArray × Int)) (h : t.may = true) : ((closedR t ps).2 == 0) = (((decide (ps.length ≤ 64) && t.free.isEmpty) && (firstTwice [] ps).isNone) && (Tm.exns [t]).all (inB (ps.map Prod.fst))) := by
  by_cases h64 : 64 < ps.length
  · have hq : ps[64]? = some ps[64] := List.getElem?_eq_getElem h64
    rw [closedR_long h h64 hq]
    have : decide (ps.length ≤ 64) = false := by simp; omega
    simp [this]
  · have h1 : ps.length ≤ 64 := by omega
    have hd : decide (ps.length ≤ 64) = true := by simpa using h1
    cases h2 : firstTwice [] ps with
    | some q => rw [closedR_twice h h1 h2]; simp
    | none =>
      have hb := Tm.bad_free (ps.map Prod.fst) t
      cases h3 : t.bad (ps.map Prod.fst) [] with
      | some q =>
        rw [closedR_bad h h1 h2 h3]
        rw [h3] at hb
        simp only [Option.isNone_some] at hb
        simp only [hd, Option.isNone_none, Bool.true_and, Bool.and_true]
        rw [← hb]
        rfl
      | none =>
        rw [closedR_ok h h1 h2 h3]
        rw [h3] at hb
        simp only [Option.isNone_none] at hb
        simp only [hd, Option.isNone_none, Bool.true_and, Bool.and_true]
        rw [← hb]
        rfl

set_option maxRecDepth 8000 in
set_option maxHeartbeats 8000000 in
theorem law_scopeClosed (p : Pg) (w : World) (v : Value) (hp : IsPg w p v) (hkn : Knob w) : Calls Tryd.prog 8 #[v] w (Yes7 w) := by
  have hp0 := hp
  have HPN : Hid (∀ a n, IsToks w p.exns a n → n = p.ps.length) := Lib.hid fun a n h => by rw [ps_length]; exact h.length
  obtain ⟨a, n, c, x, l, ak, lenk, capk, hb, rfl, h1, h2, ht, hf, h3, h4, hl⟩ := hp
  have HPN : Hid (n = p.ps.length) := Lib.hid (HPN.out a n ht)
  have KG := Lib.hid fun W (h : Ext w W) => law07_great p W _ (hp0.ext h)
  have KC := Lib.hid fun W (h : Ext w W) (hs : p.body.size ≤ 100000) => scope_closed p W _ (hp0.ext h) hs (hkn.ext h)
  have KA := Lib.hid fun W (h : Ext w W) => law07_awake W (hkn.ext h)
  have KM : Hid (∀ W, Ext w W → p.body.size ≤ 400 → Calls Tryd.prog 29 #[tval x ak lenk capk] W fun e w' => e = .returned (.bool p.body.may) ∧ Ext W w') := Lib.hid fun W h hs => ref4_may p.body W _ (by rw [hb]; exact IsTmA.mk_ (hl.ext h) h3 h4 hf) (by omega)
  have KF : Hid (∀ W b, Ext w W → p.body.size ≤ 400 → IsTms W [p.body] b 1 → Calls Tryd.prog 31 #[.slice b 1 1] W (RetStrs (freesR [p.body]) W)) := Lib.hid fun W b h hs hi => scope_free [p.body] W b 1 1 (by simp only [Tm.sizes]; omega) (Nat.le_refl _) (by omega) hi (hkn.ext h)
  have KE : Hid (∀ W b, Ext w W → p.body.size ≤ 400 → IsTms W [p.body] b 1 → Calls Tryd.prog 34 #[.slice b 1 1] W (RetStrs (exnsR [p.body]) W)) := Lib.hid fun W b h hs hi => scope_exns [p.body] W b 1 1 (by simp only [Tm.sizes]; omega) (Nat.le_refl _) (by omega) hi (hkn.ext h)
  have HN1 : Hid (∀ W k, Ext w W → k = W.heap.size → IsTms (W.alloc (.cells #[.int .u8 x.k, .int .u8 x.op, .int .i64 x.pos, .int .i64 x.n, .string x.name, .string x.arg, .string x.exn, .slice ak lenk capk] 41)) [p.body] (some ⟨k, 0, none⟩) 1) := Lib.hid fun W k h e => by
    subst e
    rw [hb]
    exact IsTms.new 41 (hl.ext h) h3 h4 hf
  have HR := Lib.hid (fun h => closedR_iff p.body p.ps h)
  have FR := Lib.hid (fun h => freesR_one (t := p.body) h)
  have EX := Lib.hid (fun h => exnsR_one (t := p.body) h)
  have HPS : Hid (∀ (j : Nat) (t : Tk), p.exns[j]? = some t → p.ps[j]? = some (t.text, t.pos)) := Lib.hid fun j t g => ps_at g
  unfold pgval at KG KC ⊢
  unfold tval at KM
  obtain ⟨W0, hW0⟩ : ∃ W0, W0 = w.alloc (.cells #[.slice a n c, .int .u8 x.k, .int .u8 x.op, .int .i64 x.pos, .int .i64 x.n, .string x.name, .string x.arg, .string x.exn, .slice ak lenk capk] 43) := ⟨_, rfl⟩
  have x0 : Ext w W0 := by rw [hW0]; exact (Ext.refl _).alloc _
  have hb0 := PgBox.new w a n c x ak lenk capk 43
  rw [← hW0] at hb0
  have HT := Lib.hid ht
  have HW0 := Lib.hid hW0
  have HB0 := Lib.hid hb0
  have HSZ : Hid (p.body.great = false → p.body.size ≤ 400) := Lib.hid fun h => (Tm.not_great h).1
  have HLX : Hid (p.exns.length = p.ps.length) := Lib.hid (ps_length p).symm
  clear hp0 hb ht hf hl hW0 hb0 hkn
  obtain ⟨mb, hmb⟩ : ∃ mb, mb = p.body.may := ⟨_, rfl⟩
  rw [← hmb] at KM
  rw [← hmb] at HR
  have HMB := Lib.hid hmb
  clear hmb
  go_enter Tryd.func8, Tryd.ntmps8
  go_wp2_with fail
  rw [← HW0.out]
  refine (KG.out _ x0).mono ?_
  rintro e w1 ⟨g, rfl, x1, hg⟩
  cases g
  case true =>
    have y1 := x0.trans x1
    go_wp2_with (go_at_call 25; refine (KA.out _ y1).mono ?_; rintro e w4 ⟨rfl, x4⟩)
    go_ret
    exact ⟨rfl, y1.trans x4⟩
  obtain ⟨hg1, hg2⟩ := hg rfl
  have hsz := HSZ.out hg1
  have hlx := HLX.out
  clear hg hg1
  have hn100 : n ≤ 100 := by rw [HPN.out, ← hlx]; exact hg2
  obtain ⟨q0, q1, q2, q3, q4, q5, q6, q7, q8⟩ := HB0.out.ext x1
  have y1 := x0.trans x1
  cases mb
  · go_wp2_with (first | (go_at_call 29; refine (KM.out _ y1 hsz).mono ?_; rintro e w2 ⟨rfl, x2⟩) | (go_at_call 25; refine (KA.out _ (y1.trans x2)).mono ?_; rintro e w4 ⟨rfl, x4⟩))
    go_ret
    exact ⟨rfl, (y1.trans x2).trans x4⟩
  have hmay : p.body.may = true := HMB.out.symm
  have hfr := FR.out hmay
  have hex := EX.out hmay
  have hri := HR.out (by trivial)
  rw [hfr] at KF
  rw [hex] at KE
  have HRI := Lib.hid hri
  have hfl := free_len p.body
  have hel := exns1_len p.body
  clear hri hmay hfr hex hlx hg2
  generalize closedR p.body p.ps = res at *
  generalize hps : p.ps = ps at *
  clear hps
  generalize p.body.free = nf at *
  generalize Tm.exns [p.body] = ne at *
  go_upto_region 3 with (go_at_call 29; refine (KM.out _ y1 hsz).mono ?_; rintro e w2 ⟨rfl, x2⟩)
  have y2 := y1.trans x2
  obtain ⟨r0, r1, r2, r3, r4, r5, r6, r7, r8⟩ := HB0.out.ext (x1.trans x2)
  have HB2 := Lib.hid (HB0.out.ext (x1.trans x2))
  have HY2 := Lib.hid y2
  clear q0 q1 q2 q3 q4 q5 q6 q7 q8
  go_cut [3] (fun s wx => s = .bool (decide (ps.length ≤ 64) && nf.isEmpty) ∧ Ext w2 wx)
  case first =>
    have hsb : w.heap.size < w2.heap.size := block_lt_of_cell r0
    have hd64 : decide (ps.length ≤ 64) = decide ((n : Int) ≤ 64) := by rw [← HPN.out]; exact decide_eq_decide.2 (by omega)
    by_cases h64 : n ≤ 64
    · have hz : (n : Int) ≤ 64 := by omega
      have hd : decide (ps.length ≤ 64) = true := by rw [hd64]; simpa using hz
      have HD := Lib.hid hd
      clear hd hd64
      go_wp2_with (go_at_call 31; refine (KF.out _ _ (HY2.out.alloc _) hsz (HN1.out _ _ HY2.out rfl)).mono ?_; rintro e w3 ⟨b3, n3, c3, rfl, k1, k2, k3, x3⟩)
      go_meet
      have hn3 := k3.1
      rw [vstr_length] at hn3
      refine ⟨?_, ((Ext.refl _).alloc _).trans x3⟩
      rw [HD.out, hn3]
      cases nf with
      | nil => rfl
      | cons y ys => simp; omega
    · have hz : (64 : Int) < (n : Int) := by omega
      have hd : decide (ps.length ≤ 64) = false := by rw [hd64]; simpa using hz
      have HD := Lib.hid hd
      clear hd hd64
      go_wp2_with fail
      go_meet
      exact ⟨by rw [HD.out]; rfl, Ext.refl _⟩
  case rest =>
  obtain ⟨rfl, xc⟩ := hcut
  have yc := y2.trans xc
  have HBc := HB2.out.ext xc
  have HYc := Lib.hid yc
  have HBC := Lib.hid HBc
  obtain ⟨wA, rfl⟩ : ∃ wA, wA = wc := ⟨_, rfl⟩
  obtain ⟨w0, hw0⟩ : ∃ w0, w0 = (decide (ps.length ≤ 64) && nf.isEmpty) := ⟨_, rfl⟩
  rw [← hw0]
  rw [← hw0] at HRI
  have hbl : w.heap.size < wA.heap.size := block_lt_of_cell HBc.c0
  obtain ⟨i0, hi, hz0, hz1', hz2'⟩ := infoStr1
  have HIN := Lib.hid (And.intro hi (And.intro hz0 (And.intro hz1' hz2')))
  have c0' := HBc.c0
  clear hi hz0 hz1' hz2' hw0 r0 r1 r2 r3 r4 r5 r6 r7 r8 y2 xc yc HBc KF
  go_wp2_with fail
  go_loopg [3, 4, 5] n (fun g u s i wr => ∃ j : Nat, g = n - j ∧ j ≤ n ∧ i = .int .i64 j ∧ u = .bool (w0 && (firstTwice [] (ps.take j)).isNone) ∧ Grow (wA.alloc (.cells #[] 9)) (.slice (some ⟨wA.heap.size, 0, none⟩) 0 0) ((ps.take j).map Prod.fst) s wr)
  case atStart => exact ⟨0, by omega, by omega, rfl, by simp [firstTwice], Grow.start (L := []) (owns_new wA wA.heap.size 9 1 0 [] (Nat.le_refl _) (by unfold maxLen; omega) rfl)⟩
  case round =>
    obtain ⟨j, rfl, hj, rfl, rfl, hG⟩ := hrel
    have HG := Lib.hid hG
    obtain ⟨ar, cs, rfl, f1, f2, f3⟩ := hG.open_
    have own0 : ∀ k, (Value.slice (some ⟨wA.heap.size, 0, none⟩) 0 0).ownBlock = some k → k = wA.heap.size := fun k hk => by simpa [Value.ownBlock, eq_comm] using hk
    have xr : Ext wA wr := hG.ext_ ((Ext.refl _).alloc _) (fun k hk => by rw [own0 k hk]; exact Nat.le_refl _)
    have F3 := Lib.hid f3
    have e0 := xr.cell c0'
    have hsr := xr.size
    have hbr : w.heap.size < wr.heap.size := by omega
    have XR := Lib.hid xr
    have hlj : ((ps.take j).map Prod.fst).length ≤ 100 := by rw [List.length_map, List.length_take]; omega
    clear hG f3 own0 xr
    by_cases hjl : j < n
    · obtain ⟨t, b, o, g, hft, rfl, d0, d1, d2⟩ := (HT.out.ext (HYc.out.trans XR.out)).at3 hjl
      have HS := Lib.hid (texts_succ ps j t.text t.pos (HPS.out _ _ g))
      have HW := Lib.hid (twice_succ ps j t.text t.pos (HPS.out _ _ g))
      have KI := Lib.hid (ref7_in t.text ((ps.take j).map Prod.fst) wr ar ((ps.take j).map Prod.fst).length cs f1 f2 F3.out)
      have hbb := block_lt_of_cell d1
      simp only at hbb
      generalize (ps.take j).map Prod.fst = Lj at *
      generalize (firstTwice [] (ps.take j)).isNone = tj at *
      generalize inB Lj t.text = inn at *
      obtain ⟨u, hu⟩ : ∃ u, u = (w0 && tj) := ⟨_, rfl⟩
      rw [← hu]
      have HU := Lib.hid hu
      clear g hft hu
      cases u
      all_goals
        go_wp2_with (first | (go_at_call 36; refine (KI.out).mono ?_; rintro e w2 ⟨rfl, x2⟩; have e0 := x2.cell e0; have d1 := x2.cell d1; have hs22 := x2.size; have hbr : w.heap.size < w2.heap.size := (by omega); have hbb : b < w2.heap.size := (by omega)) | (at_builtin; refine wpList_append_mine rfl (.tmp 51) (.tmp 58) 51 rfl 0 9 i0 (.string ByteArray.empty) 1 16 Tryd.underlying51 HIN.out.1 HIN.out.2.1 HIN.out.2.2.1 HIN.out.2.2.2 rfl (by decide) (Value.slice ar Lj.length cs) Lj.length (vstr Lj) rfl (HG.out.later (by (repeat (first | exact Ext.refl _ | assumption | refine Ext.alloc ?_ _ | refine Ext.drew ?_ | refine Ext.setCell ?_ (by first | (simp; done) | (simp; omega) | omega) _ | refine Ext.trans ?_ (by assumption))))).own ⟨_, 0, none⟩ 1 1 [.string t.text] rfl rfl (fun i u hu => by rw [Addr.add_lit, Nat.zero_add]; exact (World.cell?_alloc_new _ _ _ _).trans (by simpa using hu)) (fun u hu => by simp at hu; subst hu; rfl) (by unfold maxLen; omega) (by omega) (Nat.zero_le _) ?_; intro v9 w9 ho9 hg9 hw9; have HG9 := Lib.hid ((HG.out.later (by (repeat (first | exact Ext.refl _ | assumption | refine Ext.alloc ?_ _ | refine Ext.drew ?_ | refine Ext.setCell ?_ (by first | (simp; done) | (simp; omega) | omega) _ | refine Ext.trans ?_ (by assumption))))).more ho9 hg9 hw9); obtain ⟨a9, c9, rfl, _, _, _⟩ := owns_row1 ho9; clear ho9 hg9 hw9))
        go_roundg (n - (j + 1))
        case rel =>
          refine ⟨j + 1, rfl, by omega, by go_num, ?_, by rw [HS.out]; exact HG9.out⟩
          rw [HW.out]
          have := HU.out
          cases w0 <;> cases tj <;> simp at this ⊢
        case measure => omega
    · obtain rfl : j = n := by omega
      have hpt : ps.take j = ps := List.take_of_length_le (by have := HPN.out; omega)
      generalize hLt : (ps.take j).map Prod.fst = Lt at *
      generalize htw : (firstTwice [] (ps.take j)).isNone = tw at *
      rw [hpt] at hLt htw
      obtain ⟨e0', e1, e2, e3, e4, e5, e6, e7, e8⟩ := HBC.out.ext XR.out
      have yr := HYc.out.trans XR.out
      have HYR := Lib.hid yr
      have HLT := Lib.hid hLt
      have HTW := Lib.hid htw
      clear hpt hLt htw yr HG
      go_wp2_with (go_at_call 34; refine (KE.out _ _ (HYR.out.alloc _) hsz (HN1.out _ _ HYR.out rfl)).mono ?_; rintro e w5 ⟨b5, n5, c5, rfl, k1, k2, k3, x5⟩)
      have K3 := Lib.hid k3
      have hn5 := k3.1
      rw [vstr_length] at hn5
      have HN5 := Lib.hid hn5
      have xx5 : Ext wr w5 := ((Ext.refl _).alloc _).trans x5
      have XX5 := Lib.hid xx5
      have F5 := Lib.hid (F3.out.ext xx5)
      clear k3 hn5 x5
      go_loopg [3, 7] n5 (fun g u i wq => ∃ q : Nat, g = n5 - q ∧ q ≤ n5 ∧ i = .int .i64 q ∧ u = .bool ((w0 && tw) && (ne.take q).all (inB Lt)) ∧ Ext w5 wq)
      case atStart => exact ⟨0, by omega, by omega, rfl, by simp, Ext.refl _⟩
      case round =>
        obtain ⟨q, rfl, hq, rfl, rfl, hx⟩ := hrel
        by_cases hql : q < n5
        · obtain ⟨z, b', o', g, rfl, qz⟩ := (K3.out.ext hx).str hql
          have HS := Lib.hid (all_succ ne (inB Lt) q z g)
          have KI := Lib.hid (ref7_in z Lt wr ar Lt.length cs f1 f2 (F5.out.ext hx))
          generalize (ne.take q).all (inB Lt) = aj at *
          generalize inB Lt z = inn at *
          obtain ⟨u, hu⟩ : ∃ u, u = ((w0 && tw) && aj) := ⟨_, rfl⟩
          rw [← hu]
          have HU := Lib.hid hu
          clear g hu
          cases u
          all_goals
            go_wp2_with (go_at_call 36; refine (KI.out).mono ?_; rintro e w2 ⟨rfl, x2⟩)
            go_roundg (n5 - (q + 1))
            case rel =>
              refine ⟨q + 1, rfl, by omega, by go_num, ?_, by first | exact hx.trans x2 | exact hx⟩
              rw [HS.out]
              have := HU.out
              cases w0 <;> cases tw <;> cases aj <;> simp at this ⊢
            case measure => omega
        · obtain rfl : q = n5 := by omega
          have hta : ne.take q = ne := List.take_of_length_le (by have := HN5.out; omega)
          rw [hta]
          have yq := HYR.out.trans (XX5.out.trans hx)
          obtain ⟨g0, g1, g2, g3, g4, g5, g6, g7, g8⟩ := HBC.out.ext (XR.out.trans (XX5.out.trans hx))
          have KCw := Lib.hid (KC.out _ yq (by omega))
          have hfin := HRI.out
          rw [HLT.out, HTW.out] at hfin
          rw [← hfin]
          obtain ⟨r1, r2⟩ := res
          unfold RetC at KCw
          try simp only at KCw
          have YQ := Lib.hid yq
          clear hfin hta
          go_wp2_with fail
          refine (KCw.out).mono ?_
          rintro e w6 ⟨rfl, x6⟩
          have y6 := YQ.out.trans x6
          go_wp2_with fail
          refine (KA.out _ y6).mono ?_
          rintro e w7 ⟨rfl, x7⟩
          go_wp2_with fail
          go_ret
          exact ⟨rfl, y6.trans x7⟩
end Go.Proofs.YtmomahgedheekaaDoor

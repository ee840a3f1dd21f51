/- Whether a program is closed: the walks of scope.Closed and its closure. -/
import Derived.Test.YtmomahgedheekaaDoorScope9
namespace Go.Proofs.YtmomahgedheekaaDoor
open Go Go.RowKit Go.Sort

/-- The exceptions that are declared, a place, an error, in blocks of their own. -/
def gClosed (b : Nat) (exns : List ByteArray) : Gauge (Int × Int) where
  R := fun s w => (∃ a n c, Blk w b 51 #[.slice a n c] ∧ Nm (fun k => k = b + 1 ∨ k = b + 2) w exns a n c) ∧ Blk w (b + 1) 3 #[.int .i64 s.1] ∧ Blk w (b + 2) 26 #[.int .i64 s.2]
  own := fun _ k => k = b + 1 ∨ k = b + 2
  keep := fun _ _ _ ⟨⟨a, n, c, h1, h2⟩, h3, h4⟩ hx => ⟨⟨⟨a, n, c, h1.ext hx, h2.ext hx⟩, h3.ext hx, h4.ext hx⟩, fun _ h => h⟩
  lt := fun _ _ k ⟨_, h3, h4⟩ hk => by
    rcases hk with rfl | rfl
    · exact h3.lt
    · exact h4.lt
theorem enters_closed1 : ∀ args w, (callFunc 57 args).run Tryd.prog w = .ok (.enter 57 args) w := enters_of Tryd.func57 (by kernel_rfl) rfl
def Two (b : Nat) : Nat → Prop := fun k => k = b + 1 ∨ k = b + 2
theorem nm_set {b : Nat} {w : World} {bd : List ByteArray} {a : Option Addr} {n c : Nat} (h : Nm (Two b) w bd a n c) {p : Addr} (hp : Two b p.block) (u : Value) : Nm (Two b) (w.setCell p u) bd a n c :=
  ⟨h.le, h.max, h.nil, ⟨h.row.1, fun i v hi => by
    obtain ⟨b', o, e, q⟩ := h.row.2 i v hi
    subst e
    exact ⟨b', o, rfl, (World.cell?_setCell_other w p ⟨b', o + i, none⟩ u (fun e => (h.off _ rfl).1 (by subst e; exact hp))).trans q⟩⟩, fun q hq => ⟨(h.off q hq).1, by simpa [World.setCell] using (h.off q hq).2.1, (h.off q hq).2.2⟩⟩
set_option maxRecDepth 8000 in
set_option maxHeartbeats 4000000 in
theorem closed_steps (b : Nat) (exns : List ByteArray) : StepsN (gClosed b exns) (closedF exns) (fun _ _ => True) 57 (.pointer (some ⟨b, 0, none⟩)) (.pointer (some ⟨b + 1, 0, none⟩)) (.pointer (some ⟨b + 2, 0, none⟩)) := by
  rintro ⟨s1, s2⟩ w bd pp n cp x l a len cap ⟨⟨ae, ne, ce, hB, hE⟩, hA, hR⟩ hr hf h1 h2 hn hl
  obtain ⟨W1, hW1⟩ : ∃ W1, W1 = w.alloc (.cells #[.int .u8 x.k, .int .u8 x.op, .int .i64 x.pos, .int .i64 x.n, .string x.name, .string x.arg, .string x.exn, .slice a len cap] 41) := ⟨_, rfl⟩
  have x0 : Ext w W1 := by rw [hW1]; exact (Ext.refl _).alloc _
  have hs1 : w.heap.size < W1.heap.size := by rw [hW1]; simp
  have T := TBlk.new w x a len cap 41
  rw [← hW1] at T
  obtain ⟨⟨c0, c1, c2, c3, c4, c5, c6⟩, c7⟩ := T
  simp only [Nat.zero_add] at c0 c1 c2 c3 c4 c5 c6
  have hbl := hR.lt
  have KF := Lib.hid (names_free bd x W1 pp n cp a len cap (hn.ext x0))
  have KR := Lib.hid fun W (h : Ext W1 W) => scope_raises bd x W a len cap
  have KC := Lib.hid fun W (h : Ext W1 W) => strs_contains x.exn exns W ae ne ce hE.le hE.max ((hE.ext (x0.trans h)).row)
  have HB := Lib.hid hB
  have HE := Lib.hid hE
  have HA := Lib.hid hA
  have HR := Lib.hid hR
  have HW1 := Lib.hid hW1
  have HG : Hid (closedF exns (s1, s2) bd (.mk x l) = if badH exns bd x then ((x.pos, 4), false) else ((s1, s2), decide (s2 = 0))) := rfl
  have HH : Hid (badH exns bd x = (isFree bd x || (names_ bd x && !inB exns x.exn))) := rfl
  clear hW1 hn hl hf hr
  have e2 : ∀ W, Ext W1 W → W.cell? ⟨b + 2, 0, none⟩ = some (.int .i64 s2) := fun W h => h.cell ((hR.ext x0).cell 0)
  have fin : ∀ W, Ext W1 W → badH exns bd x = false → closedF exns (s1, s2) bd (.mk x l) = ((s1, s2), decide (s2 = 0)) ∧ (gClosed b exns).R (s1, s2) W ∧ OExt (gClosed b exns).own w W := fun W h hb => by
    have hR0 : (gClosed b exns).R (s1, s2) w := ⟨⟨ae, ne, ce, HB.out, HE.out⟩, HA.out, HR.out⟩
    exact ⟨by rw [HG.out, hb]; rfl, ((gClosed b exns).keep _ _ _ hR0 (x0.trans h)).1, (gClosed b exns).oext hR0 (x0.trans h)⟩
  have FIN := Lib.hid fin
  have bad : ∀ W, Ext W1 W → badH exns bd x = true → closedF exns (s1, s2) bd (.mk x l) = ((x.pos, 4), false) ∧ (gClosed b exns).R (x.pos, 4) ((W.setCell ⟨b + 1, 0, none⟩ (.int .i64 x.pos)).setCell ⟨b + 2, 0, none⟩ (.int .i64 4)) ∧ OExt (gClosed b exns).own w ((W.setCell ⟨b + 1, 0, none⟩ (.int .i64 x.pos)).setCell ⟨b + 2, 0, none⟩ (.int .i64 4)) := fun W h hb => by
    have hx := x0.trans h
    refine ⟨by rw [HG.out, hb]; rfl, ⟨⟨ae, ne, ce, ?_, nm_set (nm_set (HE.out.ext hx) (.inl rfl) _) (.inr rfl) _⟩, ?_, ?_⟩, ?_⟩
    · exact ((HB.out.ext hx).far (p := ⟨b + 1, 0, none⟩) (by simp) _).far (p := ⟨b + 2, 0, none⟩) (by simp) _
    · have := ((HA.out.ext hx).set_ 0 (.int .i64 x.pos)).far (p := ⟨b + 2, 0, none⟩) (by simp) (.int .i64 4)
      simpa using this
    · have := (((HR.out.ext hx).far (p := ⟨b + 1, 0, none⟩) (by simp) (.int .i64 x.pos))).set_ 0 (.int .i64 4)
      simpa using this
    · exact oext_of_x (A := Two b) (((ExtX.of hx).setCell (p := ⟨b + 1, 0, none⟩) (.inl (.inl rfl)) _).setCell (p := ⟨b + 2, 0, none⟩) (.inl (.inr rfl)) _)
  have BAD := Lib.hid bad
  clear fin bad
  have kE : W1.cell? ⟨b, 0, none⟩ = some (.slice ae ne ce) := (hB.ext x0).cell 0
  have kA : W1.cell? ⟨b + 1, 0, none⟩ = some (.int .i64 s1) := (hA.ext x0).cell 0
  have kR : W1.cell? ⟨b + 2, 0, none⟩ = some (.int .i64 s2) := (hR.ext x0).cell 0
  have FA := Lib.hid fun W (h : Ext w W) => (hA.ext h).frozen 0
  have FR := Lib.hid fun W (h : Ext w W) => (hR.ext h).frozen 0
  clear hB hE hA hR
  cases hfr : isFree bd x
  · rw [hfr] at KF HH
    cases hnm : names_ bd x
    · rw [hnm] at KR HH
      clear hfr hnm
      have hbad : badH exns bd x = false := HH.out
      have HBAD := Lib.hid hbad
      clear hbad
      go_enter Tryd.func57, Tryd.ntmps57
      go_wp2_with fail
      rw [← HW1.out]
      refine (KF.out).mono ?_
      rintro e w1 ⟨rfl, x1⟩
      have d0 := x1.cell c0
      have d1 := x1.cell c1
      have d2 := x1.cell c2
      have d3 := x1.cell c3
      have d4 := x1.cell c4
      have d5 := x1.cell c5
      have d6 := x1.cell c6
      have d7 := x1.cell c7
      go_wp2_with fail
      refine (KR.out _ x1).mono ?_
      rintro e w2 ⟨rfl, x2⟩
      have q2 := e2 _ (x1.trans x2)
      go_wp2_with fail
      go_ret
      obtain ⟨a1, a2, a3⟩ := FIN.out _ (x1.trans x2) HBAD.out
      rw [a1]
      exact ⟨ret_bool (by by_cases h : s2 = 0 <;> simp [h]), a2, a3⟩
    · rw [hnm] at KR HH
      clear hfr hnm
      cases hin : inB exns x.exn
      · rw [hin] at KC HH
        clear hin
        have HBAD : Hid (badH exns bd x = true) := HH
        go_enter Tryd.func57, Tryd.ntmps57
        go_wp2_with fail
        rw [← HW1.out]
        refine (KF.out).mono ?_
        rintro e w1 ⟨rfl, x1⟩
        have d0 := x1.cell c0
        have d1 := x1.cell c1
        have d2 := x1.cell c2
        have d3 := x1.cell c3
        have d4 := x1.cell c4
        have d5 := x1.cell c5
        have d6 := x1.cell c6
        have d7 := x1.cell c7
        go_wp2_with fail
        refine (KR.out _ x1).mono ?_
        rintro e w2 ⟨rfl, x2⟩
        have y2 := x1.trans x2
        have d6 := y2.cell c6
        have dE := y2.cell kE
        go_wp2_with fail
        refine (KC.out _ y2).mono ?_
        rintro e w3 ⟨rfl, x3⟩
        have y3 := y2.trans x3
        have d2 := y3.cell c2
        have dA := y3.cell kA
        have dR := y3.cell kR
        have fA := FA.out _ (x0.trans y3)
        have fR := FR.out _ (x0.trans y3)
        have hb3 := Nat.lt_of_lt_of_le hbl (x0.trans y3).size
        go_wp2_with fail
        go_ret
        obtain ⟨a1, a2, a3⟩ := BAD.out _ y3 HBAD.out
        rw [a1]
        exact ⟨rfl, a2, a3⟩
      · rw [hin] at KC HH
        clear hin
        have HBAD : Hid (badH exns bd x = false) := HH
        go_enter Tryd.func57, Tryd.ntmps57
        go_wp2_with fail
        rw [← HW1.out]
        refine (KF.out).mono ?_
        rintro e w1 ⟨rfl, x1⟩
        have d0 := x1.cell c0
        have d1 := x1.cell c1
        have d2 := x1.cell c2
        have d3 := x1.cell c3
        have d4 := x1.cell c4
        have d5 := x1.cell c5
        have d6 := x1.cell c6
        have d7 := x1.cell c7
        go_wp2_with fail
        refine (KR.out _ x1).mono ?_
        rintro e w2 ⟨rfl, x2⟩
        have y2 := x1.trans x2
        have d6 := y2.cell c6
        have dE := y2.cell kE
        go_wp2_with fail
        refine (KC.out _ y2).mono ?_
        rintro e w3 ⟨rfl, x3⟩
        have y3 := y2.trans x3
        have q2 := e2 _ y3
        go_wp2_with fail
        go_ret
        obtain ⟨a1, a2, a3⟩ := FIN.out _ y3 HBAD.out
        rw [a1]
        exact ⟨ret_bool (by by_cases h : s2 = 0 <;> simp [h]), a2, a3⟩
  · rw [hfr] at KF HH
    clear hfr
    have HBAD : Hid (badH exns bd x = true) := HH
    go_enter Tryd.func57, Tryd.ntmps57
    go_wp2_with fail
    rw [← HW1.out]
    refine (KF.out).mono ?_
    rintro e w1 ⟨rfl, y3⟩
    have d2 := y3.cell c2
    have dA := y3.cell kA
    have dR := y3.cell kR
    have fA := FA.out _ (x0.trans y3)
    have fR := FR.out _ (x0.trans y3)
    have hb3 := Nat.lt_of_lt_of_le hbl (x0.trans y3).size
    go_wp2_with fail
    go_ret
    obtain ⟨a1, a2, a3⟩ := BAD.out _ y3 HBAD.out
    rw [a1]
    exact ⟨rfl, a2, a3⟩
end Go.Proofs.YtmomahgedheekaaDoor

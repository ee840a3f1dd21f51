/- Part 38 of the proof: Parse21; no condition of ours. -/
import Derived.Test.YtaioeailgknfjaaGreatDoorPku7
import Derived.Test.YtaioeailgknfjaaGreatDoorPku37
set_option linter.unusedVariables false
set_option linter.unusedSimpArgs false
namespace Go.Proofs.YtaioeailgknfjaaGreatDoor
open Go Go.RowKit Go.Sort
def OutE (ob : Nat) (w : World) (ea : Option Addr) (en ec : Nat) : Prop := Blk w ob 41 #[.slice ea en ec, .int .u8 0, .int .u8 0, .int .i64 0, .int .i64 0, .string ⟨#[]⟩, .string ⟨#[]⟩, .string ⟨#[]⟩, .slice none 0 0]
def OutPZ (ob : Nat) (w : World) : Prop := OutE ob w none 0 0
def ToksB (B : Nat) (w : World) (es : List Tk) (ea : Option Addr) (en : Nat) : Prop := IsToks w es ea en ∧ ∀ p, ea = some p → B ≤ p.block
def OutP (ob B : Nat) (w : World) (q : List Tk × Tm) : Prop := ∃ ea en ec a n c, Blk w ob 41 #[.slice ea en ec, .int .u8 q.2.head.k, .int .u8 q.2.head.op, .int .i64 q.2.head.pos, .int .i64 q.2.head.n, .string q.2.head.name, .string q.2.head.arg, .string q.2.head.exn, .slice a n c] ∧ en ≤ ec ∧ ec ≤ 9223372036854775807 ∧ ToksB B w q.1 ea en ∧ q.2.head.Fits ∧ n ≤ c ∧ c ≤ 9223372036854775807 ∧ IsTmsA (fun b => b < B) w q.2.kids a n
theorem IsToks.keep {A : Nat → Prop} {w w' : World} (hx : ExtX A w w') {l : List Tk} {a : Option Addr} {n : Nat} (hA : ∀ p, a = some p → ¬ A p.block) (h : IsToks w l a n) : IsToks w' l a n :=
  ⟨⟨h.1.1, h.1.2.1, fun i cs hi => by
    obtain ⟨b', o', e, q⟩ := h.1.2.2 i cs hi
    exact ⟨b', o', e, fun j v hj => hx.cell (fun hb => hA _ e hb) (q j v hj)⟩⟩, h.2⟩
theorem ToksB.keep {A : Nat → Prop} {B : Nat} {w w' : World} (hx : ExtX A w w') {l : List Tk} {a : Option Addr} {n : Nat} (hA : ∀ b, B ≤ b → ¬ A b) (h : ToksB B w l a n) : ToksB B w' l a n :=
  ⟨h.1.keep hx fun p e => hA _ (h.2 p e), h.2⟩
theorem Prs.asideP {w w' : World} {pb ob : Nat} {T : TypeId} {l : List Tk} {ea a : Option Addr} {en ec n c : Nat} {x : Hd} (h : Prs w pb l) (hO : Blk w ob T #[.slice ea en ec, .int .u8 x.k, .int .u8 x.op, .int .i64 x.pos, .int .i64 x.n, .string x.name, .string x.arg, .string x.exn, .slice a n c]) (hx : ExtX (· = ob) w w') (hne : pb ≠ ob) : Prs w' pb l := by
  obtain ⟨b, o, n, c, i, L, hB, h1, h2, hT, hb, hl, hi⟩ := h
  obtain ⟨t, b', o', -, -, e, q0, q1, -⟩ := hT.at3 hi
  cases e
  have hbo : b ≠ ob := by
    rintro rfl
    have e0 := hO.cell (o + i * 3)
    have e1 := hO.cell (o + i * 3 + 1)
    rw [q0] at e0
    rw [q1] at e1
    generalize o + i * 3 = k at e0 e1
    match k, e0, e1 with
    | 0, e0, _ => simp at e0
    | 1, _, e1 => simp at e1
    | 2, _, e1 => simp at e1
    | 3, e0, _ => simp at e0
    | 4, e0, _ => simp at e0
    | 5, e0, _ => simp at e0
    | 6, e0, _ => simp at e0
    | 7, e0, _ => simp at e0
    | 8, e0, _ => simp at e0
    | k + 9, e0, _ => simp at e0
  exact ⟨b, o, n, c, i, L, hB.extx hx hne, h1, h2, hT.extx hx hbo, hb, hl, hi⟩
theorem Prs.aside0 {w w' : World} {pb ob : Nat} {l : List Tk} {ea : Option Addr} {en ec : Nat} (h : Prs w pb l) (hO : OutE ob w ea en ec) (hx : ExtX (· = ob) w w') (hne : pb ≠ ob) : Prs w' pb l :=
  h.asideP (x := ⟨0, 0, 0, 0, ⟨#[]⟩, ⟨#[]⟩, ⟨#[]⟩⟩) hO hx hne
theorem Blk.nine {w : World} {g : Nat} {t : TypeId} {c0 c1 c2 c3 c4 c5 c6 c7 c8 : Value} (h : Blk w g t #[c0, c1, c2, c3, c4, c5, c6, c7, c8]) :
    w.cell? ⟨g, 0, none⟩ = some c0 ∧ w.cell? ⟨g, 1, none⟩ = some c1 ∧ w.cell? ⟨g, 2, none⟩ = some c2 ∧ w.cell? ⟨g, 3, none⟩ = some c3 ∧ w.cell? ⟨g, 4, none⟩ = some c4 ∧ w.cell? ⟨g, 5, none⟩ = some c5 ∧ w.cell? ⟨g, 6, none⟩ = some c6 ∧ w.cell? ⟨g, 7, none⟩ = some c7 ∧ w.cell? ⟨g, 8, none⟩ = some c8 :=
  ⟨h.cell 0, h.cell 1, h.cell 2, h.cell 3, h.cell 4, h.cell 5, h.cell 6, h.cell 7, h.cell 8⟩
theorem Blk.frozen9 {w : World} {g : Nat} {t : TypeId} {cs : Array Value} (h : Blk w g t cs) :
    w.frozen? ⟨g, 0, none⟩ = false ∧ w.frozen? ⟨g, 1, none⟩ = false ∧ w.frozen? ⟨g, 2, none⟩ = false ∧ w.frozen? ⟨g, 3, none⟩ = false ∧ w.frozen? ⟨g, 4, none⟩ = false ∧ w.frozen? ⟨g, 5, none⟩ = false ∧ w.frozen? ⟨g, 6, none⟩ = false ∧ w.frozen? ⟨g, 7, none⟩ = false ∧ w.frozen? ⟨g, 8, none⟩ = false :=
  ⟨h.frozen 0, h.frozen 1, h.frozen 2, h.frozen 3, h.frozen 4, h.frozen 5, h.frozen 6, h.frozen 7, h.frozen 8⟩
def lay9 (w : World) (g : Nat) (u1 u2 u3 u4 u5 u6 u7 u8 : Value) : World := (((((((w.setCell ⟨g, 1, none⟩ u1).setCell ⟨g, 2, none⟩ u2).setCell ⟨g, 3, none⟩ u3).setCell ⟨g, 4, none⟩ u4).setCell ⟨g, 5, none⟩ u5).setCell ⟨g, 6, none⟩ u6).setCell ⟨g, 7, none⟩ u7).setCell ⟨g, 8, none⟩ u8
theorem Blk.lay9 {w : World} {g : Nat} {t : TypeId} {c0 c1 c2 c3 c4 c5 c6 c7 c8 u1 u2 u3 u4 u5 u6 u7 u8 : Value} (h : Blk w g t #[c0, c1, c2, c3, c4, c5, c6, c7, c8]) : Blk (lay9 w g u1 u2 u3 u4 u5 u6 u7 u8) g t #[c0, u1, u2, u3, u4, u5, u6, u7, u8] := by
  have h := (((((((h.set_ 1 u1).set_ 2 u2).set_ 3 u3).set_ 4 u4).set_ 5 u5).set_ 6 u6).set_ 7 u7).set_ 8 u8
  unfold Go.Proofs.YtaioeailgknfjaaGreatDoor.lay9
  simpa using h
theorem ExtX.lay9 {A : Nat → Prop} {a w : World} {g : Nat} {u1 u2 u3 u4 u5 u6 u7 u8 : Value} (h : ExtX A a w) (hg : A g ∨ a.heap.size ≤ g) : ExtX A a (lay9 w g u1 u2 u3 u4 u5 u6 u7 u8) :=
  (((((((h.setCell (p := ⟨g, 1, none⟩) hg u1).setCell (p := ⟨g, 2, none⟩) hg u2).setCell (p := ⟨g, 3, none⟩) hg u3).setCell (p := ⟨g, 4, none⟩) hg u4).setCell (p := ⟨g, 5, none⟩) hg u5).setCell (p := ⟨g, 6, none⟩) hg u6).setCell (p := ⟨g, 7, none⟩) hg u7).setCell (p := ⟨g, 8, none⟩) hg u8
theorem IsTmsA.lay9 {A : Nat → Prop} {w : World} {g : Nat} {u1 u2 u3 u4 u5 u6 u7 u8 : Value} {l : List Tm} {a : Option Addr} {len : Nat} (h : IsTmsA A w l a len) (hg : A g) : IsTmsA A (lay9 w g u1 u2 u3 u4 u5 u6 u7 u8) l a len :=
  h.extx ((ExtX.refl (A := (· = g)) w).lay9 (.inl rfl)) (fun b e => by have e : b = g := e; subst e; exact hg)
theorem ExtX.onto {A A' : Nat → Prop} {w w' w'' : World} (h : ExtX A w w') (k : ExtX A' w' w'') (hA : ∀ b, A' b → A b ∨ w.heap.size ≤ b) : ExtX A w w'' :=
  ⟨k.os.trans h.os, k.tape.trans h.tape, k.output.trans h.output, Nat.le_trans h.size k.size, fun i hi ha => (k.block i (Nat.lt_of_lt_of_le hi h.size) (fun e => by rcases hA i e with g | g; exact ha g; omega)).trans (h.block i hi ha)⟩
def ObA (ob base b : Nat) : Prop := b = ob ∨ base ≤ b
theorem toks_snoc2 (o : List Tk) (t : Tk) : ((o ++ [t]).map tkcells).flatten = (o.map tkcells).flatten ++ tkcells t := by simp
theorem owns_toks {w : World} {base : Nat} {v : Value} {o : List Tk} (h : w.ownsRow base 37 3 v o.length (o.map tkcells).flatten) (hf : ∀ t, t ∈ o → t.Fits) : ∃ a c, v = .slice a o.length c ∧ o.length ≤ c ∧ c ≤ 9223372036854775807 ∧ ToksB base w o a o.length := by
  obtain ⟨a, c, rfl, h1, h2, h3⟩ := owns_flat h (by decide) (tkcells_len o)
  refine ⟨a, c, rfl, h1, h2, ⟨h3, hf⟩, fun p e => ?_⟩
  subst e
  have := h.2
  rcases this with ⟨e, -⟩ | ⟨g, cap, cur, e, hg, -⟩
  · cases e
  · cases e
    exact hg
set_option maxRecDepth 60000 in
set_option maxHeartbeats 8000000 in
theorem prog_call (pb ob : Nat) (W : World) (l : List Tk) (hP : Prs W pb l) (hE : Ended l) (hl4 : l.length ≤ 4001) (hob : ob < pb) (hO : OutPZ ob W) :
    Calls Tryz.prog 35 #[.pointer (some ⟨pb, 0, none⟩), .pointer (some ⟨ob, 0, none⟩)] W fun e w' => ExtX (fun b => b = pb ∨ b = ob) W w' ∧ match progL l with
    | .error l' => e = thrown l'
    | .ok (a, l') => e = .returned (.tuple #[]) ∧ Prs w' pb l' ∧ Ended l' ∧ OutP ob W.heap.size w' a := by
  have hlt := hP.lt
  obtain ⟨i0, hi, hz0, hz1', hz2'⟩ := infoTk1
  have HIN := Lib.hid (And.intro hi (And.intro hz0 (And.intro hz1' hz2')))
  have HR := Lib.hid (show progL l = progG [] l from rfl)
  generalize progL l = R at *
  have HP := Lib.hid hP
  have HE := Lib.hid hE
  have HO := Lib.hid hO
  clear hP hE hO hi hz0 hz1' hz2'
  go_enter Tryz.func35, Tryz.ntmps35
  go_wp2_with fail
  go_loopg [] (l.length) (fun g wr => ∃ (acc l1 : List Tk) (ea : Option Addr) (ec : Nat), g = l1.length ∧ R = progG acc l1 ∧ Ended l1 ∧ Prs wr pb l1 ∧ OutE ob wr ea acc.length ec ∧ wr.ownsRow W.heap.size 37 3 (.slice ea acc.length ec) acc.length (acc.map tkcells).flatten ∧ (∀ t, t ∈ acc → t.Fits) ∧ acc.length + l1.length ≤ l.length ∧ ExtX (fun b => b = pb ∨ b = ob) W wr)
  case atStart => exact ⟨[], l, none, 0, rfl, HR.out, HE.out, HP.out, HO.out, World.ownsRow_nil _ _ _ _, by simp, by simp, ExtX.refl _⟩
  case round =>
    obtain ⟨acc, l1, ea, ec, rfl, hR, hE, hP, hO, hown, hfit, hlen, hx⟩ := hrel
    have HR1 := Lib.hid hR
    have HE1 := Lib.hid hE
    have HP1 := Lib.hid hP
    have HO1 := Lib.hid hO
    have HW1 := Lib.hid hown
    have HF1 := Lib.hid hfit
    have HX1 := Lib.hid hx
    have hsz := hx.size
    have hltr := hP.lt
    have hobr := Blk.lt hO
    cases l1 with
    | nil => exact hE.elim
    | cons t l1 =>
    have KI := Lib.hid fun V (x : Ext wr V) (a : Option Addr) (hr : IsRow V (vstr [w_exn]) a 1) => parse_is [w_exn] pb t l1 V a 1 1 (Nat.le_refl _) (by omega) hr (HP1.out.ext x)
    clear hR hE hP hO hown hfit hx
    cases hi : isT [w_exn] (t :: l1) with
    | false =>
      rw [hi] at KI
      have HI := Lib.hid hi
      clear hi
      have HR2 := Lib.hid (HR1.out.trans (progG_body HI.out))
      go_wp2_with fail
      refine (KI.out _ (by (exact eX)) _ (IsRow.new wr _ (vstr [w_exn]))).mono ?_
      rintro e w2 ⟨rfl, x2⟩
      have y2 : Ext wr w2 := by (exact eX)
      have Y2 := Lib.hid y2
      have KE := Lib.hid (parse_walk pb w2 (t :: l1) (HP1.out.ext y2) HE1.out)
      obtain ⟨f0, -, hT⟩ := parseL_some (nt := .expr) HE1.out
      have HTO := Lib.hid hT
      have hr2 := HR2.out
      unfold bodyG at hr2
      generalize parseL .expr (t :: l1) = r at *
      have HR3 := Lib.hid hr2
      clear x2 y2 hT hr2 HR2
      go_wp2_with fail
      refine KE.out.mono ?_
      intro e w3 hh
      cases r with
      | error l' =>
        obtain ⟨rfl, x3⟩ := hh.error
        have e9 : R = .error l' := HR3.out
        subst e9
        exact ⟨rfl, (HX1.out.then_ Y2.out).trans (x3.mono fun b hb => .inl hb), rfl⟩
      | ok q =>
        obtain ⟨⟨x, ks⟩, l'⟩ := q
        obtain ⟨v, rfl, ⟨a, n, c, rfl, hf, g1, g2, hT⟩, hP3, x3⟩ := hh.ok
        have hO3 : OutE ob w3 ea acc.length ec := (Blk.ext HO1.out Y2.out).nez x3 (by omega)
        have hO3' : Blk w3 ob 41 _ := hO3
        obtain ⟨z0, z1, z2, z3, z4, z5, z6, z7, z8⟩ := hO3'.nine
        obtain ⟨f0', f1, f2, f3, f4, f5, f6, f7, f8⟩ := hO3'.frozen9
        have hlz := hO3'.lt
        have X9 := (ExtX.refl (A := (· = ob)) w3).lay9 (g := ob) (u1 := .int .u8 x.k) (u2 := .int .u8 x.op) (u3 := .int .i64 x.pos) (u4 := .int .i64 x.n) (u5 := .string x.name) (u6 := .string x.arg) (u7 := .string x.exn) (u8 := .slice a n c) (.inl rfl)
        have P9 := Lib.hid (hP3.aside0 hO3 X9 (by omega))
        have B9 := Lib.hid (hO3'.lay9 (u1 := .int .u8 x.k) (u2 := .int .u8 x.op) (u3 := .int .i64 x.pos) (u4 := .int .i64 x.n) (u5 := .string x.name) (u6 := .string x.arg) (u7 := .string x.exn) (u8 := .slice a n c))
        have hys := Below.size Y2.out
        have T9 := Lib.hid ((hT.off (A' := fun b => b < W.heap.size) (fun b _ (hb : b < W.heap.size) => (by show b < w2.heap.size; omega))).lay9 (u1 := .int .u8 x.k) (u2 := .int .u8 x.op) (u3 := .int .i64 x.pos) (u4 := .int .i64 x.n) (u5 := .string x.name) (u6 := .string x.arg) (u7 := .string x.exn) (u8 := .slice a n c) (show ob < W.heap.size by omega))
        have X10 := Lib.hid (((HX1.out.then_ Y2.out).trans (x3.mono (A' := fun b => b = pb ∨ b = ob) (fun b hb => .inl hb))).trans (X9.mono (fun b hb => .inr hb)))
        obtain ⟨na, nc, hv, k1, k2, hTk⟩ := owns_toks HW1.out HF1.out
        have TK9 := Lib.hid ((((hTk.keep (ExtX.of (A := fun _ => False) Y2.out) (fun _ _ h => h)).keep x3 (fun b hb e => by have e : b = pb := e; omega)).keep X9 (fun b hb e => by have e : b = ob := e; omega)))
        have HV := Lib.hid hv
        have HF := Lib.hid hf
        clear hh hO3 hO3' hT hP3 x3 X9 hf hTk hv
        simp only [Tm.head]
        repeat (first | go_values | go_skip | go_guarded | go_step | go_upon)
        have e9 : R = .ok ((acc, .mk x ks), l') := HR3.out
        subst e9
        have hv := HV.out
        cases hv
        exact bodyPost_end (v := .tuple #[]) (results_none rfl _ _ _) rfl ⟨X10.out, rfl, P9.out, HTO.out.1, _, _, _, a, n, c, B9.out, k1, k2, TK9.out, HF.out, g1, g2, T9.out⟩
    | true =>
      rw [hi] at KI
      have HI := Lib.hid hi
      have hne := HE1.out.tail_ne (isT_kind hi)
      clear hi
      have KT := Lib.hid fun V (x : Ext wr V) => parse_take pb t l1 V (HP1.out.ext x)
      cases l1 with
      | nil => exact (hne.1 rfl).elim
      | cons u l2 =>
      have HE2 := Lib.hid hne.2
      clear hne
      go_wp2_with fail
      refine (KI.out _ (by (exact eX)) _ (IsRow.new wr _ (vstr [w_exn]))).mono ?_
      rintro e w2 ⟨rfl, x2⟩
      have y2 : Ext wr w2 := by (exact eX)
      have Y2 := Lib.hid y2
      clear x2 y2
      go_wp2_with fail
      refine (KT.out _ Y2.out).mono ?_
      rintro e w3 ⟨rfl, x3, hp3⟩
      have hP3 := hp3 (by simp)
      have hfu : u.Fits := by obtain ⟨_, _, _, _, _, _, _, _, _, hfu, -⟩ := hP3.open_; exact hfu
      have hO3 : OutE ob w3 ea acc.length ec := (Blk.ext HO1.out Y2.out).nez x3 (by omega)
      have HW3 := Lib.hid (owns_keep x3 (fun k (e : k = pb) => by omega) (owns_ext Y2.out HW1.out))
      have c0 := Blk.cell hO3 0
      simp at c0
      have hl3 := Blk.lt hO3
      have hs3 := x3.size
      have hsy := Below.size Y2.out
      have HP3 := Lib.hid hP3
      have HFU := Lib.hid hfu
      have HO3 := Lib.hid hO3
      have HX3 := Lib.hid ((HX1.out.then_ Y2.out).trans (x3.mono (A' := fun b => b = pb ∨ b = ob) (fun b hb => .inl hb)))
      have hoA : ObA ob W.heap.size ob := .inl rfl
      clear x3 hp3 hP3 hfu hO3 KI KT
      by_cases hu : u.k = 3
      case neg =>
        have e9 : R = .error (u :: l2) := HR1.out.trans (progG_kind HI.out HE1.out hu)
        subst e9
        have KK := Lib.hid fun V (x : Prs V pb (u :: l2)) => parse_kind_no 3 pb u l2 V x hu
        clear hu
        go_upto_region 2 with fail
        refine wp_region_held_drew (S := fun w' => ExtX (fun b => b = pb ∨ ObA ob W.heap.size b) w3 w') (by kernel_rfl) (by (try dsimp only); (exact xX)) (fun hHeld => ?_)
        refine tK 0 (v := ?_) ?_ ?_;rotate_left;(focus (intro w hSw;(try dsimp only at hSw);go_simp;(try with_reducible rfl)));try simp only [Act.put,pA,pB,pC]
        refine tK 2 (v := ?_) ?_ ?_;rotate_left;(focus (intro w hSw;(try dsimp only at hSw);go_simp;(try with_reducible rfl)));try simp only [Act.put,pA,pB,pC]
        refine wpAnyH_ready (rs := [1, 3]) (by kernel_rfl) (by simp) ?_
        refine held_cons 1 rfl (by rfl) (fun K hK => ?_) (held_cons 3 rfl (by rfl) (fun K hK => ?_) AllReadyH.nil)
        go_simp; refine hK.out _ _ (by (try dsimp only); (exact xX)) (fun hHeld => ?_); clear hK K; try simp only [Act.put,pA,pB,pC]
        refine held_do 3 rfl (by kernel_rfl) (by rfl) (fun K hK => ?_); go_simp; (first | (refine (KK.out _ (by have := HP3.out; (exact prX))).mono ?_; rintro e w5 ⟨rfl, x5⟩; exact ⟨rfl, HX3.out.then_ ((by (exact eX) : Ext w3 _).trans x5), rfl⟩))
        rotate_left 0
        go_simp; (first | (refine (KK.out _ (by have := HP3.out; (exact prX))).mono ?_; rintro e w5 ⟨rfl, x5⟩; exact ⟨rfl, HX3.out.then_ ((by (exact eX) : Ext w3 _).trans x5), rfl⟩))
      case pos =>
      have hne := HE2.out.tail_ne (by omega)
      cases l2 with
      | nil => exact (hne.1 rfl).elim
      | cons v l3 =>
      have HE3 := Lib.hid hne.2
      have KK := Lib.hid fun V (x : Prs V pb (u :: v :: l3)) => parse_kind_ok pb u (v :: l3) V x
      rw [hu] at KK
      have HU := Lib.hid hu
      have HSN : Hid ((acc.map tkcells).flatten ++ [.int .u8 3, .string u.text, .int .i64 u.pos] = ((acc ++ [u]).map tkcells).flatten) := Lib.hid (by rw [toks_snoc2]; unfold tkcells; rw [hu])
      have hla : acc.length + 3 ≤ 4001 := by simp only [List.length_cons] at hlen; omega
      clear hne hu
      go_upto_region 2 with fail
      refine wp_region_held_drew (S := fun w' => ExtX (fun b => b = pb ∨ ObA ob W.heap.size b) w3 w') (by kernel_rfl) (by (try dsimp only); (exact xX)) (fun hHeld => ?_)
      refine tK 0 (v := ?_) ?_ ?_;rotate_left;(focus (intro w hSw;(try dsimp only at hSw);go_simp;(try with_reducible rfl)));try simp only [Act.put,pA,pB,pC]
      refine tK 2 (v := ?_) ?_ ?_;rotate_left;(focus (intro w hSw;(try dsimp only at hSw);go_simp;(try with_reducible rfl)));try simp only [Act.put,pA,pB,pC]
      refine wpAnyH_ready (rs := [1, 3]) (by kernel_rfl) (by simp) ?_
      refine held_cons 1 rfl (by rfl) (fun K hK => ?_) (held_cons 3 rfl (by rfl) (fun K hK => ?_) AllReadyH.nil)
      go_simp; refine hK.out _ _ (by (try dsimp only); (exact xX)) (fun hHeld => ?_); clear hK K; try simp only [Act.put,pA,pB,pC]
      refine held_do 3 rfl (by kernel_rfl) (by rfl) (fun K hK => ?_); go_simp; (first | (refine (KK.out _ (by have := HP3.out; (exact prX))).mono ?_; rintro e w5 ⟨rfl, x5, hp5⟩; have HP5 := Lib.hid (hp5 (by simp)); have y5 : ExtX (· = pb) w3 w5 := (by (exact xX) : ExtX (· = pb) w3 _).trans x5; have z5 := y5.mono (A' := fun b => b = pb ∨ ObA ob W.heap.size b) (fun b h => .inl h); have hO5 : OutE ob w5 ea acc.length ec := Blk.nez HO3.out y5 (by omega); have d0 := Blk.cell hO5 0; simp at d0; have l5 := Blk.lt hO5; have HO5 := Lib.hid hO5; have HW5 := Lib.hid (owns_keep y5 (fun k (e : k = pb) => by omega) HW3.out); have hs5 := y5.size; clear hO5 hp5)); (try (focus (go_wp2_with fail))); refine hK.out _ _ (by (try dsimp only); (exact xX)) (fun hHeld => ?_); clear hK K; try simp only [Act.put,pA,pB,pC]
      refine held_do 4 rfl (by kernel_rfl) (by rfl) (fun K hK => ?_); go_simp; refine hK.out _ _ (by (try dsimp only); (exact xX)) (fun hHeld => ?_); clear hK K; try simp only [Act.put,pA,pB,pC]
      refine held_do 5 rfl (by kernel_rfl) (by rfl) (fun K hK => ?_); (first | (refine wp_append_mine (.tmp 9) (.tmp 12) 32 rfl W.heap.size 37 i0 (.agg #[.int .u8 0, .string ByteArray.empty, .int .i64 0]) 3 32 Tryz.underlying32 HIN.out.1 HIN.out.2.1 HIN.out.2.2.1 HIN.out.2.2.2 rfl (by decide) (Value.slice ea acc.length ec) acc.length (acc.map tkcells).flatten rfl (HW5.out.alloc _) ⟨w5.heap.size, 0, none⟩ 1 1 [.int .u8 3, .string u.text, .int .i64 u.pos] rfl rfl (tkcells_at w5 3 u.text u.pos _) (tkcells_one 3 u.text u.pos) (by unfold maxLen; omega) (by omega) (by first | omega | (simp; omega)) ?_; intro v9 w9 ho9 hg9 hw9; rw [HSN.out] at ho9; obtain ⟨na, nc, rfl, k1, k2, hTk⟩ := owns_toks (o := acc ++ [u]) (by rw [List.length_append]; exact ho9) (by intro q hq; rcases List.mem_append.1 hq with hq | hq; exact HF1.out q hq; simp at hq; subst hq; exact HFU.out); have g9 : ExtX (fun b => W.heap.size ≤ b) (w5.alloc (.cells #[.int .u8 3, .string u.text, .int .i64 u.pos] 37)) w9 := ExtX.grow_ (ExtX.refl _) hg9 (fun k hk => (HW5.out.lt k hk).1); have z9 : ExtX (fun b => b = pb ∨ ObA ob W.heap.size b) w3 w9 := (z5.alloc _).trans (g9.mono (fun b hb => .inr (.inr hb))); have hO9 : OutE ob w9 ea acc.length ec := Blk.extx (Blk.alloc HO5.out _) g9 (by omega); have f9 := Blk.frozen hO9 0; have e0 := Blk.cell hO9 0; simp at e0; have hl9 := Blk.lt hO9; have HO9 := Lib.hid hO9; have HW9 := Lib.hid ho9; have HP9 := Lib.hid ((HP5.out.alloc _).grown_ hg9 (fun k hk => by have := (HW5.out.lt k hk).1; omega)); have HTK := Lib.hid hTk; clear hO9 ho9 hg9 hw9 hTk g9)); refine hK.out _ _ (by (try dsimp only); (exact xX)) (fun hHeld => ?_); clear hK K; try simp only [Act.put,pA,pB,pC]
      refine tK 6 (v := ?_) ?_ ?_;rotate_left;(focus (intro w hSw;(try dsimp only at hSw);go_simp;(try with_reducible rfl)));try simp only [Act.put,pA,pB,pC]
      refine held_do 7 rfl (by kernel_rfl) (by rfl) (fun K hK => ?_); go_simp; refine hK.out _ _ (by (try dsimp only); (exact xX)) (fun hHeld => ?_); clear hK K; try simp only [Act.put,pA,pB,pC]
      refine wpAnyH_done (by kernel_rfl) ?_ _
      rotate_left 1
      go_simp; (first | (refine (KK.out _ (by have := HP3.out; (exact prX))).mono ?_; rintro e w5 ⟨rfl, x5, hp5⟩; have HP5 := Lib.hid (hp5 (by simp)); have y5 : ExtX (· = pb) w3 w5 := (by (exact xX) : ExtX (· = pb) w3 _).trans x5; have z5 := y5.mono (A' := fun b => b = pb ∨ ObA ob W.heap.size b) (fun b h => .inl h); have hO5 : OutE ob w5 ea acc.length ec := Blk.nez HO3.out y5 (by omega); have d0 := Blk.cell hO5 0; simp at d0; have l5 := Blk.lt hO5; have HO5 := Lib.hid hO5; have HW5 := Lib.hid (owns_keep y5 (fun k (e : k = pb) => by omega) HW3.out); have hs5 := y5.size; clear hO5 hp5)); (try (focus (go_wp2_with fail))); refine hK.out _ _ (by (try dsimp only); (exact xX)) (fun hHeld => ?_); clear hK K; try simp only [Act.put,pA,pB,pC]
      refine wpAnyH_ready (rs := [1, 4]) (by kernel_rfl) (by simp) ?_
      refine held_cons 1 rfl (by rfl) (fun K hK => ?_) (held_cons 4 rfl (by rfl) (fun K hK => ?_) AllReadyH.nil)
      go_simp; refine hK.out _ _ (by (try dsimp only); (exact xX)) (fun hHeld => ?_); clear hK K; try simp only [Act.put,pA,pB,pC]
      refine held_do 4 rfl (by kernel_rfl) (by rfl) (fun K hK => ?_); go_simp; refine hK.out _ _ (by (try dsimp only); (exact xX)) (fun hHeld => ?_); clear hK K; try simp only [Act.put,pA,pB,pC]
      refine held_do 5 rfl (by kernel_rfl) (by rfl) (fun K hK => ?_); (first | (refine wp_append_mine (.tmp 9) (.tmp 12) 32 rfl W.heap.size 37 i0 (.agg #[.int .u8 0, .string ByteArray.empty, .int .i64 0]) 3 32 Tryz.underlying32 HIN.out.1 HIN.out.2.1 HIN.out.2.2.1 HIN.out.2.2.2 rfl (by decide) (Value.slice ea acc.length ec) acc.length (acc.map tkcells).flatten rfl (HW5.out.alloc _) ⟨w5.heap.size, 0, none⟩ 1 1 [.int .u8 3, .string u.text, .int .i64 u.pos] rfl rfl (tkcells_at w5 3 u.text u.pos _) (tkcells_one 3 u.text u.pos) (by unfold maxLen; omega) (by omega) (by first | omega | (simp; omega)) ?_; intro v9 w9 ho9 hg9 hw9; rw [HSN.out] at ho9; obtain ⟨na, nc, rfl, k1, k2, hTk⟩ := owns_toks (o := acc ++ [u]) (by rw [List.length_append]; exact ho9) (by intro q hq; rcases List.mem_append.1 hq with hq | hq; exact HF1.out q hq; simp at hq; subst hq; exact HFU.out); have g9 : ExtX (fun b => W.heap.size ≤ b) (w5.alloc (.cells #[.int .u8 3, .string u.text, .int .i64 u.pos] 37)) w9 := ExtX.grow_ (ExtX.refl _) hg9 (fun k hk => (HW5.out.lt k hk).1); have z9 : ExtX (fun b => b = pb ∨ ObA ob W.heap.size b) w3 w9 := (z5.alloc _).trans (g9.mono (fun b hb => .inr (.inr hb))); have hO9 : OutE ob w9 ea acc.length ec := Blk.extx (Blk.alloc HO5.out _) g9 (by omega); have f9 := Blk.frozen hO9 0; have e0 := Blk.cell hO9 0; simp at e0; have hl9 := Blk.lt hO9; have HO9 := Lib.hid hO9; have HW9 := Lib.hid ho9; have HP9 := Lib.hid ((HP5.out.alloc _).grown_ hg9 (fun k hk => by have := (HW5.out.lt k hk).1; omega)); have HTK := Lib.hid hTk; clear hO9 ho9 hg9 hw9 hTk g9)); refine hK.out _ _ (by (try dsimp only); (exact xX)) (fun hHeld => ?_); clear hK K; try simp only [Act.put,pA,pB,pC]
      refine tK 6 (v := ?_) ?_ ?_;rotate_left;(focus (intro w hSw;(try dsimp only at hSw);go_simp;(try with_reducible rfl)));try simp only [Act.put,pA,pB,pC]
      refine held_do 7 rfl (by kernel_rfl) (by rfl) (fun K hK => ?_); go_simp; refine hK.out _ _ (by (try dsimp only); (exact xX)) (fun hHeld => ?_); clear hK K; try simp only [Act.put,pA,pB,pC]
      refine wpAnyH_done (by kernel_rfl) ?_ _
      rotate_left 1
      go_simp; refine hK.out _ _ (by (try dsimp only); (exact xX)) (fun hHeld => ?_); clear hK K; try simp only [Act.put,pA,pB,pC]
      refine held_do 1 rfl (by kernel_rfl) (by rfl) (fun K hK => ?_); go_simp; refine hK.out _ _ (by (try dsimp only); (exact xX)) (fun hHeld => ?_); clear hK K; try simp only [Act.put,pA,pB,pC]
      refine held_do 5 rfl (by kernel_rfl) (by rfl) (fun K hK => ?_); (first | (refine wp_append_mine (.tmp 9) (.tmp 12) 32 rfl W.heap.size 37 i0 (.agg #[.int .u8 0, .string ByteArray.empty, .int .i64 0]) 3 32 Tryz.underlying32 HIN.out.1 HIN.out.2.1 HIN.out.2.2.1 HIN.out.2.2.2 rfl (by decide) (Value.slice ea acc.length ec) acc.length (acc.map tkcells).flatten rfl (HW5.out.alloc _) ⟨w5.heap.size, 0, none⟩ 1 1 [.int .u8 3, .string u.text, .int .i64 u.pos] rfl rfl (tkcells_at w5 3 u.text u.pos _) (tkcells_one 3 u.text u.pos) (by unfold maxLen; omega) (by omega) (by first | omega | (simp; omega)) ?_; intro v9 w9 ho9 hg9 hw9; rw [HSN.out] at ho9; obtain ⟨na, nc, rfl, k1, k2, hTk⟩ := owns_toks (o := acc ++ [u]) (by rw [List.length_append]; exact ho9) (by intro q hq; rcases List.mem_append.1 hq with hq | hq; exact HF1.out q hq; simp at hq; subst hq; exact HFU.out); have g9 : ExtX (fun b => W.heap.size ≤ b) (w5.alloc (.cells #[.int .u8 3, .string u.text, .int .i64 u.pos] 37)) w9 := ExtX.grow_ (ExtX.refl _) hg9 (fun k hk => (HW5.out.lt k hk).1); have z9 : ExtX (fun b => b = pb ∨ ObA ob W.heap.size b) w3 w9 := (z5.alloc _).trans (g9.mono (fun b hb => .inr (.inr hb))); have hO9 : OutE ob w9 ea acc.length ec := Blk.extx (Blk.alloc HO5.out _) g9 (by omega); have f9 := Blk.frozen hO9 0; have e0 := Blk.cell hO9 0; simp at e0; have hl9 := Blk.lt hO9; have HO9 := Lib.hid hO9; have HW9 := Lib.hid ho9; have HP9 := Lib.hid ((HP5.out.alloc _).grown_ hg9 (fun k hk => by have := (HW5.out.lt k hk).1; omega)); have HTK := Lib.hid hTk; clear hO9 ho9 hg9 hw9 hTk g9)); refine hK.out _ _ (by (try dsimp only); (exact xX)) (fun hHeld => ?_); clear hK K; try simp only [Act.put,pA,pB,pC]
      refine tK 6 (v := ?_) ?_ ?_;rotate_left;(focus (intro w hSw;(try dsimp only at hSw);go_simp;(try with_reducible rfl)));try simp only [Act.put,pA,pB,pC]
      refine held_do 7 rfl (by kernel_rfl) (by rfl) (fun K hK => ?_); go_simp; refine hK.out _ _ (by (try dsimp only); (exact xX)) (fun hHeld => ?_); clear hK K; try simp only [Act.put,pA,pB,pC]
      refine wpAnyH_done (by kernel_rfl) ?_ _
      rotate_left 1
      all_goals
        have HLA : Hid (acc.length + 1 = (acc ++ [u]).length) := Lib.hid (by simp)
        rw [HLA.out] at hHeld ⊢
        have X10 : ExtX (· = ob) w9 (w9.setCell ⟨ob, 0, none⟩ (.slice na (acc ++ [u]).length nc)) := (ExtX.refl (A := (· = ob)) w9).setCell (p := ⟨ob, 0, none⟩) (.inl rfl) _
        have X11 := Lib.hid (HX3.out.onto hHeld (fun b hb => by rcases hb with h | h | h; exact .inl (.inl h); exact .inl (.inr h); exact .inr h))
        have HO10 : Hid (OutE ob (w9.setCell ⟨ob, 0, none⟩ (.slice na (acc ++ [u]).length nc)) na (acc ++ [u]).length nc) := Lib.hid (by have h := Blk.set_ HO9.out 0 (.slice na (acc ++ [u]).length nc); simp only [List.setIfInBounds_toArray, List.set_cons_zero] at h; exact h)
        have HP10 := Lib.hid (HP9.out.aside0 HO9.out X10 (by omega))
        have HW10 := Lib.hid (owns_keep X10 (fun k (e : k = ob) => by omega) HW9.out)
        have hlr : ob < W.heap.size := by omega
        clear X10 hHeld z9
        generalize w9.setCell ⟨ob, 0, none⟩ (.slice na (acc ++ [u]).length nc) = W10 at *
        cases hv : isT [s_semi] (v :: l3) with
        | false =>
          have e9 : R = .error (v :: l3) := HR1.out.trans (progG_semi HI.out HU.out hv)
          subst e9
          have KV := Lib.hid fun V (x : Ext W10 V) (a : Option Addr) (hr : IsRow V (vstr [s_semi]) a 1) => parse_word_no [s_semi] pb v l3 V a 1 1 (Nat.le_refl _) (by omega) hr (HP10.out.ext x) hv
          clear hv
          go_wp2_with fail
          refine (KV.out _ (by (exact eX)) _ (IsRow.new W10 _ (vstr [s_semi]))).mono ?_
          rintro e w11 ⟨rfl, x11⟩
          exact ⟨rfl, X11.out.then_ (((Ext.refl W10).alloc _).trans x11), rfl⟩
        | true =>
          have e9 := HR1.out.trans (progG_more HI.out HU.out hv)
          have HR9 := Lib.hid e9
          have hne := HE3.out.tail_ne (isT_kind hv)
          have KV := Lib.hid fun V (x : Ext W10 V) (a : Option Addr) (hr : IsRow V (vstr [s_semi]) a 1) => parse_word_ok [s_semi] pb v l3 V a 1 1 (Nat.le_refl _) (by omega) hr (HP10.out.ext x) hv
          have HNE := Lib.hid hne
          clear hv e9 hne
          go_wp2_with fail
          refine (KV.out _ (by (exact eX)) _ (IsRow.new W10 _ (vstr [s_semi]))).mono ?_
          rintro e w11 ⟨rfl, x11, hp11⟩
          have y11 : ExtX (· = pb) W10 w11 := ((ExtX.refl W10).alloc _).trans x11
          have hO11 : OutE ob w11 na (acc ++ [u]).length nc := Blk.nez HO10.out y11 (by omega)
          have HO11 := Lib.hid hO11
          have HW11 := Lib.hid (owns_keep y11 (fun k (e : k = pb) => by omega) HW10.out)
          have HP11 := Lib.hid (hp11 HNE.out.1)
          have X12 := Lib.hid (X11.out.trans (y11.mono (A' := fun b => b = pb ∨ b = ob) (fun b hb => .inl hb)))
          clear y11 x11 hp11 hO11
          go_wp2_with fail
          go_roundg (l3.length)
          case rel => exact ⟨acc ++ [u], l3, na, nc, rfl, HR9.out, HNE.out.2, HP11.out, HO11.out, (by have := HW11.out; rw [HLA.out] at this; exact this), (by intro q hq; rcases List.mem_append.1 hq with hq | hq; exact HF1.out q hq; simp at hq; subst hq; exact HFU.out), by simp only [List.length_append, List.length_cons, List.length_nil] at hlen ⊢; omega, X12.out⟩
          case measure => simp only [List.length_cons]; omega
theorem prog_whole (ob : Nat) : Whole 35 ob progL (OutPZ ob) (OutP ob) := by
  refine ⟨fun pb W l hP hE hl4 hob hO => (prog_call pb ob W l hP hE hl4 hob hO).mono fun e w' h => ⟨h.1, by have h2 := h.2; revert h2; cases progL l <;> exact id⟩, ?_, fun w w' h hx => Blk.ext h hx⟩
  rintro B w w' ⟨es, t⟩ ⟨ea, en, ec, a, n, c, hB, k1, k2, hTk, hf, h1, h2, hT⟩ hx
  exact ⟨ea, en, ec, a, n, c, hB.extx hx (by rintro ⟨-, h⟩; exact h rfl), k1, k2, hTk.keep hx (fun b hb ⟨h, _⟩ => by omega), hf, h1, h2, hT.extx hx (fun b hb => hb.1)⟩
theorem ek_prog : ∀ args w, (callFunc 35 args).run Tryz.prog w = .ok (.enter 35 args) w := fun args w => by kernel_rfl
def IsPg (w : World) (q : List Tk × Tm) (v : Value) : Prop := ∃ ea en ec a n c, v = .agg #[.slice ea en ec, .int .u8 q.2.head.k, .int .u8 q.2.head.op, .int .i64 q.2.head.pos, .int .i64 q.2.head.n, .string q.2.head.name, .string q.2.head.arg, .string q.2.head.exn, .slice a n c] ∧ en ≤ ec ∧ ec ≤ 9223372036854775807 ∧ IsToks w q.1 ea en ∧ q.2.head.Fits ∧ n ≤ c ∧ c ≤ 9223372036854775807 ∧ IsTms w q.2.kids a n
def RetProg (w : World) (r : Except (Int × Int) (List Tk × Tm)) (e : Ending) (w' : World) : Prop := Ext w w' ∧ match r with
  | .error (p, f) => e = .returned (.tuple #[.agg #[.slice none 0 0, .int .u8 0, .int .u8 0, .int .i64 0, .int .i64 0, .string ⟨#[]⟩, .string ⟨#[]⟩, .string ⟨#[]⟩, .slice none 0 0], .int .i64 p, .int .i64 f])
  | .ok q => ∃ v, e = .returned (.tuple #[v, .int .i64 0, .int .i64 0]) ∧ IsPg w' q v
def progR (B : List UInt8) : Except (Int × Int) (List Tk × Tm) := runR progL B
theorem Blk.lay09 {w : World} {g : Nat} {t : TypeId} {c0 c1 c2 c3 c4 c5 c6 c7 c8 u0 u1 u2 u3 u4 u5 u6 u7 u8 : Value} (h : Blk w g t #[c0, c1, c2, c3, c4, c5, c6, c7, c8]) : Blk (Go.Proofs.YtaioeailgknfjaaGreatDoor.lay9 (w.setCell ⟨g, 0, none⟩ u0) g u1 u2 u3 u4 u5 u6 u7 u8) g t #[u0, u1, u2, u3, u4, u5, u6, u7, u8] := by
  have h0 := h.set_ 0 u0
  simp only [List.setIfInBounds_toArray, List.set_cons_zero] at h0
  exact h0.lay9
theorem Ext.lay09 {a w : World} {g : Nat} {u0 u1 u2 u3 u4 u5 u6 u7 u8 : Value} (h : Ext a w) (hg : a.heap.size ≤ g) : Ext a (lay9 (w.setCell ⟨g, 0, none⟩ u0) g u1 u2 u3 u4 u5 u6 u7 u8) :=
  (((((((((h.setCell (p := ⟨g, 0, none⟩) hg u0).setCell (p := ⟨g, 1, none⟩) hg u1).setCell (p := ⟨g, 2, none⟩) hg u2).setCell (p := ⟨g, 3, none⟩) hg u3).setCell (p := ⟨g, 4, none⟩) hg u4).setCell (p := ⟨g, 5, none⟩) hg u5).setCell (p := ⟨g, 6, none⟩) hg u6).setCell (p := ⟨g, 7, none⟩) hg u7).setCell (p := ⟨g, 8, none⟩) hg u8)
theorem ExtX.lay09 {A : Nat → Prop} {a w : World} {g : Nat} {u0 u1 u2 u3 u4 u5 u6 u7 u8 : Value} (h : ExtX A a w) (hg : A g ∨ a.heap.size ≤ g) : ExtX A a (Go.Proofs.YtaioeailgknfjaaGreatDoor.lay9 (w.setCell ⟨g, 0, none⟩ u0) g u1 u2 u3 u4 u5 u6 u7 u8) := (h.setCell (p := ⟨g, 0, none⟩) hg u0).lay9 hg
set_option maxRecDepth 60000 in
set_option maxHeartbeats 4000000 in
theorem parse_prog (B : List UInt8) (w : World) (a : Option Addr) (len cap : Nat) (h1 : len ≤ cap) (h2 : cap ≤ 9223372036854775807) (hr : IsBytes w B a len) (hk : Knob w) :
    Calls Tryz.prog 15 #[.slice a len cap] w (RetProg w (progR B)) := by
  have KR := Lib.hid fun (W : World) (ob : Nat) (h : Ext w W) (hO : OutPZ ob W) (hob : ob < W.heap.size) => parse_run 35 ob ek_prog progL (OutPZ ob) (OutP ob) (prog_whole ob) B W a len cap h1 h2 (hr.ext h) (hk.ext h) hO hob
  have HRE := Lib.hid fun p (h : progR B = .error p) => runR_err h
  have KR : Hid (∀ (W : World) (ob : Nat), Ext w W → OutPZ ob W → ob < W.heap.size → Calls Tryz.prog 29 #[.slice a len cap, .func (.func 35) #[] #[.pointer (some ⟨ob, 0, none⟩)]] W (RetRun ob (OutP ob) W (progR B))) := Lib.hid fun W ob h hO hob => KR.out W ob h hO hob
  generalize progR B = r at *
  clear hr hk
  have hOO : OutPZ (w.heap.size + 1) ((w.alloc (.cells #[.slice none 0 0, .int .u8 0, .int .u8 0, .int .i64 0, .int .i64 0, .string ⟨#[]⟩, .string ⟨#[]⟩, .string ⟨#[]⟩, .slice none 0 0] 41)).alloc (.cells #[.slice none 0 0, .int .u8 0, .int .u8 0, .int .i64 0, .int .i64 0, .string ⟨#[]⟩, .string ⟨#[]⟩, .string ⟨#[]⟩, .slice none 0 0] 41)) := by
    have h := Blk.new (w.alloc (.cells #[.slice none 0 0, .int .u8 0, .int .u8 0, .int .i64 0, .int .i64 0, .string ⟨#[]⟩, .string ⟨#[]⟩, .string ⟨#[]⟩, .slice none 0 0] 41)) 41 #[.slice none 0 0, .int .u8 0, .int .u8 0, .int .i64 0, .int .i64 0, .string ⟨#[]⟩, .string ⟨#[]⟩, .string ⟨#[]⟩, .slice none 0 0]
    rw [World.size_alloc] at h
    exact h
  have hZ0 := (Blk.new w 41 #[.slice none 0 0, .int .u8 0, .int .u8 0, .int .i64 0, .int .i64 0, .string ⟨#[]⟩, .string ⟨#[]⟩, .string ⟨#[]⟩, .slice none 0 0]).alloc (.cells #[.slice none 0 0, .int .u8 0, .int .u8 0, .int .i64 0, .int .i64 0, .string ⟨#[]⟩, .string ⟨#[]⟩, .string ⟨#[]⟩, .slice none 0 0] 41)
  have HOO := Lib.hid hOO
  have HZ0 := Lib.hid hZ0
  clear hOO hZ0
  go_enter Tryz.func15, Tryz.ntmps15
  go_wp2_with fail
  refine (KR.out _ _ (by (exact eX)) HOO.out (by simp)).mono ?_
  rintro e w1 ⟨rfl, x1, hV⟩
  have hZ1 := HZ0.out.extx x1 (show ¬ w.heap.size = w.heap.size + 1 by omega)
  obtain ⟨z0, z1, z2, z3, z4, z5, z6, z7, z8⟩ := hZ1.nine
  obtain ⟨f0, f1, f2, f3, f4, f5, f6, f7, f8⟩ := hZ1.frozen9
  have hlz := hZ1.lt
  have y1 : Ext w w1 := ExtX.ext (w0 := _) (by (exact eX)) x1 (fun b hb => by have hb : b = w.heap.size + 1 := hb; omega)
  have HZ1 := Lib.hid hZ1
  have HY1 := Lib.hid y1
  have HV := Lib.hid hV
  clear hZ1 y1 hV x1
  cases r with
  | error q =>
    obtain ⟨p, f⟩ := q
    have hf := HRE.out _ rfl
    have hfb : (f != 0) = true := by simpa using hf
    simp only [runE]
    clear hf
    have B9 := Lib.hid (HZ1.out.lay09 (u0 := .slice none 0 0) (u1 := .int .u8 0) (u2 := .int .u8 0) (u3 := .int .i64 0) (u4 := .int .i64 0) (u5 := .string ⟨#[]⟩) (u6 := .string ⟨#[]⟩) (u7 := .string ⟨#[]⟩) (u8 := .slice none 0 0))
    have Y9 := Lib.hid (HY1.out.lay09 (g := w.heap.size) (u0 := .slice none 0 0) (u1 := .int .u8 0) (u2 := .int .u8 0) (u3 := .int .i64 0) (u4 := .int .i64 0) (u5 := .string ⟨#[]⟩) (u6 := .string ⟨#[]⟩) (u7 := .string ⟨#[]⟩) (u8 := .slice none 0 0) (Nat.le_refl _))
    unfold lay9 at B9 Y9
    go_wp2_with fail
    obtain ⟨r0, r1, r2, r3, r4, r5, r6, r7, r8⟩ := B9.out.nine
    exact bodyPost_ret (v := .tuple #[.agg #[.slice none 0 0, .int .u8 0, .int .u8 0, .int .i64 0, .int .i64 0, .string ⟨#[]⟩, .string ⟨#[]⟩, .string ⟨#[]⟩, .slice none 0 0], .int .i64 p, .int .i64 f]) (by simp [results, Tryz.results15, go_sem, r0, r1, r2, r3, r4, r5, r6, r7, r8]) rfl ⟨Y9.out, rfl⟩
  | ok t =>
    obtain ⟨B0, hB0, ea, en, ec, ta, tn, tc, hB, k1, k2, hTk, hf, g1, g2, hT⟩ := HV.out t rfl
    obtain ⟨es, x, ks⟩ := t
    simp only [Tm.head, Tm.kids] at hB hf hT hTk
    simp only [runE]
    obtain ⟨c0, c1, c2, c3, c4, c5, c6, c7, c8⟩ := hB.nine
    have hlb := hB.lt
    have B9 := Lib.hid (HZ1.out.lay09 (u0 := .slice ea en ec) (u1 := .int .u8 x.k) (u2 := .int .u8 x.op) (u3 := .int .i64 x.pos) (u4 := .int .i64 x.n) (u5 := .string x.name) (u6 := .string x.arg) (u7 := .string x.exn) (u8 := .slice ta tn tc))
    have Y9 := Lib.hid (HY1.out.lay09 (g := w.heap.size) (u0 := .slice ea en ec) (u1 := .int .u8 x.k) (u2 := .int .u8 x.op) (u3 := .int .i64 x.pos) (u4 := .int .i64 x.n) (u5 := .string x.name) (u6 := .string x.arg) (u7 := .string x.exn) (u8 := .slice ta tn tc) (Nat.le_refl _))
    have hB1 : w.heap.size < B0 := by simp at hB0; omega
    have X9 := (ExtX.refl (A := (· = w.heap.size)) w1).lay09 (g := w.heap.size) (u0 := .slice ea en ec) (u1 := .int .u8 x.k) (u2 := .int .u8 x.op) (u3 := .int .i64 x.pos) (u4 := .int .i64 x.n) (u5 := .string x.name) (u6 := .string x.arg) (u7 := .string x.exn) (u8 := .slice ta tn tc) (.inl rfl)
    have T9 := Lib.hid (hT.extx X9 (fun b (e : b = w.heap.size) => by subst e; exact hB1))
    have TK9 := Lib.hid (hTk.keep X9 (fun b hb (e : b = w.heap.size) => by omega))
    have HF := Lib.hid hf
    unfold lay9 at B9 Y9 T9 TK9
    clear hB hf hT hTk X9
    go_wp2_with fail
    obtain ⟨r0, r1, r2, r3, r4, r5, r6, r7, r8⟩ := B9.out.nine
    exact bodyPost_ret (v := .tuple #[.agg #[.slice ea en ec, .int .u8 x.k, .int .u8 x.op, .int .i64 x.pos, .int .i64 x.n, .string x.name, .string x.arg, .string x.exn, .slice ta tn tc], .int .i64 0, .int .i64 0]) (by simp [results, Tryz.results15, go_sem, r0, r1, r2, r3, r4, r5, r6, r7, r8]) rfl ⟨Y9.out, _, rfl, ea, en, ec, ta, tn, tc, rfl, k1, k2, TK9.out.1, HF.out, g1, g2, T9.out.any⟩
end Go.Proofs.YtaioeailgknfjaaGreatDoor

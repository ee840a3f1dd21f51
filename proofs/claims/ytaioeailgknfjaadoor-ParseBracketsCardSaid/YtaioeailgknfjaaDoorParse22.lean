/- The walk of the closure of parse.Parse: exceptions one by one, and the term behind them. -/
import Derived.Test.YtaioeailgknfjaaDoorParse21
namespace Go.Proofs.YtaioeailgknfjaaDoor
open Go Go.RowKit Go.Sort

set_option maxRecDepth 60000 in
set_option maxHeartbeats 8000000 in
theorem prog_call (pb ob : Nat) (W : World) (l : List Tk) (hP : Prs W pb l) (hE : Ended l) (hl4 : l.length ≤ 4001) (hob : ob < pb) (hO : OutPZ ob W) :
    Calls Tryd.prog 23 #[.pointer (some ⟨pb, 0, none⟩), .pointer (some ⟨ob, 0, none⟩)] W fun e w' => ExtX (fun b => b = pb ∨ b = ob) W w' ∧ match progL l with
    | .error l' => e = thrown l'
    | .ok (a, l') => e = .returned (.tuple #[]) ∧ Prs w' pb l' ∧ Ended l' ∧ OutP ob W.heap.size w' a := by
  have hlt := hP.lt
  obtain ⟨i0, hi, hz0, hz1', hz2'⟩ := infoTk1
  have HIN := Lib.hid (And.intro hi (And.intro hz0 (And.intro hz1' hz2')))
  have HR := Lib.hid (show progL l = progG [] l from rfl)
  generalize progL l = R at *
  have HP := Lib.hid hP
  have HE := Lib.hid hE
  have HO := Lib.hid hO
  clear hP hE hO hi hz0 hz1' hz2'
  go_enter Tryd.func23, Tryd.ntmps23
  go_wp2_with fail
  go_loopg [] (l.length) (fun g wr => ∃ (acc l1 : List Tk) (ea : Option Addr) (ec : Nat), g = l1.length ∧ R = progG acc l1 ∧ Ended l1 ∧ Prs wr pb l1 ∧ OutE ob wr ea acc.length ec ∧ wr.ownsRow W.heap.size 48 3 (.slice ea acc.length ec) acc.length (acc.map tkcells).flatten ∧ (∀ t, t ∈ acc → t.Fits) ∧ acc.length + l1.length ≤ l.length ∧ ExtX (fun b => b = pb ∨ b = ob) W wr)
  case atStart => exact ⟨[], l, none, 0, rfl, HR.out, HE.out, HP.out, HO.out, World.ownsRow_nil _ _ _ _, by simp, by simp, ExtX.refl _⟩
  case round =>
    obtain ⟨acc, l1, ea, ec, rfl, hR, hE, hP, hO, hown, hfit, hlen, hx⟩ := hrel
    have HR1 := Lib.hid hR
    have HE1 := Lib.hid hE
    have HP1 := Lib.hid hP
    have HO1 := Lib.hid hO
    have HW1 := Lib.hid hown
    have HF1 := Lib.hid hfit
    have HX1 := Lib.hid hx
    have hsz := hx.size
    have hltr := hP.lt
    have hobr := Blk.lt hO
    cases l1 with
    | nil => exact hE.elim
    | cons t l1 =>
    have KI := Lib.hid fun V (x : Ext wr V) (a : Option Addr) (hr : IsRow V (vstr [w_exn]) a 1) => parse_is [w_exn] pb t l1 V a 1 1 (Nat.le_refl _) (by omega) hr (HP1.out.ext x)
    clear hR hE hP hO hown hfit hx
    cases hi : isT [w_exn] (t :: l1) with
    | false =>
      rw [hi] at KI
      have HI := Lib.hid hi
      clear hi
      have HR2 := Lib.hid (HR1.out.trans (progG_body HI.out))
      go_wp2_with fail
      refine (KI.out _ (by (repeat (first | (with_reducible assumption) | (with_reducible exact Ext.refl _) | (with_reducible refine Ext.alloc ?_ _) | (with_reducible refine Ext.drew ?_) | ((with_reducible refine Ext.setCell ?_ ?_ _); rotate_left 1; (first | (focus (simp; done)) | (focus (simp; omega)) | omega)) | exact Ext.refl _ | assumption | refine Ext.alloc ?_ _ | refine Ext.drew ?_ | refine Ext.setCell ?_ (by (first | (focus (simp; done)) | (focus (simp; omega)) | omega)) _ | refine Ext.trans ?_ (by assumption)))) _ (IsRow.new wr _ (vstr [w_exn]))).mono ?_
      rintro e w2 ⟨rfl, x2⟩
      have y2 : Ext wr w2 := by (repeat (first | (with_reducible assumption) | (with_reducible exact Ext.refl _) | (with_reducible refine Ext.alloc ?_ _) | (with_reducible refine Ext.drew ?_) | ((with_reducible refine Ext.setCell ?_ ?_ _); rotate_left 1; (first | (focus (simp; done)) | (focus (simp; omega)) | omega)) | exact Ext.refl _ | assumption | refine Ext.alloc ?_ _ | refine Ext.drew ?_ | refine Ext.setCell ?_ (by (first | (focus (simp; done)) | (focus (simp; omega)) | omega)) _ | refine Ext.trans ?_ (by assumption)))
      have Y2 := Lib.hid y2
      have KE := Lib.hid (parse_walk pb w2 (t :: l1) (HP1.out.ext y2) HE1.out)
      obtain ⟨f0, -, hT⟩ := parseL_some (nt := .expr) HE1.out
      have HTO := Lib.hid hT
      have hr2 := HR2.out
      unfold bodyG at hr2
      generalize parseL .expr (t :: l1) = r at *
      have HR3 := Lib.hid hr2
      clear x2 y2 hT hr2 HR2
      go_wp2_with fail
      refine KE.out.mono ?_
      intro e w3 hh
      cases r with
      | error l' =>
        obtain ⟨rfl, x3⟩ := hh.error
        have e9 : R = .error l' := HR3.out
        subst e9
        exact ⟨rfl, (HX1.out.then_ Y2.out).trans (x3.mono fun b hb => .inl hb), rfl⟩
      | ok q =>
        obtain ⟨⟨x, ks⟩, l'⟩ := q
        obtain ⟨v, rfl, ⟨a, n, c, rfl, hf, g1, g2, hT⟩, hP3, x3⟩ := hh.ok
        have hO3 : OutE ob w3 ea acc.length ec := (Blk.ext HO1.out Y2.out).nez x3 (by omega)
        have hO3' : Blk w3 ob 44 _ := hO3
        obtain ⟨z0, z1, z2, z3, z4, z5, z6, z7, z8⟩ := hO3'.nine
        obtain ⟨f0', f1, f2, f3, f4, f5, f6, f7, f8⟩ := hO3'.frozen9
        have hlz := hO3'.lt
        have X9 := (ExtX.refl (A := (· = ob)) w3).lay9 (g := ob) (u1 := .int .u8 x.k) (u2 := .int .u8 x.op) (u3 := .int .i64 x.pos) (u4 := .int .i64 x.n) (u5 := .string x.name) (u6 := .string x.arg) (u7 := .string x.exn) (u8 := .slice a n c) (.inl rfl)
        have P9 := Lib.hid (hP3.aside0 hO3 X9 (by omega))
        have B9 := Lib.hid (hO3'.lay9 (u1 := .int .u8 x.k) (u2 := .int .u8 x.op) (u3 := .int .i64 x.pos) (u4 := .int .i64 x.n) (u5 := .string x.name) (u6 := .string x.arg) (u7 := .string x.exn) (u8 := .slice a n c))
        have hys := Below.size Y2.out
        have T9 := Lib.hid ((hT.off (A' := fun b => b < W.heap.size) (fun b _ (hb : b < W.heap.size) => (by show b < w2.heap.size; omega))).lay9 (u1 := .int .u8 x.k) (u2 := .int .u8 x.op) (u3 := .int .i64 x.pos) (u4 := .int .i64 x.n) (u5 := .string x.name) (u6 := .string x.arg) (u7 := .string x.exn) (u8 := .slice a n c) (show ob < W.heap.size by omega))
        have X10 := Lib.hid (((HX1.out.then_ Y2.out).trans (x3.mono (A' := fun b => b = pb ∨ b = ob) (fun b hb => .inl hb))).trans (X9.mono (fun b hb => .inr hb)))
        obtain ⟨na, nc, hv, k1, k2, hTk⟩ := owns_toks HW1.out HF1.out
        have TK9 := Lib.hid ((((hTk.keep (ExtX.of (A := fun _ => False) Y2.out) (fun _ _ h => h)).keep x3 (fun b hb e => by have e : b = pb := e; omega)).keep X9 (fun b hb e => by have e : b = ob := e; omega)))
        have HV := Lib.hid hv
        have HF := Lib.hid hf
        clear hh hO3 hO3' hT hP3 x3 X9 hf hTk hv
        simp only [Tm.head]
        repeat (first | go_values | go_skip | go_guarded | go_step | go_upon)
        have e9 : R = .ok ((acc, .mk x ks), l') := HR3.out
        subst e9
        have hv := HV.out
        cases hv
        exact bodyPost_end (v := .tuple #[]) (results_none rfl _ _ _) rfl ⟨X10.out, rfl, P9.out, HTO.out.1, _, _, _, a, n, c, B9.out, k1, k2, TK9.out, HF.out, g1, g2, T9.out⟩
    | true =>
      rw [hi] at KI
      have HI := Lib.hid hi
      have hne := HE1.out.tail_ne (isT_kind hi)
      clear hi
      have KT := Lib.hid fun V (x : Ext wr V) => parse_take pb t l1 V (HP1.out.ext x)
      cases l1 with
      | nil => exact (hne.1 rfl).elim
      | cons u l2 =>
      have HE2 := Lib.hid hne.2
      clear hne
      go_wp2_with fail
      refine (KI.out _ (by (repeat (first | (with_reducible assumption) | (with_reducible exact Ext.refl _) | (with_reducible refine Ext.alloc ?_ _) | (with_reducible refine Ext.drew ?_) | ((with_reducible refine Ext.setCell ?_ ?_ _); rotate_left 1; (first | (focus (simp; done)) | (focus (simp; omega)) | omega)) | exact Ext.refl _ | assumption | refine Ext.alloc ?_ _ | refine Ext.drew ?_ | refine Ext.setCell ?_ (by (first | (focus (simp; done)) | (focus (simp; omega)) | omega)) _ | refine Ext.trans ?_ (by assumption)))) _ (IsRow.new wr _ (vstr [w_exn]))).mono ?_
      rintro e w2 ⟨rfl, x2⟩
      have y2 : Ext wr w2 := by (repeat (first | (with_reducible assumption) | (with_reducible exact Ext.refl _) | (with_reducible refine Ext.alloc ?_ _) | (with_reducible refine Ext.drew ?_) | ((with_reducible refine Ext.setCell ?_ ?_ _); rotate_left 1; (first | (focus (simp; done)) | (focus (simp; omega)) | omega)) | exact Ext.refl _ | assumption | refine Ext.alloc ?_ _ | refine Ext.drew ?_ | refine Ext.setCell ?_ (by (first | (focus (simp; done)) | (focus (simp; omega)) | omega)) _ | refine Ext.trans ?_ (by assumption)))
      have Y2 := Lib.hid y2
      clear x2 y2
      go_wp2_with fail
      refine (KT.out _ Y2.out).mono ?_
      rintro e w3 ⟨rfl, x3, hp3⟩
      have hP3 := hp3 (by simp)
      have hfu : u.Fits := by obtain ⟨_, _, _, _, _, _, _, _, _, hfu, -⟩ := hP3.open_; exact hfu
      have hO3 : OutE ob w3 ea acc.length ec := (Blk.ext HO1.out Y2.out).nez x3 (by omega)
      have HW3 := Lib.hid (owns_keep x3 (fun k (e : k = pb) => by omega) (owns_ext Y2.out HW1.out))
      have c0 := Blk.cell hO3 0
      simp at c0
      have hl3 := Blk.lt hO3
      have hs3 := x3.size
      have hsy := Below.size Y2.out
      have HP3 := Lib.hid hP3
      have HFU := Lib.hid hfu
      have HO3 := Lib.hid hO3
      have HX3 := Lib.hid ((HX1.out.then_ Y2.out).trans (x3.mono (A' := fun b => b = pb ∨ b = ob) (fun b hb => .inl hb)))
      have hoA : ObA ob W.heap.size ob := .inl rfl
      clear x3 hp3 hP3 hfu hO3 KI KT
      by_cases hu : u.k = 3
      case neg =>
        have e9 : R = .error (u :: l2) := HR1.out.trans (progG_kind HI.out HE1.out hu)
        subst e9
        have KK := Lib.hid fun V (x : Prs V pb (u :: l2)) => parse_kind_no 3 pb u l2 V x hu
        clear hu
        go_upto_region 2 with fail
        refine wp_region_held_drew (S := fun w' => ExtX (fun b => b = pb ∨ ObA ob W.heap.size b) w3 w') (by kernel_rfl) (by (try dsimp only); (repeat (first | (with_reducible assumption) | (with_reducible exact ExtX.refl _) | (with_reducible refine ExtX.alloc ?_ _) | (with_reducible refine ExtX.drew ?_) | ((with_reducible refine ExtX.setCell ?_ ?_ _); rotate_left 1; (first | (left; rfl) | (left; left; rfl) | (left; right; rfl) | (left; right; exact Nat.le_refl _) | (left; right; assumption) | (right; (focus (simp; done))) | (right; (focus (simp; omega))) | (right; omega))) | (with_reducible refine ExtX.then_ ?_ (by with_reducible assumption))))) (fun hHeld => ?_)
        refine held_take 0 (v := ?_) rfl (by kernel_rfl) (by kernel_rfl) (by kernel_rfl) (fun _ _ _ h => h) (by assumption) (by rfl) ?_ ?_; rotate_left; (focus (intro w hSw; (try dsimp only at hSw); go_simp; (try with_reducible rfl))); try simp only [Act.put, List.setIfInBounds_toArray, List.set_cons_zero, List.set_cons_succ]
        refine held_take 2 (v := ?_) rfl (by kernel_rfl) (by kernel_rfl) (by kernel_rfl) (fun _ _ _ h => h) (by assumption) (by rfl) ?_ ?_; rotate_left; (focus (intro w hSw; (try dsimp only at hSw); go_simp; (try with_reducible rfl))); try simp only [Act.put, List.setIfInBounds_toArray, List.set_cons_zero, List.set_cons_succ]
        refine wpAnyH_ready (rs := [1, 3]) (by kernel_rfl) (by simp) ?_
        refine held_cons 1 rfl (by rfl) (fun K hK => ?_) (held_cons 3 rfl (by rfl) (fun K hK => ?_) AllReadyH.nil)
        go_simp; refine hK.out _ _ (by (try dsimp only); (repeat (first | (with_reducible assumption) | (with_reducible exact ExtX.refl _) | (with_reducible refine ExtX.alloc ?_ _) | (with_reducible refine ExtX.drew ?_) | ((with_reducible refine ExtX.setCell ?_ ?_ _); rotate_left 1; (first | (left; rfl) | (left; left; rfl) | (left; right; rfl) | (left; right; exact Nat.le_refl _) | (left; right; assumption) | (right; (focus (simp; done))) | (right; (focus (simp; omega))) | (right; omega))) | (with_reducible refine ExtX.then_ ?_ (by with_reducible assumption))))) (fun hHeld => ?_); clear hK K; try simp only [Act.put, List.setIfInBounds_toArray, List.set_cons_zero, List.set_cons_succ]
        refine held_do 3 rfl (by kernel_rfl) (by rfl) (fun K hK => ?_); go_simp; (first | (refine (KK.out _ (by have := HP3.out; (repeat (first | (with_reducible assumption) | (with_reducible refine Prs.alloc ?_ _) | (with_reducible refine Prs.drew ?_) | ((with_reducible refine Prs.far ?_ ?_ _); rotate_left 1; (first | assumption | (focus (simp; done)) | (focus (simp; omega)) | omega)))))).mono ?_; rintro e w5 ⟨rfl, x5⟩; exact ⟨rfl, HX3.out.then_ ((by (repeat (first | (with_reducible assumption) | (with_reducible exact Ext.refl _) | (with_reducible refine Ext.alloc ?_ _) | (with_reducible refine Ext.drew ?_) | ((with_reducible refine Ext.setCell ?_ ?_ _); rotate_left 1; (first | (focus (simp; done)) | (focus (simp; omega)) | omega)) | exact Ext.refl _ | assumption | refine Ext.alloc ?_ _ | refine Ext.drew ?_ | refine Ext.setCell ?_ (by (first | (focus (simp; done)) | (focus (simp; omega)) | omega)) _ | refine Ext.trans ?_ (by assumption))) : Ext w3 _).trans x5), rfl⟩))
        rotate_left 0
        go_simp; (first | (refine (KK.out _ (by have := HP3.out; (repeat (first | (with_reducible assumption) | (with_reducible refine Prs.alloc ?_ _) | (with_reducible refine Prs.drew ?_) | ((with_reducible refine Prs.far ?_ ?_ _); rotate_left 1; (first | assumption | (focus (simp; done)) | (focus (simp; omega)) | omega)))))).mono ?_; rintro e w5 ⟨rfl, x5⟩; exact ⟨rfl, HX3.out.then_ ((by (repeat (first | (with_reducible assumption) | (with_reducible exact Ext.refl _) | (with_reducible refine Ext.alloc ?_ _) | (with_reducible refine Ext.drew ?_) | ((with_reducible refine Ext.setCell ?_ ?_ _); rotate_left 1; (first | (focus (simp; done)) | (focus (simp; omega)) | omega)) | exact Ext.refl _ | assumption | refine Ext.alloc ?_ _ | refine Ext.drew ?_ | refine Ext.setCell ?_ (by (first | (focus (simp; done)) | (focus (simp; omega)) | omega)) _ | refine Ext.trans ?_ (by assumption))) : Ext w3 _).trans x5), rfl⟩))
      case pos =>
      have hne := HE2.out.tail_ne (by omega)
      cases l2 with
      | nil => exact (hne.1 rfl).elim
      | cons v l3 =>
      have HE3 := Lib.hid hne.2
      have KK := Lib.hid fun V (x : Prs V pb (u :: v :: l3)) => parse_kind_ok pb u (v :: l3) V x
      rw [hu] at KK
      have HU := Lib.hid hu
      have HSN : Hid ((acc.map tkcells).flatten ++ [.int .u8 3, .string u.text, .int .i64 u.pos] = ((acc ++ [u]).map tkcells).flatten) := Lib.hid (by rw [toks_snoc2]; unfold tkcells; rw [hu])
      have hla : acc.length + 3 ≤ 4001 := by simp only [List.length_cons] at hlen; omega
      clear hne hu
      go_upto_region 2 with fail
      refine wp_region_held_drew (S := fun w' => ExtX (fun b => b = pb ∨ ObA ob W.heap.size b) w3 w') (by kernel_rfl) (by (try dsimp only); (repeat (first | (with_reducible assumption) | (with_reducible exact ExtX.refl _) | (with_reducible refine ExtX.alloc ?_ _) | (with_reducible refine ExtX.drew ?_) | ((with_reducible refine ExtX.setCell ?_ ?_ _); rotate_left 1; (first | (left; rfl) | (left; left; rfl) | (left; right; rfl) | (left; right; exact Nat.le_refl _) | (left; right; assumption) | (right; (focus (simp; done))) | (right; (focus (simp; omega))) | (right; omega))) | (with_reducible refine ExtX.then_ ?_ (by with_reducible assumption))))) (fun hHeld => ?_)
      refine held_take 0 (v := ?_) rfl (by kernel_rfl) (by kernel_rfl) (by kernel_rfl) (fun _ _ _ h => h) (by assumption) (by rfl) ?_ ?_; rotate_left; (focus (intro w hSw; (try dsimp only at hSw); go_simp; (try with_reducible rfl))); try simp only [Act.put, List.setIfInBounds_toArray, List.set_cons_zero, List.set_cons_succ]
      refine held_take 2 (v := ?_) rfl (by kernel_rfl) (by kernel_rfl) (by kernel_rfl) (fun _ _ _ h => h) (by assumption) (by rfl) ?_ ?_; rotate_left; (focus (intro w hSw; (try dsimp only at hSw); go_simp; (try with_reducible rfl))); try simp only [Act.put, List.setIfInBounds_toArray, List.set_cons_zero, List.set_cons_succ]
      refine wpAnyH_ready (rs := [1, 3]) (by kernel_rfl) (by simp) ?_
      refine held_cons 1 rfl (by rfl) (fun K hK => ?_) (held_cons 3 rfl (by rfl) (fun K hK => ?_) AllReadyH.nil)
      go_simp; refine hK.out _ _ (by (try dsimp only); (repeat (first | (with_reducible assumption) | (with_reducible exact ExtX.refl _) | (with_reducible refine ExtX.alloc ?_ _) | (with_reducible refine ExtX.drew ?_) | ((with_reducible refine ExtX.setCell ?_ ?_ _); rotate_left 1; (first | (left; rfl) | (left; left; rfl) | (left; right; rfl) | (left; right; exact Nat.le_refl _) | (left; right; assumption) | (right; (focus (simp; done))) | (right; (focus (simp; omega))) | (right; omega))) | (with_reducible refine ExtX.then_ ?_ (by with_reducible assumption))))) (fun hHeld => ?_); clear hK K; try simp only [Act.put, List.setIfInBounds_toArray, List.set_cons_zero, List.set_cons_succ]
      refine held_do 3 rfl (by kernel_rfl) (by rfl) (fun K hK => ?_); go_simp; (first | (refine (KK.out _ (by have := HP3.out; (repeat (first | (with_reducible assumption) | (with_reducible refine Prs.alloc ?_ _) | (with_reducible refine Prs.drew ?_) | ((with_reducible refine Prs.far ?_ ?_ _); rotate_left 1; (first | assumption | (focus (simp; done)) | (focus (simp; omega)) | omega)))))).mono ?_; rintro e w5 ⟨rfl, x5, hp5⟩; have HP5 := Lib.hid (hp5 (by simp)); have y5 : ExtX (· = pb) w3 w5 := (by (repeat (first | (with_reducible assumption) | (with_reducible exact ExtX.refl _) | (with_reducible refine ExtX.alloc ?_ _) | (with_reducible refine ExtX.drew ?_) | ((with_reducible refine ExtX.setCell ?_ ?_ _); rotate_left 1; (first | (left; rfl) | (left; left; rfl) | (left; right; rfl) | (left; right; exact Nat.le_refl _) | (left; right; assumption) | (right; (focus (simp; done))) | (right; (focus (simp; omega))) | (right; omega))) | (with_reducible refine ExtX.then_ ?_ (by with_reducible assumption)))) : ExtX (· = pb) w3 _).trans x5; have z5 := y5.mono (A' := fun b => b = pb ∨ ObA ob W.heap.size b) (fun b h => .inl h); have hO5 : OutE ob w5 ea acc.length ec := Blk.nez HO3.out y5 (by omega); have d0 := Blk.cell hO5 0; simp at d0; have l5 := Blk.lt hO5; have HO5 := Lib.hid hO5; have HW5 := Lib.hid (owns_keep y5 (fun k (e : k = pb) => by omega) HW3.out); have hs5 := y5.size; clear hO5 hp5)); (try (focus (go_wp2_with fail))); refine hK.out _ _ (by (try dsimp only); (repeat (first | (with_reducible assumption) | (with_reducible exact ExtX.refl _) | (with_reducible refine ExtX.alloc ?_ _) | (with_reducible refine ExtX.drew ?_) | ((with_reducible refine ExtX.setCell ?_ ?_ _); rotate_left 1; (first | (left; rfl) | (left; left; rfl) | (left; right; rfl) | (left; right; exact Nat.le_refl _) | (left; right; assumption) | (right; (focus (simp; done))) | (right; (focus (simp; omega))) | (right; omega))) | (with_reducible refine ExtX.then_ ?_ (by with_reducible assumption))))) (fun hHeld => ?_); clear hK K; try simp only [Act.put, List.setIfInBounds_toArray, List.set_cons_zero, List.set_cons_succ]
      refine held_do 4 rfl (by kernel_rfl) (by rfl) (fun K hK => ?_); go_simp; refine hK.out _ _ (by (try dsimp only); (repeat (first | (with_reducible assumption) | (with_reducible exact ExtX.refl _) | (with_reducible refine ExtX.alloc ?_ _) | (with_reducible refine ExtX.drew ?_) | ((with_reducible refine ExtX.setCell ?_ ?_ _); rotate_left 1; (first | (left; rfl) | (left; left; rfl) | (left; right; rfl) | (left; right; exact Nat.le_refl _) | (left; right; assumption) | (right; (focus (simp; done))) | (right; (focus (simp; omega))) | (right; omega))) | (with_reducible refine ExtX.then_ ?_ (by with_reducible assumption))))) (fun hHeld => ?_); clear hK K; try simp only [Act.put, List.setIfInBounds_toArray, List.set_cons_zero, List.set_cons_succ]
      refine held_do 5 rfl (by kernel_rfl) (by rfl) (fun K hK => ?_); (first | (refine wp_append_mine (.tmp 9) (.tmp 12) 24 rfl W.heap.size 48 i0 (.agg #[.int .u8 0, .string ByteArray.empty, .int .i64 0]) 3 32 Tryd.underlying24 HIN.out.1 HIN.out.2.1 HIN.out.2.2.1 HIN.out.2.2.2 rfl (by decide) (Value.slice ea acc.length ec) acc.length (acc.map tkcells).flatten rfl (HW5.out.alloc _) ⟨w5.heap.size, 0, none⟩ 1 1 [.int .u8 3, .string u.text, .int .i64 u.pos] rfl rfl (tkcells_at w5 3 u.text u.pos _) (tkcells_one 3 u.text u.pos) (by unfold maxLen; omega) (by omega) (by first | omega | (simp; omega)) ?_; intro v9 w9 ho9 hg9 hw9; rw [HSN.out] at ho9; obtain ⟨na, nc, rfl, k1, k2, hTk⟩ := owns_toks (o := acc ++ [u]) (by rw [List.length_append]; exact ho9) (by intro q hq; rcases List.mem_append.1 hq with hq | hq; exact HF1.out q hq; simp at hq; subst hq; exact HFU.out); have g9 : ExtX (fun b => W.heap.size ≤ b) (w5.alloc (.cells #[.int .u8 3, .string u.text, .int .i64 u.pos] 48)) w9 := ExtX.grow_ (ExtX.refl _) hg9 (fun k hk => (HW5.out.lt k hk).1); have z9 : ExtX (fun b => b = pb ∨ ObA ob W.heap.size b) w3 w9 := (z5.alloc _).trans (g9.mono (fun b hb => .inr (.inr hb))); have hO9 : OutE ob w9 ea acc.length ec := Blk.extx (Blk.alloc HO5.out _) g9 (by omega); have f9 := Blk.frozen hO9 0; have e0 := Blk.cell hO9 0; simp at e0; have hl9 := Blk.lt hO9; have HO9 := Lib.hid hO9; have HW9 := Lib.hid ho9; have HP9 := Lib.hid ((HP5.out.alloc _).grown_ hg9 (fun k hk => by have := (HW5.out.lt k hk).1; omega)); have HTK := Lib.hid hTk; clear hO9 ho9 hg9 hw9 hTk g9)); refine hK.out _ _ (by (try dsimp only); (repeat (first | (with_reducible assumption) | (with_reducible exact ExtX.refl _) | (with_reducible refine ExtX.alloc ?_ _) | (with_reducible refine ExtX.drew ?_) | ((with_reducible refine ExtX.setCell ?_ ?_ _); rotate_left 1; (first | (left; rfl) | (left; left; rfl) | (left; right; rfl) | (left; right; exact Nat.le_refl _) | (left; right; assumption) | (right; (focus (simp; done))) | (right; (focus (simp; omega))) | (right; omega))) | (with_reducible refine ExtX.then_ ?_ (by with_reducible assumption))))) (fun hHeld => ?_); clear hK K; try simp only [Act.put, List.setIfInBounds_toArray, List.set_cons_zero, List.set_cons_succ]
      refine held_take 6 (v := ?_) rfl (by kernel_rfl) (by kernel_rfl) (by kernel_rfl) (fun _ _ _ h => h) (by assumption) (by rfl) ?_ ?_; rotate_left; (focus (intro w hSw; (try dsimp only at hSw); go_simp; (try with_reducible rfl))); try simp only [Act.put, List.setIfInBounds_toArray, List.set_cons_zero, List.set_cons_succ]
      refine held_do 7 rfl (by kernel_rfl) (by rfl) (fun K hK => ?_); go_simp; refine hK.out _ _ (by (try dsimp only); (repeat (first | (with_reducible assumption) | (with_reducible exact ExtX.refl _) | (with_reducible refine ExtX.alloc ?_ _) | (with_reducible refine ExtX.drew ?_) | ((with_reducible refine ExtX.setCell ?_ ?_ _); rotate_left 1; (first | (left; rfl) | (left; left; rfl) | (left; right; rfl) | (left; right; exact Nat.le_refl _) | (left; right; assumption) | (right; (focus (simp; done))) | (right; (focus (simp; omega))) | (right; omega))) | (with_reducible refine ExtX.then_ ?_ (by with_reducible assumption))))) (fun hHeld => ?_); clear hK K; try simp only [Act.put, List.setIfInBounds_toArray, List.set_cons_zero, List.set_cons_succ]
      refine wpAnyH_done (by kernel_rfl) ?_ _
      rotate_left 1
      go_simp; (first | (refine (KK.out _ (by have := HP3.out; (repeat (first | (with_reducible assumption) | (with_reducible refine Prs.alloc ?_ _) | (with_reducible refine Prs.drew ?_) | ((with_reducible refine Prs.far ?_ ?_ _); rotate_left 1; (first | assumption | (focus (simp; done)) | (focus (simp; omega)) | omega)))))).mono ?_; rintro e w5 ⟨rfl, x5, hp5⟩; have HP5 := Lib.hid (hp5 (by simp)); have y5 : ExtX (· = pb) w3 w5 := (by (repeat (first | (with_reducible assumption) | (with_reducible exact ExtX.refl _) | (with_reducible refine ExtX.alloc ?_ _) | (with_reducible refine ExtX.drew ?_) | ((with_reducible refine ExtX.setCell ?_ ?_ _); rotate_left 1; (first | (left; rfl) | (left; left; rfl) | (left; right; rfl) | (left; right; exact Nat.le_refl _) | (left; right; assumption) | (right; (focus (simp; done))) | (right; (focus (simp; omega))) | (right; omega))) | (with_reducible refine ExtX.then_ ?_ (by with_reducible assumption)))) : ExtX (· = pb) w3 _).trans x5; have z5 := y5.mono (A' := fun b => b = pb ∨ ObA ob W.heap.size b) (fun b h => .inl h); have hO5 : OutE ob w5 ea acc.length ec := Blk.nez HO3.out y5 (by omega); have d0 := Blk.cell hO5 0; simp at d0; have l5 := Blk.lt hO5; have HO5 := Lib.hid hO5; have HW5 := Lib.hid (owns_keep y5 (fun k (e : k = pb) => by omega) HW3.out); have hs5 := y5.size; clear hO5 hp5)); (try (focus (go_wp2_with fail))); refine hK.out _ _ (by (try dsimp only); (repeat (first | (with_reducible assumption) | (with_reducible exact ExtX.refl _) | (with_reducible refine ExtX.alloc ?_ _) | (with_reducible refine ExtX.drew ?_) | ((with_reducible refine ExtX.setCell ?_ ?_ _); rotate_left 1; (first | (left; rfl) | (left; left; rfl) | (left; right; rfl) | (left; right; exact Nat.le_refl _) | (left; right; assumption) | (right; (focus (simp; done))) | (right; (focus (simp; omega))) | (right; omega))) | (with_reducible refine ExtX.then_ ?_ (by with_reducible assumption))))) (fun hHeld => ?_); clear hK K; try simp only [Act.put, List.setIfInBounds_toArray, List.set_cons_zero, List.set_cons_succ]
      refine wpAnyH_ready (rs := [1, 4]) (by kernel_rfl) (by simp) ?_
      refine held_cons 1 rfl (by rfl) (fun K hK => ?_) (held_cons 4 rfl (by rfl) (fun K hK => ?_) AllReadyH.nil)
      go_simp; refine hK.out _ _ (by (try dsimp only); (repeat (first | (with_reducible assumption) | (with_reducible exact ExtX.refl _) | (with_reducible refine ExtX.alloc ?_ _) | (with_reducible refine ExtX.drew ?_) | ((with_reducible refine ExtX.setCell ?_ ?_ _); rotate_left 1; (first | (left; rfl) | (left; left; rfl) | (left; right; rfl) | (left; right; exact Nat.le_refl _) | (left; right; assumption) | (right; (focus (simp; done))) | (right; (focus (simp; omega))) | (right; omega))) | (with_reducible refine ExtX.then_ ?_ (by with_reducible assumption))))) (fun hHeld => ?_); clear hK K; try simp only [Act.put, List.setIfInBounds_toArray, List.set_cons_zero, List.set_cons_succ]
      refine held_do 4 rfl (by kernel_rfl) (by rfl) (fun K hK => ?_); go_simp; refine hK.out _ _ (by (try dsimp only); (repeat (first | (with_reducible assumption) | (with_reducible exact ExtX.refl _) | (with_reducible refine ExtX.alloc ?_ _) | (with_reducible refine ExtX.drew ?_) | ((with_reducible refine ExtX.setCell ?_ ?_ _); rotate_left 1; (first | (left; rfl) | (left; left; rfl) | (left; right; rfl) | (left; right; exact Nat.le_refl _) | (left; right; assumption) | (right; (focus (simp; done))) | (right; (focus (simp; omega))) | (right; omega))) | (with_reducible refine ExtX.then_ ?_ (by with_reducible assumption))))) (fun hHeld => ?_); clear hK K; try simp only [Act.put, List.setIfInBounds_toArray, List.set_cons_zero, List.set_cons_succ]
      refine held_do 5 rfl (by kernel_rfl) (by rfl) (fun K hK => ?_); (first | (refine wp_append_mine (.tmp 9) (.tmp 12) 24 rfl W.heap.size 48 i0 (.agg #[.int .u8 0, .string ByteArray.empty, .int .i64 0]) 3 32 Tryd.underlying24 HIN.out.1 HIN.out.2.1 HIN.out.2.2.1 HIN.out.2.2.2 rfl (by decide) (Value.slice ea acc.length ec) acc.length (acc.map tkcells).flatten rfl (HW5.out.alloc _) ⟨w5.heap.size, 0, none⟩ 1 1 [.int .u8 3, .string u.text, .int .i64 u.pos] rfl rfl (tkcells_at w5 3 u.text u.pos _) (tkcells_one 3 u.text u.pos) (by unfold maxLen; omega) (by omega) (by first | omega | (simp; omega)) ?_; intro v9 w9 ho9 hg9 hw9; rw [HSN.out] at ho9; obtain ⟨na, nc, rfl, k1, k2, hTk⟩ := owns_toks (o := acc ++ [u]) (by rw [List.length_append]; exact ho9) (by intro q hq; rcases List.mem_append.1 hq with hq | hq; exact HF1.out q hq; simp at hq; subst hq; exact HFU.out); have g9 : ExtX (fun b => W.heap.size ≤ b) (w5.alloc (.cells #[.int .u8 3, .string u.text, .int .i64 u.pos] 48)) w9 := ExtX.grow_ (ExtX.refl _) hg9 (fun k hk => (HW5.out.lt k hk).1); have z9 : ExtX (fun b => b = pb ∨ ObA ob W.heap.size b) w3 w9 := (z5.alloc _).trans (g9.mono (fun b hb => .inr (.inr hb))); have hO9 : OutE ob w9 ea acc.length ec := Blk.extx (Blk.alloc HO5.out _) g9 (by omega); have f9 := Blk.frozen hO9 0; have e0 := Blk.cell hO9 0; simp at e0; have hl9 := Blk.lt hO9; have HO9 := Lib.hid hO9; have HW9 := Lib.hid ho9; have HP9 := Lib.hid ((HP5.out.alloc _).grown_ hg9 (fun k hk => by have := (HW5.out.lt k hk).1; omega)); have HTK := Lib.hid hTk; clear hO9 ho9 hg9 hw9 hTk g9)); refine hK.out _ _ (by (try dsimp only); (repeat (first | (with_reducible assumption) | (with_reducible exact ExtX.refl _) | (with_reducible refine ExtX.alloc ?_ _) | (with_reducible refine ExtX.drew ?_) | ((with_reducible refine ExtX.setCell ?_ ?_ _); rotate_left 1; (first | (left; rfl) | (left; left; rfl) | (left; right; rfl) | (left; right; exact Nat.le_refl _) | (left; right; assumption) | (right; (focus (simp; done))) | (right; (focus (simp; omega))) | (right; omega))) | (with_reducible refine ExtX.then_ ?_ (by with_reducible assumption))))) (fun hHeld => ?_); clear hK K; try simp only [Act.put, List.setIfInBounds_toArray, List.set_cons_zero, List.set_cons_succ]
      refine held_take 6 (v := ?_) rfl (by kernel_rfl) (by kernel_rfl) (by kernel_rfl) (fun _ _ _ h => h) (by assumption) (by rfl) ?_ ?_; rotate_left; (focus (intro w hSw; (try dsimp only at hSw); go_simp; (try with_reducible rfl))); try simp only [Act.put, List.setIfInBounds_toArray, List.set_cons_zero, List.set_cons_succ]
      refine held_do 7 rfl (by kernel_rfl) (by rfl) (fun K hK => ?_); go_simp; refine hK.out _ _ (by (try dsimp only); (repeat (first | (with_reducible assumption) | (with_reducible exact ExtX.refl _) | (with_reducible refine ExtX.alloc ?_ _) | (with_reducible refine ExtX.drew ?_) | ((with_reducible refine ExtX.setCell ?_ ?_ _); rotate_left 1; (first | (left; rfl) | (left; left; rfl) | (left; right; rfl) | (left; right; exact Nat.le_refl _) | (left; right; assumption) | (right; (focus (simp; done))) | (right; (focus (simp; omega))) | (right; omega))) | (with_reducible refine ExtX.then_ ?_ (by with_reducible assumption))))) (fun hHeld => ?_); clear hK K; try simp only [Act.put, List.setIfInBounds_toArray, List.set_cons_zero, List.set_cons_succ]
      refine wpAnyH_done (by kernel_rfl) ?_ _
      rotate_left 1
      go_simp; refine hK.out _ _ (by (try dsimp only); (repeat (first | (with_reducible assumption) | (with_reducible exact ExtX.refl _) | (with_reducible refine ExtX.alloc ?_ _) | (with_reducible refine ExtX.drew ?_) | ((with_reducible refine ExtX.setCell ?_ ?_ _); rotate_left 1; (first | (left; rfl) | (left; left; rfl) | (left; right; rfl) | (left; right; exact Nat.le_refl _) | (left; right; assumption) | (right; (focus (simp; done))) | (right; (focus (simp; omega))) | (right; omega))) | (with_reducible refine ExtX.then_ ?_ (by with_reducible assumption))))) (fun hHeld => ?_); clear hK K; try simp only [Act.put, List.setIfInBounds_toArray, List.set_cons_zero, List.set_cons_succ]
      refine held_do 1 rfl (by kernel_rfl) (by rfl) (fun K hK => ?_); go_simp; refine hK.out _ _ (by (try dsimp only); (repeat (first | (with_reducible assumption) | (with_reducible exact ExtX.refl _) | (with_reducible refine ExtX.alloc ?_ _) | (with_reducible refine ExtX.drew ?_) | ((with_reducible refine ExtX.setCell ?_ ?_ _); rotate_left 1; (first | (left; rfl) | (left; left; rfl) | (left; right; rfl) | (left; right; exact Nat.le_refl _) | (left; right; assumption) | (right; (focus (simp; done))) | (right; (focus (simp; omega))) | (right; omega))) | (with_reducible refine ExtX.then_ ?_ (by with_reducible assumption))))) (fun hHeld => ?_); clear hK K; try simp only [Act.put, List.setIfInBounds_toArray, List.set_cons_zero, List.set_cons_succ]
      refine held_do 5 rfl (by kernel_rfl) (by rfl) (fun K hK => ?_); (first | (refine wp_append_mine (.tmp 9) (.tmp 12) 24 rfl W.heap.size 48 i0 (.agg #[.int .u8 0, .string ByteArray.empty, .int .i64 0]) 3 32 Tryd.underlying24 HIN.out.1 HIN.out.2.1 HIN.out.2.2.1 HIN.out.2.2.2 rfl (by decide) (Value.slice ea acc.length ec) acc.length (acc.map tkcells).flatten rfl (HW5.out.alloc _) ⟨w5.heap.size, 0, none⟩ 1 1 [.int .u8 3, .string u.text, .int .i64 u.pos] rfl rfl (tkcells_at w5 3 u.text u.pos _) (tkcells_one 3 u.text u.pos) (by unfold maxLen; omega) (by omega) (by first | omega | (simp; omega)) ?_; intro v9 w9 ho9 hg9 hw9; rw [HSN.out] at ho9; obtain ⟨na, nc, rfl, k1, k2, hTk⟩ := owns_toks (o := acc ++ [u]) (by rw [List.length_append]; exact ho9) (by intro q hq; rcases List.mem_append.1 hq with hq | hq; exact HF1.out q hq; simp at hq; subst hq; exact HFU.out); have g9 : ExtX (fun b => W.heap.size ≤ b) (w5.alloc (.cells #[.int .u8 3, .string u.text, .int .i64 u.pos] 48)) w9 := ExtX.grow_ (ExtX.refl _) hg9 (fun k hk => (HW5.out.lt k hk).1); have z9 : ExtX (fun b => b = pb ∨ ObA ob W.heap.size b) w3 w9 := (z5.alloc _).trans (g9.mono (fun b hb => .inr (.inr hb))); have hO9 : OutE ob w9 ea acc.length ec := Blk.extx (Blk.alloc HO5.out _) g9 (by omega); have f9 := Blk.frozen hO9 0; have e0 := Blk.cell hO9 0; simp at e0; have hl9 := Blk.lt hO9; have HO9 := Lib.hid hO9; have HW9 := Lib.hid ho9; have HP9 := Lib.hid ((HP5.out.alloc _).grown_ hg9 (fun k hk => by have := (HW5.out.lt k hk).1; omega)); have HTK := Lib.hid hTk; clear hO9 ho9 hg9 hw9 hTk g9)); refine hK.out _ _ (by (try dsimp only); (repeat (first | (with_reducible assumption) | (with_reducible exact ExtX.refl _) | (with_reducible refine ExtX.alloc ?_ _) | (with_reducible refine ExtX.drew ?_) | ((with_reducible refine ExtX.setCell ?_ ?_ _); rotate_left 1; (first | (left; rfl) | (left; left; rfl) | (left; right; rfl) | (left; right; exact Nat.le_refl _) | (left; right; assumption) | (right; (focus (simp; done))) | (right; (focus (simp; omega))) | (right; omega))) | (with_reducible refine ExtX.then_ ?_ (by with_reducible assumption))))) (fun hHeld => ?_); clear hK K; try simp only [Act.put, List.setIfInBounds_toArray, List.set_cons_zero, List.set_cons_succ]
      refine held_take 6 (v := ?_) rfl (by kernel_rfl) (by kernel_rfl) (by kernel_rfl) (fun _ _ _ h => h) (by assumption) (by rfl) ?_ ?_; rotate_left; (focus (intro w hSw; (try dsimp only at hSw); go_simp; (try with_reducible rfl))); try simp only [Act.put, List.setIfInBounds_toArray, List.set_cons_zero, List.set_cons_succ]
      refine held_do 7 rfl (by kernel_rfl) (by rfl) (fun K hK => ?_); go_simp; refine hK.out _ _ (by (try dsimp only); (repeat (first | (with_reducible assumption) | (with_reducible exact ExtX.refl _) | (with_reducible refine ExtX.alloc ?_ _) | (with_reducible refine ExtX.drew ?_) | ((with_reducible refine ExtX.setCell ?_ ?_ _); rotate_left 1; (first | (left; rfl) | (left; left; rfl) | (left; right; rfl) | (left; right; exact Nat.le_refl _) | (left; right; assumption) | (right; (focus (simp; done))) | (right; (focus (simp; omega))) | (right; omega))) | (with_reducible refine ExtX.then_ ?_ (by with_reducible assumption))))) (fun hHeld => ?_); clear hK K; try simp only [Act.put, List.setIfInBounds_toArray, List.set_cons_zero, List.set_cons_succ]
      refine wpAnyH_done (by kernel_rfl) ?_ _
      rotate_left 1
      all_goals
        have HLA : Hid (acc.length + 1 = (acc ++ [u]).length) := Lib.hid (by simp)
        rw [HLA.out] at hHeld ⊢
        have X10 : ExtX (· = ob) w9 (w9.setCell ⟨ob, 0, none⟩ (.slice na (acc ++ [u]).length nc)) := (ExtX.refl (A := (· = ob)) w9).setCell (p := ⟨ob, 0, none⟩) (.inl rfl) _
        have X11 := Lib.hid (HX3.out.onto hHeld (fun b hb => by rcases hb with h | h | h; exact .inl (.inl h); exact .inl (.inr h); exact .inr h))
        have HO10 : Hid (OutE ob (w9.setCell ⟨ob, 0, none⟩ (.slice na (acc ++ [u]).length nc)) na (acc ++ [u]).length nc) := Lib.hid (by have h := Blk.set_ HO9.out 0 (.slice na (acc ++ [u]).length nc); simp only [List.setIfInBounds_toArray, List.set_cons_zero] at h; exact h)
        have HP10 := Lib.hid (HP9.out.aside0 HO9.out X10 (by omega))
        have HW10 := Lib.hid (owns_keep X10 (fun k (e : k = ob) => by omega) HW9.out)
        have hlr : ob < W.heap.size := by omega
        clear X10 hHeld z9
        generalize w9.setCell ⟨ob, 0, none⟩ (.slice na (acc ++ [u]).length nc) = W10 at *
        cases hv : isT [s_semi] (v :: l3) with
        | false =>
          have e9 : R = .error (v :: l3) := HR1.out.trans (progG_semi HI.out HU.out hv)
          subst e9
          have KV := Lib.hid fun V (x : Ext W10 V) (a : Option Addr) (hr : IsRow V (vstr [s_semi]) a 1) => parse_word_no [s_semi] pb v l3 V a 1 1 (Nat.le_refl _) (by omega) hr (HP10.out.ext x) hv
          clear hv
          go_wp2_with fail
          refine (KV.out _ (by (repeat (first | (with_reducible assumption) | (with_reducible exact Ext.refl _) | (with_reducible refine Ext.alloc ?_ _) | (with_reducible refine Ext.drew ?_) | ((with_reducible refine Ext.setCell ?_ ?_ _); rotate_left 1; (first | (focus (simp; done)) | (focus (simp; omega)) | omega)) | exact Ext.refl _ | assumption | refine Ext.alloc ?_ _ | refine Ext.drew ?_ | refine Ext.setCell ?_ (by (first | (focus (simp; done)) | (focus (simp; omega)) | omega)) _ | refine Ext.trans ?_ (by assumption)))) _ (IsRow.new W10 _ (vstr [s_semi]))).mono ?_
          rintro e w11 ⟨rfl, x11⟩
          exact ⟨rfl, X11.out.then_ (((Ext.refl W10).alloc _).trans x11), rfl⟩
        | true =>
          have e9 := HR1.out.trans (progG_more HI.out HU.out hv)
          have HR9 := Lib.hid e9
          have hne := HE3.out.tail_ne (isT_kind hv)
          have KV := Lib.hid fun V (x : Ext W10 V) (a : Option Addr) (hr : IsRow V (vstr [s_semi]) a 1) => parse_word_ok [s_semi] pb v l3 V a 1 1 (Nat.le_refl _) (by omega) hr (HP10.out.ext x) hv
          have HNE := Lib.hid hne
          clear hv e9 hne
          go_wp2_with fail
          refine (KV.out _ (by (repeat (first | (with_reducible assumption) | (with_reducible exact Ext.refl _) | (with_reducible refine Ext.alloc ?_ _) | (with_reducible refine Ext.drew ?_) | ((with_reducible refine Ext.setCell ?_ ?_ _); rotate_left 1; (first | (focus (simp; done)) | (focus (simp; omega)) | omega)) | exact Ext.refl _ | assumption | refine Ext.alloc ?_ _ | refine Ext.drew ?_ | refine Ext.setCell ?_ (by (first | (focus (simp; done)) | (focus (simp; omega)) | omega)) _ | refine Ext.trans ?_ (by assumption)))) _ (IsRow.new W10 _ (vstr [s_semi]))).mono ?_
          rintro e w11 ⟨rfl, x11, hp11⟩
          have y11 : ExtX (· = pb) W10 w11 := ((ExtX.refl W10).alloc _).trans x11
          have hO11 : OutE ob w11 na (acc ++ [u]).length nc := Blk.nez HO10.out y11 (by omega)
          have HO11 := Lib.hid hO11
          have HW11 := Lib.hid (owns_keep y11 (fun k (e : k = pb) => by omega) HW10.out)
          have HP11 := Lib.hid (hp11 HNE.out.1)
          have X12 := Lib.hid (X11.out.trans (y11.mono (A' := fun b => b = pb ∨ b = ob) (fun b hb => .inl hb)))
          clear y11 x11 hp11 hO11
          go_wp2_with fail
          go_roundg (l3.length)
          case rel => exact ⟨acc ++ [u], l3, na, nc, rfl, HR9.out, HNE.out.2, HP11.out, HO11.out, (by have := HW11.out; rw [HLA.out] at this; exact this), (by intro q hq; rcases List.mem_append.1 hq with hq | hq; exact HF1.out q hq; simp at hq; subst hq; exact HFU.out), by simp only [List.length_append, List.length_cons, List.length_nil] at hlen ⊢; omega, X12.out⟩
          case measure => simp only [List.length_cons]; omega
theorem prog_whole (ob : Nat) : Whole 23 ob progL (OutPZ ob) (OutP ob) := by
  refine ⟨fun pb W l hP hE hl4 hob hO => (prog_call pb ob W l hP hE hl4 hob hO).mono fun e w' h => ⟨h.1, by have h2 := h.2; revert h2; cases progL l <;> exact id⟩, ?_, fun w w' h hx => Blk.ext h hx⟩
  rintro B w w' ⟨es, t⟩ ⟨ea, en, ec, a, n, c, hB, k1, k2, hTk, hf, h1, h2, hT⟩ hx
  exact ⟨ea, en, ec, a, n, c, hB.extx hx (by rintro ⟨-, h⟩; exact h rfl), k1, k2, hTk.keep hx (fun b hb ⟨h, _⟩ => by omega), hf, h1, h2, hT.extx hx (fun b hb => hb.1)⟩
end Go.Proofs.YtaioeailgknfjaaDoor

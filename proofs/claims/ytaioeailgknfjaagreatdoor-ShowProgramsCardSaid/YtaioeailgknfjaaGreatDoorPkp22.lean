/- Part 22 of the proof: Parse17; no condition of ours. -/
import Derived.Test.YtaioeailgknfjaaGreatDoorPkp21
set_option linter.unusedVariables false
set_option linter.unusedSimpArgs false
namespace Go.Proofs.YtaioeailgknfjaaGreatDoor
open Go.Lib (hid)
open Go Go.RowKit Go.Sort
set_option maxRecDepth 8000 in
set_option maxHeartbeats 8000000 in
theorem parse_expr_set (f : Nat) (hF : Does 57 (.lvl 0) f) (pb : Nat) (tk : Tk) (l0 : List Tk) (r : Res Tm) (w : World) (h : Prs w pb (tk :: l0)) (he : Ended (tk :: l0)) (hi : isT [w_let, w_letrec, w_fn, w_if, w_try] (tk :: l0) = false) (hp : parseF f (.lvl 0) (tk :: l0) = some r) :
    Calls Tryz.prog 31 #[.pointer (some ⟨pb, 0, none⟩)] w (RetP pb w (IsNew w.heap.size) r) := by
  have hlt := h.lt
  have KI := hid fun W (x : Ext w W) (a : Option Addr) (hr : IsRow W (vstr [w_let, w_letrec, w_fn, w_if, w_try]) a 5) => parse_is [w_let, w_letrec, w_fn, w_if, w_try] pb tk l0 W a 5 5 (Nat.le_refl _) (by omega) hr (h.ext x)
  rw [hi] at KI
  have KS := hid fun W (x : Ext w W) => hF pb W (tk :: l0) r (h.ext x) he hp
  clear hF h he hi hp
  go_enter Tryz.func31, Tryz.ntmps31
  go_wp2_with fail
  refine (KI.out _ (by (exact eX)) _ (row_new2 w _ _ _ (vstr [w_let, w_letrec, w_fn, w_if, w_try]))).mono ?_
  rintro e w2 ⟨rfl, x2⟩
  have hP2 := blk_under2 x2
  have hZ2 := blk_under x2
  rw [World.size_alloc] at hZ2
  have y2 : Ext w w2 := by (exact eX)
  have p0 := hP2.cell 0
  simp at p0
  have HZ2 := hid hZ2
  have Y2 := hid y2
  clear x2 hP2 hZ2 y2
  go_wp2_with fail
  refine (KS.out _ Y2.out).mono ?_
  intro e w3 hh
  cases r with
  | error l' =>
    obtain ⟨rfl, x3⟩ := hh.error
    exact ⟨rfl, (ExtX.of Y2.out).trans x3, rfl⟩
  | ok q =>
  obtain ⟨⟨x, ks⟩, l1⟩ := q
  obtain ⟨v, rfl, ⟨a, n, c, rfl, hf, g1, g2, hT⟩, hP, x3⟩ := hh.ok
  have hZ3 := HZ2.out.nez x3 (by omega)
  obtain ⟨z0, z1, z2, z3, z4, z5, z6, z7⟩ := hZ3.eight
  obtain ⟨k0, k1, k2, k3, k4, k5, k6, k7⟩ := hZ3.frozen8
  have hlz := hZ3.lt
  have hlz2 := HZ2.out.lt
  have HL : Hid (LaidE pb (w.heap.size + 1) w w3 x ks a n c l1) := hid ⟨hZ3, hf, g1, g2, hT.off fun b _ hb => (by have hb : b ≤ w.heap.size + 1 := hb; omega), hP, (ExtX.of Y2.out).trans x3, by omega, by omega⟩
  clear hh hZ3 hf hT hP x3
  go_wp2_with fail
  exact HL.out.ret (fun w2 r0 r1 r2 r3 r4 r5 r6 r7 => by simp [results, Tryz.results31, go_sem, r0, r1, r2, r3, r4, r5, r6, r7]) rfl
theorem parse_expr (f : Nat) (hS : Does 57 (.lvl 0) f) : Does 31 .expr (f + 1) := by
  intro pb w l r h he hp
  cases l with
  | nil => cases he
  | cons tk l0 =>
  obtain ⟨-, -, -, h6, h1, h2, h3, h4, h5⟩ := h.cls
  have hp2 : parseF f (.lvl 0) (tk :: l0) = some r := by
    have h1 : isT [w_let] (tk :: l0) = false := h1
    have h2 : isT [w_letrec] (tk :: l0) = false := h2
    have h3 : isT [w_fn] (tk :: l0) = false := h3
    have h4 : isT [w_if] (tk :: l0) = false := h4
    have h5 : isT [w_try] (tk :: l0) = false := h5
    unfold parseF at hp
    rw [h1, h2, h3, h4, h5] at hp
    simpa using hp
  exact parse_expr_set f hS pb tk l0 r w h he h6 hp2
theorem does_zero (F : Nat) (nt : NT) : Does F nt 0 := fun _ _ _ _ _ _ h => by cases h
theorem parse_all (f : Nat) : ∀ g, g ≤ f → Does 31 .expr g ∧ Does 57 (.lvl 0) g ∧ Does 92 (.lvl 1) g ∧ Does 117 (.lvl 3) g ∧ Does 131 (.lvl 4) g ∧ Does 139 .unary g := by
  induction f with
  | zero =>
    intro g hg
    obtain rfl : g = 0 := by omega
    exact ⟨does_zero _ _, does_zero _ _, does_zero _ _, does_zero _ _, does_zero _ _, does_zero _ _⟩
  | succ f ih =>
    intro g hg
    rcases Nat.lt_or_ge g (f + 1) with h | h
    · exact ih g (by omega)
    · obtain rfl : g = f + 1 := by omega
      refine ⟨parse_expr f (ih f (Nat.le_refl _)).2.1, parse_set f fun g hg => (ih g hg).2.2.1, parse_rel f fun g hg => (ih g (by omega)).2.2.2.1, parse_prod f fun g hg => (ih g hg).2.2.2.2.1, parse_apply f fun g hg => (ih g hg).2.2.2.2.2, parse_unary f (ih f (Nat.le_refl _)).1⟩
theorem parse_walk (pb : Nat) (w : World) (l : List Tk) (h : Prs w pb l) (he : Ended l) : Calls Tryz.prog 31 #[.pointer (some ⟨pb, 0, none⟩)] w (RetP pb w (IsNew w.heap.size) (parseL .expr l)) := by
  obtain ⟨f, e, -⟩ := parseL_some (nt := .expr) he
  exact (parse_all f f (Nat.le_refl _)).1 pb w l _ h he e
set_option maxRecDepth 8000 in
set_option maxHeartbeats 1000000 in
theorem run_idle (pa pe : Addr) (w : World) :
    CallsD Tryz.prog 56 #[.pointer (some pa), .pointer (some pe)] .returning w fun e u' w' => e = .returned (.tuple #[]) ∧ u' = .returning ∧ Ext w w' := by
  refine callsD_of_wpS Tryz.func56 rfl fun c₀ cs hu => ?_
  apply wpS_seq
  apply wpS_region
  simp [wpOpsS, go_sem, recoverD, hu, Tryz.ntmps56, Exit.thenS]
  simp only [show (Array.replicate 11 undef : Array Value) = #[undef, undef, undef, undef, undef, undef, undef, undef, undef, undef, undef] from rfl, List.setIfInBounds_toArray, List.set_cons_zero, List.set_cons_succ, List.append_toArray, List.cons_append, List.nil_append]
  refine wpS_of_wp ?_
  go_wp2_with fail
  exact ⟨rfl, .returning, by rw [← hu], .tuple #[], results_none rfl _ _ _, rfl, rfl, Ext.refl _⟩
theorem run_wrong (pos : Int) (w : World) : (Instr.typeAssert (.iface 94 (.agg #[.int .i64 pos])) 20 94 true).run Tryz.prog w = .ok (.tuple #[.agg #[.int .i64 pos], .bool true]) w := by kernel_rfl
set_option maxRecDepth 8000 in
set_option maxHeartbeats 1000000 in
theorem run_catch (ga ge : Nat) (pos x y : Int) (older : List PanicEntry) (w : World) (h1 : Blk w ga 3 #[.int .i64 x]) (h2 : Blk w ge 29 #[.int .i64 y]) (hne : ga ≠ ge) :
    CallsD Tryz.prog 56 #[.pointer (some ⟨ga, 0, none⟩), .pointer (some ⟨ge, 0, none⟩)] (.panicking ({ v := .iface 94 (.agg #[.int .i64 pos]), recovered := false } :: older)) w fun e u' w' =>
      e = .returned (.tuple #[]) ∧ u' = .panicking ({ v := .iface 94 (.agg #[.int .i64 pos]), recovered := true } :: older) ∧ Blk w' ga 3 #[.int .i64 pos] ∧ Blk w' ge 29 #[.int .i64 2] ∧ ExtX (fun b => b = ga ∨ b = ge) w w' := by
  have c1 := h1.cell 0
  have f1 := h1.frozen 0
  have l1 := h1.lt
  have c2 := h2.cell 0
  have f2 := h2.frozen 0
  have l2 := h2.lt
  simp at c1 c2
  refine callsD_of_wpS Tryz.func56 rfl fun c₀ cs hu => ?_
  apply wpS_seq
  apply wpS_region
  simp [wpOpsS, go_sem, recoverD, hu, Tryz.ntmps56, Exit.thenS]
  simp only [show (Array.replicate 11 undef : Array Value) = #[undef, undef, undef, undef, undef, undef, undef, undef, undef, undef, undef] from rfl, List.setIfInBounds_toArray, List.set_cons_zero, List.set_cons_succ, List.append_toArray, List.cons_append, List.nil_append]
  have hta := fun w => run_wrong pos w
  refine wpS_of_wp ?_
  go_wp2_with fail
  refine ⟨rfl, _, rfl, .tuple #[], results_none rfl _ _ _, rfl, rfl, ?_, ?_, ?_⟩
  · have h := ((h1.set_ 0 (.int .i64 pos)).far (p := ⟨ge, 0, none⟩) hne (.int .i64 2)).alloc (.cells #[.int .i64 pos] 94)
    simpa using h
  · have h := ((h2.far (p := ⟨ga, 0, none⟩) (fun e => hne e.symm) (.int .i64 pos)).set_ 0 (.int .i64 2)).alloc (.cells #[.int .i64 pos] 94)
    simpa using h
  · exact (((ExtX.refl w).setCell (p := ⟨ga, 0, none⟩) (.inl (.inl rfl)) _).setCell (p := ⟨ge, 0, none⟩) (.inl (.inr rfl)) _).alloc _
end Go.Proofs.YtaioeailgknfjaaGreatDoor

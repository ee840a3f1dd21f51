/- Part 37 of the proof: Term2b; no condition of ours. -/
import Derived.Test.YtaioeailgknfjaaGreatDoorPkp36
set_option linter.unusedVariables false
set_option linter.unusedSimpArgs false
namespace Go.Proofs.YtaioeailgknfjaaGreatDoor
open Go.Lib (hid)
open Go Go.RowKit Go.Sort
theorem enters_name : ∀ args w, (callFunc 103 args).run Tryz.prog w = .ok (.enter 103 args) w := enters_of Tryz.func103 (by kernel_rfl) rfl
theorem enters_exn : ∀ args w, (callFunc 52 args).run Tryz.prog w = .ok (.enter 52 args) w := enters_of Tryz.func52 (by kernel_rfl) rfl
theorem node_prog (x : Hd) (l : List Tm) (i : Nat) (hi : i < 16) (hk : x.k = i + 1) (hp : 0 ≤ x.pos) : Tm.node (.mk x l) =
    ((!((l.length : Int) != kidsOf i) && ((!((((i : Int) + 1 == 9) && !(!(decide (x.op < 1) || decide (5 < x.op)))) || (!((i : Int) + 1 == 9) && (x.op != 0)))) && (!(decide (x.n < 0) || (decide (2147483647 < x.n) || (!((i : Int) + 1 == 1) && (x.n != 0))))))) &&
      (fitB ((il (fieldsOf i)).contains 109) x.name (isName x.name) && (fitB ((il (fieldsOf i)).contains 97) x.arg (isName x.arg) && fitB ((il (fieldsOf i)).contains 101) x.exn (isExn x.exn)))) := by
  rw [Tm.node, nums_bad, fields_m i hi, fields_a i hi, fields_e i hi, kids_karity i hi]
  unfold bad1 bad2 bad3 Hd.hasName Hd.hasArg Hd.hasExn
  rw [hk]
  have h0 : decide (karity ((i : Int) + 1) < 0) = false := by
    have : ∀ i : Fin 16, decide (karity ((i.val : Int) + 1) < 0) = false := by decide +kernel
    exact this ⟨i, hi⟩
  have h1 : decide (x.pos < 0) = false := by simpa using hp
  rw [h0, h1]
  simp [bne]
theorem node_out (x : Hd) (l : List Tm) (h : (decide (x.k < 1) || (decide (16 < x.k) || decide (x.pos < 0))) = true) : Tm.node (.mk x l) = false := by
  rw [Tm.node, nums_bad]
  have : bad1 x l.length = true := by
    unfold bad1
    simp only [Bool.or_eq_true, decide_eq_true_eq] at h ⊢
    rcases h with h | h | h
    · left; unfold karity
      rw [if_neg (by omega), if_neg (by omega), if_neg (by omega), if_neg (by omega)]; omega
    · left; unfold karity
      rw [if_neg (by omega), if_neg (by omega), if_neg (by omega), if_neg (by omega)]; omega
    · right; right; exact h
  rw [this]
  rfl
set_option maxRecDepth 8000 in
set_option maxHeartbeats 4000000 in
theorem term_node (t : Tm) (w : World) (v : Value) (ht : IsTm w t v) (hkn : Knob w) :
    Calls Tryz.prog 75 #[v] w fun e w' => e = .returned (.bool t.node) ∧ Ext w w' := by
  obtain ⟨x, l⟩ := t
  obtain ⟨a, len, cap, rfl, h1, h2, hf, hl⟩ := ht.open_
  have HO := hid (node_out x l)
  have HP := hid (node_prog x l)
  rw [← hl.length] at HP
  have HF := hid hf
  have hk0 := hf.k0
  have hk1 := hf.k1
  clear ht hl hf
  go_enter Tryz.func75, Tryz.ntmps75
  go_upto_region 2 with (go_at_call 100; refine (term_shapes _).mono ?_; rintro e w1 ⟨rfl, x1, hcs⟩)
  have HC := hid hcs
  clear hcs
  have T0 := (TBlk.new w x a len cap 28).ext x1
  have y1 := ((Ext.refl w).alloc (.cells #[.int .u8 x.k, .int .u8 x.op, .int .i64 x.pos, .int .i64 x.n, .string x.name, .string x.arg, .string x.exn, .slice a len cap] 28)).trans x1
  rw [World.size_alloc] at HC
  go_cut [25] (fun s wx => s = .bool (decide (x.k < 1) || (decide (16 < x.k) || decide (x.pos < 0))) ∧ wx = w1)
  case first =>
    obtain ⟨⟨c0, c1, c2, c3, c4, c5, c6⟩, c7⟩ := T0
    simp only [Nat.zero_add] at c0 c1 c2 c3 c4 c5 c6
    clear HO HP
    rcases or3 (decide (x.k < 1)) (decide (16 < x.k)) (decide (x.pos < 0)) with A | ⟨A, B⟩ | ⟨A, B, C⟩ | ⟨A, B, C⟩
    all_goals
      go_wp2_with fail
      go_meet
      refine ⟨?_, rfl⟩
      simp only [A, Bool.true_or, Bool.false_or]
      try simp only [B, Bool.true_or, Bool.false_or]
      try simp only [C]
  case rest =>
  obtain ⟨rfl, rfl⟩ := hcut
  by_cases hbad : (decide (x.k < 1) || (decide (16 < x.k) || decide (x.pos < 0))) = true
  · rw [hbad]
    have H := hid (HO.out hbad)
    clear hbad
    go_wp2_with fail
    go_ret
    exact ⟨ret_bool H.out.symm, y1⟩
  have hb := hbad
  simp only [Bool.or_eq_true, decide_eq_true_eq, not_or] at hb
  rw [Bool.eq_false_iff.2 hbad]
  obtain ⟨i, hi, hki⟩ : ∃ i : Nat, i < 16 ∧ x.k = i + 1 := ⟨(x.k - 1).toNat, by omega, by omega⟩
  have HND := hid (HP.out i hi hki (by omega))
  have hcell := HC.out i hi
  have z0 := hcell.1
  have z1 := hcell.2
  have hfs := fields_size i hi
  have KO := hid fun W => shape_has (kidsOf i) 111 (fieldsOf i) W (by omega)
  have KN := hid fun W => shape_has (kidsOf i) 110 (fieldsOf i) W (by omega)
  rw [fields_o i hi] at KO
  rw [fields_n i hi] at KN
  clear hbad hb HO HP HC hcell
  obtain ⟨⟨c0, c1, c2, c3, c4, c5, c6⟩, c7⟩ := T0
  simp only [Nat.zero_add] at c0 c1 c2 c3 c4 c5 c6
  rw [hki] at c0
  have HKI := hid hki
  clear hki hk0 hk1
  go_upto_region 5 with fail
  have x5 : Ext wc (wc.alloc (.cells #[.int .i64 (kidsOf i), .string (fieldsOf i)] 135)) := (Ext.refl _).alloc _
  have d0 : (wc.alloc (.cells #[.int .i64 (kidsOf i), .string (fieldsOf i)] 135)).cell? ⟨wc.heap.size, 0, none⟩ = some (.int .i64 (kidsOf i)) := by simp
  have d1 : (wc.alloc (.cells #[.int .i64 (kidsOf i), .string (fieldsOf i)] 135)).cell? ⟨wc.heap.size, 1, none⟩ = some (.string (fieldsOf i)) := by simp
  have dl : wc.heap.size < (wc.alloc (.cells #[.int .i64 (kidsOf i), .string (fieldsOf i)] 135)).heap.size := by simp
  generalize wc.alloc (.cells #[.int .i64 (kidsOf i), .string (fieldsOf i)] 135) = W5 at *
  have b0 := fun W (h : Ext W5 W) => (x5.trans h).cell c0
  have b1 := fun W (h : Ext W5 W) => (x5.trans h).cell c1
  have b2 := fun W (h : Ext W5 W) => (x5.trans h).cell c2
  have b3 := fun W (h : Ext W5 W) => (x5.trans h).cell c3
  have b4 := fun W (h : Ext W5 W) => (x5.trans h).cell c4
  have b5 := fun W (h : Ext W5 W) => (x5.trans h).cell c5
  have b6 := fun W (h : Ext W5 W) => (x5.trans h).cell c6
  have b7 := fun W (h : Ext W5 W) => (x5.trans h).cell c7
  have g0 := fun W (h : Ext W5 W) => h.cell d0
  have g1 := fun W (h : Ext W5 W) => h.cell d1
  have y5 := y1.trans x5
  have y0 : Ext W5 W5 := Ext.refl _
  clear c0 c1 c2 c3 c4 c5 c6 c7 d0 d1 z0 z1 x1
  go_cut [5] (fun s wx => s = .bool (!(decide (x.op < 1) || decide (5 < x.op))) ∧ wx = W5)
  case first =>
    clear HND KO KN
    have e1 : decide (x.op < 1) = !decide (1 ≤ x.op) := by rw [Bool.eq_iff_iff]; simp
    have e2 : decide (5 < x.op) = !decide (x.op ≤ 5) := by rw [Bool.eq_iff_iff]; simp
    have E1 := hid e1
    have E2 := hid e2
    clear e1 e2
    cases A : decide (1 ≤ x.op) <;> cases B : decide (x.op ≤ 5)
    all_goals
      go_wp2_with fail
      go_meet
      exact ⟨congrArg Value.bool (by rw [E1.out, E2.out, A, B]; rfl), rfl⟩
  case rest =>
  obtain ⟨rfl, hW5⟩ := hcut
  have hW5 := hW5.symm
  subst hW5
  generalize (!(decide (x.op < 1) || decide (5 < x.op))) = op5 at *
  obtain ⟨bo, hbo⟩ : ∃ bo, bo = ((i : Int) + 1 == 9) := ⟨_, rfl⟩
  obtain ⟨bn, hbn⟩ : ∃ bn, bn = ((i : Int) + 1 == 1) := ⟨_, rfl⟩
  rw [← hbo] at HND KO
  rw [← hbn] at HND KN
  clear hbo hbn
  go_upto_block 0 with fail
  go_cut [] (fun wx => Tm.node (.mk x l) = (fitB ((il (fieldsOf i)).contains 109) x.name (isName x.name) && (fitB ((il (fieldsOf i)).contains 97) x.arg (isName x.arg) && fitB ((il (fieldsOf i)).contains 101) x.exn (isExn x.exn))) ∧ Ext W5 wx)
  case first =>
    have part : ((len : Int) != kidsOf i) = true ∨ (((len : Int) != kidsOf i) = false ∧ bo = true ∧ op5 = false) ∨ (((len : Int) != kidsOf i) = false ∧ bo = true ∧ op5 = true) ∨ (((len : Int) != kidsOf i) = false ∧ bo = false ∧ (x.op != 0) = true) ∨ (((len : Int) != kidsOf i) = false ∧ bo = false ∧ (x.op != 0) = false) := by
      cases ((len : Int) != kidsOf i) <;> cases bo <;> cases op5 <;> cases (x.op != 0) <;> simp
    have num : decide (x.n < 0) = true ∨ (decide (x.n < 0) = false ∧ decide (2147483647 < x.n) = true) ∨ (decide (x.n < 0) = false ∧ decide (2147483647 < x.n) = false ∧ bn = true) ∨ (decide (x.n < 0) = false ∧ decide (2147483647 < x.n) = false ∧ bn = false ∧ (x.n != 0) = true) ∨ (decide (x.n < 0) = false ∧ decide (2147483647 < x.n) = false ∧ bn = false ∧ (x.n != 0) = false) := by
      cases decide (x.n < 0) <;> cases decide (2147483647 < x.n) <;> cases bn <;> cases (x.n != 0) <;> simp
    have hop : (x.op != 0) = !(x.op == 0) := rfl
    rcases part with P | ⟨P, rfl, rfl⟩ | ⟨P, rfl, rfl⟩ | ⟨P, rfl, Q⟩ | ⟨P, rfl, Q⟩
    case' inr.inr.inl => rcases num with R | ⟨R, R1⟩ | ⟨R, R1, rfl⟩ | ⟨R, R1, rfl, R2⟩ | ⟨R, R1, rfl, R2⟩
    case' inr.inr.inr.inr => rcases num with R | ⟨R, R1⟩ | ⟨R, R1, rfl⟩ | ⟨R, R1, rfl, R2⟩ | ⟨R, R1, rfl, R2⟩
    all_goals
      try clear num
      clear hop
      rw [P] at HND
      try rw [Q] at HND
      try rw [R] at HND
      try rw [R1] at HND
      try rw [R2] at HND
      go_wp2_with (go_at_call 101; (first | with_reducible refine (KO.out _).mono ?_ | with_reducible refine (KN.out _).mono ?_); rintro e w2 ⟨rfl, x2⟩; have y2 := Ext.trans (by assumption : Ext W5 _) x2)
      first
        | (go_ret; exact ⟨ret_bool (by rw [HND.out]; simp), y5.trans (by assumption)⟩)
        | (go_meet; exact ⟨by rw [HND.out]; simp, by assumption⟩)
  case rest =>
    obtain ⟨hnd, hxx⟩ := hcut
    have H := hid hnd
    clear hnd HND KO KN
    have K4 := hid fun W (h : Ext W5 W) => shape_field (kidsOf i) 109 (fieldsOf i) x.name isName 103 enters_name W (by omega) fun W' a h' hr => (words_name [x.name] W' a 1 1 (by omega) (by omega) (hkn.ext ((y5.trans h).trans h')) hr).mono fun e w' ⟨he, hw⟩ => ⟨by rw [he]; simp, hw⟩
    have K5 := hid fun W (h : Ext W5 W) => shape_field (kidsOf i) 97 (fieldsOf i) x.arg isName 103 enters_name W (by omega) fun W' a h' hr => (words_name [x.arg] W' a 1 1 (by omega) (by omega) (hkn.ext ((y5.trans h).trans h')) hr).mono fun e w' ⟨he, hw⟩ => ⟨by rw [he]; simp, hw⟩
    have K6 := hid fun W (h : Ext W5 W) => shape_field (kidsOf i) 101 (fieldsOf i) x.exn isExn 52 enters_exn W (by omega) fun W' a h' hr => (words_exn [x.exn] W' a 1 1 (by omega) (by omega) (hkn.ext ((y5.trans h).trans h')) hr).mono fun e w' ⟨he, hw⟩ => ⟨by rw [he]; simp, hw⟩
    obtain ⟨f1, hf1⟩ : ∃ f1, f1 = fitB ((il (fieldsOf i)).contains 109) x.name (isName x.name) := ⟨_, rfl⟩
    obtain ⟨f2, hf2⟩ : ∃ f2, f2 = fitB ((il (fieldsOf i)).contains 97) x.arg (isName x.arg) := ⟨_, rfl⟩
    obtain ⟨f3, hf3⟩ : ∃ f3, f3 = fitB ((il (fieldsOf i)).contains 101) x.exn (isExn x.exn) := ⟨_, rfl⟩
    rw [← hf1] at K4 H
    rw [← hf2] at K5 H
    rw [← hf3] at K6 H
    clear hf1 hf2 hf3
    cases f1
    case' true => cases f2
    all_goals
      go_wp2_with (go_at_call 102; (first | with_reducible refine (K4.out _ (by assumption)).mono ?_ | with_reducible refine (K5.out _ (by assumption)).mono ?_ | with_reducible refine (K6.out _ (by assumption)).mono ?_); rintro e w2 ⟨rfl, x2⟩; have y2 := Ext.trans (by assumption : Ext W5 _) x2)
      go_ret
      exact ⟨ret_bool (by rw [H.out]; simp), y5.trans (by assumption)⟩
end Go.Proofs.YtaioeailgknfjaaGreatDoor

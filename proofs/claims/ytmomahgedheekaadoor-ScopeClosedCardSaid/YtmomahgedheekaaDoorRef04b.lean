/- The walks of enclaveref04: Node. -/
import Derived.Test.YtmomahgedheekaaDoorRef04
namespace Go.Proofs.YtmomahgedheekaaDoor
open Go Go.RowKit Go.Sort

/-- A block that holds a term. -/
def TBlk (w : World) (b : Nat) (x : Hd) (a : Option Addr) (len cap : Nat) : Prop := HdAt w x b 0 ∧ w.cell? ⟨b, 7, none⟩ = some (.slice a len cap)
theorem TBlk.ext {w w' : World} {b : Nat} {x : Hd} {a : Option Addr} {len cap : Nat} (h : TBlk w b x a len cap) (hx : Ext w w') : TBlk w' b x a len cap := ⟨h.1.move fun _ _ q => hx.cell q, hx.cell h.2⟩
theorem TBlk.new (w : World) (x : Hd) (a : Option Addr) (len cap : Nat) (T : TypeId) : TBlk (w.alloc (.cells #[.int .u8 x.k, .int .u8 x.op, .int .i64 x.pos, .int .i64 x.n, .string x.name, .string x.arg, .string x.exn, .slice a len cap] T)) w.heap.size x a len cap :=
  ⟨⟨by simp, by simp, by simp, by simp, by simp, by simp, by simp⟩, by simp⟩

theorem or3 (a b c : Bool) : a = true ∨ (a = false ∧ b = true) ∨ (a = false ∧ b = false ∧ c = true) ∨ (a = false ∧ b = false ∧ c = false) := by cases a <;> cases b <;> cases c <;> simp
def bad1 (x : Hd) (len : Nat) : Bool := decide (karity x.k < 0) || (((len : Int) != karity x.k) || decide (x.pos < 0))
def bad2 (x : Hd) : Bool := ((x.k == 9) && (decide (x.op < 1) || decide (5 < x.op))) || ((x.k != 9) && (x.op != 0))
def bad3 (x : Hd) : Bool := decide (x.n < 0) || (decide (2147483647 < x.n) || ((x.k != 1) && (x.n != 0)))
theorem nums_bad (x : Hd) (l : List Tm) : Tm.nums (.mk x l) = (!(bad1 x l.length) && (!(bad2 x) && !(bad3 x))) := by
  unfold Tm.nums bad1 bad2 bad3
  rw [Bool.eq_iff_iff]
  simp only [Bool.and_eq_true, Bool.or_eq_true, Bool.not_eq_true', Bool.or_eq_false_iff, Bool.and_eq_false_imp, decide_eq_true_eq, decide_eq_false_iff_not, bne_iff_ne, bne_eq_false_iff_eq, beq_iff_eq, ne_eq]
  by_cases h9 : x.k = 9
  · simp only [h9, if_true]
    simp
    omega
  · simp only [h9, if_false]
    simp
    omega

set_option maxRecDepth 8000 in
set_option maxHeartbeats 4000000 in
theorem ref4_node (t : Tm) (w : World) (v : Value) (ht : IsTm w t v) :
    Calls Tryd.prog 63 #[v] w fun e w' => e = .returned (.bool t.node) ∧ Ext w w' := by
  obtain ⟨x, l⟩ := t
  obtain ⟨a, len, cap, rfl, h1, h2, hf, hl⟩ := ht.open_
  have HN := Lib.hid (nums_bad x l)
  rw [← hl.length] at HN
  have HND : Hid (Tm.node (.mk x l) = (Tm.nums (.mk x l) && (fitB x.hasName x.name (isName x.name) && (fitB x.hasArg x.arg (isName x.arg) && fitB x.hasExn x.exn (isExn x.exn))))) := rfl
  clear ht hl
  obtain ⟨q1, hq1⟩ : ∃ q1, q1 = bad1 x len := ⟨_, rfl⟩
  obtain ⟨q2, hq2⟩ : ∃ q2, q2 = bad2 x := ⟨_, rfl⟩
  obtain ⟨q3, hq3⟩ : ∃ q3, q3 = bad3 x := ⟨_, rfl⟩
  rw [← hq1, ← hq2, ← hq3] at HN
  have B1 := Lib.hid hq1
  have B2 := Lib.hid hq2
  have B3 := Lib.hid hq3
  clear hq1 hq2 hq3
  have KK := Lib.hid fun W => ref4_kids x.k W
  go_enter Tryd.func63, Tryd.ntmps63
  go_upto_region 2 with fail
  go_cut [26] (fun s wx => s = .bool q1 ∧ Ext w wx ∧ TBlk wx w.heap.size x a len cap)
  case first =>
    have B1' : Hid (q1 = (decide (karity x.k < 0) || (((len : Int) != karity x.k) || decide (x.pos < 0)))) := B1.out
    have cK := quiet_ext (w := w.alloc (.cells #[.int .u8 x.k, .int .u8 x.op, .int .i64 x.pos, .int .i64 x.n, .string x.name, .string x.arg, .string x.exn, .slice a len cap] 41)) fun w1 _ => (KK.out w1).mono fun e w' ⟨he, hw⟩ => ⟨he, hw ▸ Ext.refl _⟩
    have c2 := box_regrown w #[.int .u8 x.k, .int .u8 x.op, .int .i64 x.pos, .int .i64 x.n, .string x.name, .string x.arg, .string x.exn, .slice a len cap] 41
    clear B1 KK HN HND B2 B3 hf
    generalize karity x.k = ar at *
    rcases or3 (decide (ar < 0)) ((len : Int) != ar) (decide (x.pos < 0)) with A | ⟨A, B⟩ | ⟨A, B, C⟩ | ⟨A, B, C⟩
    all_goals
      rw [A] at B1'
      try rw [B] at B1'
      try rw [C] at B1'
      refine wp_region_quiet_below (by kernel_rfl) (by kernel_rfl) ?_
      repeat (go_big_quiet_step (exact cK _ _))
      refine wpQuiet_nil ?_
      intro w1 hq_w1
      have x1 := ext_of_regrown hq_w1
      clear hq_w1
      go_wp2_with fail
      go_meet
      exact ⟨by rw [B1'.out]; rfl, ((Ext.refl _).alloc _).trans x1, (TBlk.new _ _ _ _ _ _).ext x1⟩
  case rest =>
    obtain ⟨rfl, x1, T1⟩ := hcut
    cases q1
    case true =>
      go_wp2_with fail
      go_ret
      exact ⟨ret_bool (by rw [HND.out, HN.out]; rfl), x1⟩
    go_upto_region 4 with fail
    go_cut [50] (fun s wx => s = .bool q2 ∧ Ext w wx ∧ TBlk wx w.heap.size x a len cap)
    case first =>
      have B2' : Hid (q2 = (((x.k == 9) && (decide (x.op < 1) || decide (5 < x.op))) || ((x.k != 9) && (x.op != 0)))) := B2.out
      have T2 := T1
      obtain ⟨⟨c0, c1, c2, c3, c4, c5, c6⟩, c7⟩ := T2
      simp only [Nat.zero_add] at c0 c1 c2 c3 c4 c5 c6
      clear HN HND B1 B2 B3 KK hf
      have e9 : (x.k != 9) = !(x.k == 9) := rfl
      rw [e9] at B2'
      clear e9
      cases A : (x.k == 9)
      · have A2 : (x.k != 9) = true := by simpa [bne] using A
        cases D : (x.op != 0)
        all_goals
          rw [A, D] at B2'
          go_wp2_with fail
          go_meet
          exact ⟨by rw [B2'.out]; simp, x1, T1⟩
      · have A2 : (x.k != 9) = false := by simpa [bne] using A
        cases B : decide (x.op < 1) <;> cases C : decide (5 < x.op)
        all_goals
          rw [A, B, C] at B2'
          go_wp2_with fail
          go_meet
          exact ⟨by rw [B2'.out]; simp, x1, T1⟩
    case rest =>
    clear x1 T1
    obtain ⟨rfl, x1, T1⟩ := hcut
    cases q2
    case true =>
      go_wp2_with fail
      go_ret
      exact ⟨ret_bool (by rw [HND.out, HN.out]; rfl), x1⟩
    go_upto_region 6 with fail
    go_cut [70] (fun s wx => s = .bool q3 ∧ Ext w wx ∧ TBlk wx w.heap.size x a len cap)
    case first =>
      have B3' : Hid (q3 = (decide (x.n < 0) || (decide (2147483647 < x.n) || ((x.k != 1) && (x.n != 0))))) := B3.out
      have T2 := T1
      obtain ⟨⟨c0, c1, c2, c3, c4, c5, c6⟩, c7⟩ := T2
      simp only [Nat.zero_add] at c0 c1 c2 c3 c4 c5 c6
      clear HN HND B1 B2 B3 KK hf
      rcases or3 (decide (x.n < 0)) (decide (2147483647 < x.n)) (!(x.k != 1)) with A | ⟨A, B⟩ | ⟨A, B, C⟩ | ⟨A, B, C⟩
      case' inr.inr.inr =>
        have C' : (x.k != 1) = true := by simpa using C
        cases D : (x.n != 0)
      case' inr.inr.inl => have C' : (x.k != 1) = false := by simpa using C
      all_goals
        rw [A] at B3'
        try rw [B] at B3'
        try rw [C'] at B3'
        try clear C
        try rw [D] at B3'
        go_wp2_with fail
        go_meet
        exact ⟨by rw [B3'.out]; rfl, x1, T1⟩
    case rest =>
    clear x1 T1
    obtain ⟨rfl, x1, T1⟩ := hcut
    cases q3
    case true =>
      go_wp2_with fail
      go_ret
      exact ⟨ret_bool (by rw [HND.out, HN.out]; rfl), x1⟩
    clear B1 B2 B3
    go_upto_region 8 with fail
    go_cut [4] (fun s wx => s = .bool x.hasName ∧ Ext w wx ∧ TBlk wx w.heap.size x a len cap)
    case first =>
      have HH : Hid (x.hasName = (x.k == 2 || (x.k == 12 || x.k == 13))) := rfl
      clear HN HND KK hf
      rcases or3 (x.k == 2) (x.k == 12) (x.k == 13) with A | ⟨A, B⟩ | ⟨A, B, C⟩ | ⟨A, B, C⟩
      all_goals
        rw [A] at HH
        try rw [B] at HH
        try rw [C] at HH
        go_wp2_with fail
        go_meet
        exact ⟨by rw [HH.out]; rfl, x1, T1⟩
    case rest =>
    clear x1 T1
    obtain ⟨rfl, x1, T1⟩ := hcut
    go_upto_region 9 with fail
    go_cut [5] (fun s wx => s = .bool x.hasArg ∧ Ext w wx ∧ TBlk wx w.heap.size x a len cap)
    case first =>
      have HH : Hid (x.hasArg = (x.k == 11 || (x.k == 13 || x.k == 16))) := rfl
      clear HN HND KK hf
      rcases or3 (x.k == 11) (x.k == 13) (x.k == 16) with A | ⟨A, B⟩ | ⟨A, B, C⟩ | ⟨A, B, C⟩
      all_goals
        rw [A] at HH
        try rw [B] at HH
        try rw [C] at HH
        go_wp2_with fail
        go_meet
        exact ⟨by rw [HH.out]; rfl, x1, T1⟩
    case rest =>
    clear x1 T1
    obtain ⟨rfl, x1, T1⟩ := hcut
    go_upto_region 10 with fail
    go_cut [6] (fun s wx => s = .bool x.hasExn ∧ Ext w wx ∧ TBlk wx w.heap.size x a len cap)
    case first =>
      have HH : Hid (x.hasExn = (x.k == 15 || x.k == 16)) := rfl
      clear HN HND KK hf
      cases A : (x.k == 15) <;> cases B : (x.k == 16)
      all_goals
        rw [A, B] at HH
        go_wp2_with fail
        go_meet
        exact ⟨by rw [HH.out]; rfl, x1, T1⟩
    case rest =>
    clear x1 T1
    obtain ⟨rfl, x1, T1⟩ := hcut
    obtain ⟨⟨c0, c1, c2, c3, c4, c5, c6⟩, c7⟩ := T1
    simp only [Nat.zero_add] at c0 c1 c2 c3 c4 c5 c6
    have d4 := cells_regrown c4
    have d5 := cells_regrown c5
    have d6 := cells_regrown c6
    have K1 := quiet_ext (w := wc) fun w1 _ => ref_name x.name w1
    have K2 := quiet_ext (w := wc) fun w1 _ => ref_name x.arg w1
    have K3 := quiet_ext (w := wc) fun w1 _ => ref_exn x.exn w1
    have F1 := quiet_ext (w := wc) fun w1 _ => (ref4_fits x.hasName (isName x.name) x.name w1).mono fun e w' ⟨he, hw⟩ => ⟨he, hw ▸ Ext.refl _⟩
    have F2 := quiet_ext (w := wc) fun w1 _ => (ref4_fits x.hasArg (isName x.arg) x.arg w1).mono fun e w' ⟨he, hw⟩ => ⟨he, hw ▸ Ext.refl _⟩
    have F3 := quiet_ext (w := wc) fun w1 _ => (ref4_fits x.hasExn (isExn x.exn) x.exn w1).mono fun e w' ⟨he, hw⟩ => ⟨he, hw ▸ Ext.refl _⟩
    obtain ⟨f1, hf1⟩ : ∃ f1, f1 = fitB x.hasName x.name (isName x.name) := ⟨_, rfl⟩
    obtain ⟨f2, hf2⟩ : ∃ f2, f2 = fitB x.hasArg x.arg (isName x.arg) := ⟨_, rfl⟩
    obtain ⟨f3, hf3⟩ : ∃ f3, f3 = fitB x.hasExn x.exn (isExn x.exn) := ⟨_, rfl⟩
    rw [← hf1] at F1 HND
    rw [← hf2] at F2 HND
    rw [← hf3] at F3 HND
    clear hf1 hf2 hf3
    generalize isName x.name = n1 at *
    generalize isName x.arg = n2 at *
    generalize isExn x.exn = n3 at *
    cases f1
    case' true => cases f2
    all_goals
      go_wp2_with fail
      refine wp_region_quiet_below (by kernel_rfl) (by kernel_rfl) ?_
      repeat (go_big_quiet_step (first | with_reducible exact K1 _ _ | with_reducible exact K2 _ _ | with_reducible exact K3 _ _ | with_reducible exact F1 _ _ | with_reducible exact F2 _ _ | with_reducible exact F3 _ _))
      refine wpQuiet_nil ?_
      intro w1 hq_w1
      have x2 := ext_of_regrown hq_w1
      clear hq_w1
      go_wp2_with fail
      go_ret
      exact ⟨ret_bool (by rw [HND.out, HN.out]; simp), x1.trans x2⟩
end Go.Proofs.YtmomahgedheekaaDoor

/- Part 35 of the proof: Ref04; no condition of ours. -/
import Derived.Test.YtaioeailgknfjaaGreatDoorPkp5
import Derived.Test.YtaioeailgknfjaaGreatDoorPkp34
set_option linter.unusedVariables false
set_option linter.unusedSimpArgs false
namespace Go.Proofs.YtaioeailgknfjaaGreatDoor
open Go.Lib (hid)
open Go Go.RowKit Go.Sort
theorem size_dec (n : Nat) : decide ((100 : Int) < (n : Int)) = decide (100 < n) := decide_eq_decide.2 (by omega)
set_option maxRecDepth 8000 in
set_option maxHeartbeats 1000000 in
theorem ref4_left (m : Nat) : ∀ (t : Tm) (n : Int) (w : World) (v : Value), t.size ≤ m → 0 ≤ n → n ≤ 1000000 → IsTm w t v →
    Calls Tryz.prog 46 #[v, .int .i64 n] w fun e w' => e = .returned (.int .i64 (t.left n)) ∧ Ext w w' := by
  induction m with
  | zero => intro t n w v h; have := t.size_pos; omega
  | succ m ih =>
    intro t n w v hm hn0 hn1 ht
    obtain ⟨x, l⟩ := t
    obtain ⟨a, len, cap, rfl, h1, h2, hf, hl⟩ := ht.open_
    have hlong : x.long = (decide ((100 : Int) < (x.name.size : Int)) || (decide ((100 : Int) < (x.arg.size : Int)) || decide ((100 : Int) < (x.exn.size : Int)))) := by
      unfold Hd.long
      rw [size_dec, size_dec, size_dec]
    have HF := hid hf
    clear ht hf
    cases A : decide ((100 : Int) < (x.name.size : Int))
    case true =>
      have HL : Hid (x.long = true) := by show _ = _; rw [hlong, A]; rfl
      clear hlong
      go_enter Tryz.func46, Tryz.ntmps46
      go_wp2_with fail
      go_ret
      exact ⟨ret_int (by rw [Tm.left, if_pos HL.out]), (Ext.refl _).alloc _⟩
    cases B : decide ((100 : Int) < (x.arg.size : Int))
    case true =>
      have HL : Hid (x.long = true) := by show _ = _; rw [hlong, A, B]; rfl
      clear hlong
      go_enter Tryz.func46, Tryz.ntmps46
      go_wp2_with fail
      go_ret
      exact ⟨ret_int (by rw [Tm.left, if_pos HL.out]), (Ext.refl _).alloc _⟩
    cases C : decide ((100 : Int) < (x.exn.size : Int))
    case true =>
      have HL : Hid (x.long = true) := by show _ = _; rw [hlong, A, B, C]; rfl
      clear hlong
      go_enter Tryz.func46, Tryz.ntmps46
      go_wp2_with fail
      go_ret
      exact ⟨ret_int (by rw [Tm.left, if_pos HL.out]), (Ext.refl _).alloc _⟩
    have HLG : Hid (Tm.left (.mk x l) n = Tm.lefts l (n - 1)) := by
      show _ = _
      rw [Tm.left, if_neg (by rw [hlong, A, B, C]; simp)]
    clear hlong
    simp only [Tm.size] at hm
    have HL := hid hl.length
    have hb := fun i => Tm.lefts_spec (l.take i) (fun t _ => Tm.left_spec t) (n - 1) (by omega)
    have HB := hid hb
    have IH := hid ih
    clear hb ih
    go_enter Tryz.func46, Tryz.ntmps46
    go_wp2_with fail
    go_loopg [1, 5] len (fun g s i wr => ∃ j : Nat, g = len - j ∧ j ≤ len ∧ i = .int .i64 j ∧ s = .int .i64 (Tm.lefts (l.take j) (n - 1)) ∧ Ext w wr ∧ wr.cell? ⟨w.heap.size, 7, none⟩ = some (.slice a len cap))
    case atStart => exact ⟨0, by omega, by omega, rfl, by simp [Tm.lefts], (Ext.refl _).alloc _, by simp [go_sem]⟩
    case round =>
      obtain ⟨j, rfl, hj, rfl, rfl, hx, hc⟩ := hrel
      obtain ⟨b1, b2, _⟩ := HB.out j
      have HS := hid (fun q => Tm.lefts_stop l (n - 1) j q)
      by_cases hlt : j < len
      · by_cases hp : 0 ≤ Tm.lefts (l.take j) (n - 1)
        · obtain ⟨y, k, b, o, ak, lenk, capk, g, rfl, hbo, hd, hq, hfy, p1, p2, pl⟩ := hl.at8 hx hlt
          obtain ⟨c0, c1, c2, c3, c4, c5, c6⟩ := hd
          have hsz := Tm.size_at l j _ g
          have HT := hid (Tm.lefts_take l (n - 1) j _ g hp)
          generalize Tm.lefts (l.take j) (n - 1) = s at *
          have K := hid (IH.out (.mk y k) s wr (tval y ak lenk capk) (by omega) hp (by omega) (IsTmA.mk_ pl p1 p2 hfy))
          clear g hfy pl
          go_wp2_with (go_at_call 46; refine (K.out).mono ?_; rintro e w1 ⟨rfl, x1⟩)
          go_roundg (len - (j + 1))
          case rel => exact ⟨j + 1, rfl, by omega, by go_num, by rw [HT.out], hx.trans x1, x1.cell hc⟩
          case measure => omega
        · have hd : decide (0 ≤ Tm.lefts (l.take j) (n - 1)) = false := by simpa using hp
          have hf : (Tm.mk x l).left n = Tm.lefts (l.take j) (n - 1) := by rw [HLG.out]; exact HS.out (by omega)
          have HF := hid hf
          clear hf
          generalize Tm.lefts (l.take j) (n - 1) = s at *
          go_wp2_with fail
          go_ret
          exact ⟨ret_int HF.out.symm, hx⟩
      · obtain rfl : j = len := by omega
        have hf : (Tm.mk x l).left n = Tm.lefts (l.take j) (n - 1) := by rw [HLG.out, List.take_of_length_le (by rw [← HL.out]; omega)]
        have HF := hid hf
        clear hf
        generalize Tm.lefts (l.take j) (n - 1) = s at *
        go_wp2_with fail
        go_ret
        exact ⟨ret_int HF.out.symm, hx⟩
set_option maxHeartbeats 400000 in
theorem ref4_great (t : Tm) (w : World) (v : Value) (ht : IsTm w t v) :
    Calls Tryz.prog 20 #[v] w fun e w' => e = .returned (.bool t.great) ∧ Ext w w' := by
  have K := hid fun W (h : Ext w W) => ref4_left _ t 400 W v (Nat.le_refl _) (by omega) (by omega) (ht.ext h)
  have HD : Hid (decide (t.left 400 < 0) = t.great) := rfl
  obtain ⟨x, l⟩ := t
  obtain ⟨a, len, cap, rfl, h1, h2, hf, hl⟩ := ht.open_
  clear ht hf hl
  go_enter Tryz.func20, Tryz.ntmps20
  go_wp2_with (go_at_call 46; refine (K.out _ ((Ext.refl _).alloc _)).mono ?_; rintro e w1 ⟨rfl, x1⟩)
  go_ret
  exact ⟨ret_bool HD.out, ((Ext.refl _).alloc _).trans x1⟩
set_option maxHeartbeats 1000000 in
theorem ref4_kids (k : Int) (w : World) : Calls Tryz.prog 67 #[.int .u8 k] w fun e w' => e = .returned (.int .i64 (karity k)) ∧ w' = w := by
  have hk : ∀ (l : List Int), k ∈ l ∨ ∀ x, x ∈ l → (k == x) = false := fun l => by
    by_cases h : k ∈ l
    · exact .inl h
    · exact .inr fun x hx => beq_false_of_ne fun e => h (e ▸ hx)
  rcases hk [1, 2, 4, 5, 6, 7, 11, 15, 3, 8, 9, 10, 12, 13, 16, 14] with h | h
  · simp only [List.mem_cons, List.not_mem_nil, or_false] at h
    clear hk
    rcases h with rfl | rfl | rfl | rfl | rfl | rfl | rfl | rfl | rfl | rfl | rfl | rfl | rfl | rfl | rfl | rfl
    all_goals
      go_enter Tryz.func67, Tryz.ntmps67
      go_wp2_with fail
      go_ret
      exact ⟨ret_int (by decide), rfl⟩
  · clear hk
    have e1 := h 1 (by simp)
    have e2 := h 2 (by simp)
    have e4 := h 4 (by simp)
    have e5 := h 5 (by simp)
    have e6 := h 6 (by simp)
    have e7 := h 7 (by simp)
    have e11 := h 11 (by simp)
    have e15 := h 15 (by simp)
    have e3 := h 3 (by simp)
    have e8 := h 8 (by simp)
    have e9 := h 9 (by simp)
    have e10 := h 10 (by simp)
    have e12 := h 12 (by simp)
    have e13 := h 13 (by simp)
    have e16 := h 16 (by simp)
    have e14 := h 14 (by simp)
    have HK : Hid (karity k = -1) := by
      show _ = _
      simp only [beq_eq_false_iff_ne, ne_eq] at e1 e2 e4 e5 e6 e7 e11 e15 e3 e8 e9 e10 e12 e13 e16 e14
      unfold karity
      simp [e1, e2, e4, e5, e6, e7, e11, e15, e3, e8, e9, e10, e12, e13, e16, e14]
    clear h
    go_enter Tryz.func67, Tryz.ntmps67
    go_wp2_with fail
    go_ret
    exact ⟨ret_int HK.out.symm, rfl⟩
set_option maxHeartbeats 1000000 in
theorem ref4_fits (b c : Bool) (s : ByteArray) (w : World) : Calls Tryz.prog 68 #[.bool b, .string s, .bool c] w fun e w' => e = .returned (.bool (fitB b s c)) ∧ w' = w := by
  by_cases hz : s = ByteArray.empty
  · subst hz
    have he : ByteArray.empty.toList.isEmpty = true := by rw [ByteArray.toList_eq]; rfl
    cases b <;> cases c
    all_goals
      go_enter Tryz.func68, Tryz.ntmps68
      go_wp2_with fail
      go_ret
      exact ⟨ret_bool (by simp [fitB, he]), rfl⟩
  · have hb := not_empty_of hz
    cases b <;> cases c
    all_goals
      go_enter Tryz.func68, Tryz.ntmps68
      go_wp2_with fail
      go_ret
      exact ⟨ret_bool (by simp [fitB, hb]), rfl⟩
def TBlk (w : World) (b : Nat) (x : Hd) (a : Option Addr) (len cap : Nat) : Prop := HdAt w x b 0 ∧ w.cell? ⟨b, 7, none⟩ = some (.slice a len cap)
theorem TBlk.ext {w w' : World} {b : Nat} {x : Hd} {a : Option Addr} {len cap : Nat} (h : TBlk w b x a len cap) (hx : Ext w w') : TBlk w' b x a len cap := ⟨h.1.move fun _ _ q => hx.cell q, hx.cell h.2⟩
theorem TBlk.new (w : World) (x : Hd) (a : Option Addr) (len cap : Nat) (T : TypeId) : TBlk (w.alloc (.cells #[.int .u8 x.k, .int .u8 x.op, .int .i64 x.pos, .int .i64 x.n, .string x.name, .string x.arg, .string x.exn, .slice a len cap] T)) w.heap.size x a len cap :=
  ⟨⟨by simp, by simp, by simp, by simp, by simp, by simp, by simp⟩, by simp⟩
theorem or3 (a b c : Bool) : a = true ∨ (a = false ∧ b = true) ∨ (a = false ∧ b = false ∧ c = true) ∨ (a = false ∧ b = false ∧ c = false) := by cases a <;> cases b <;> cases c <;> simp
def bad1 (x : Hd) (len : Nat) : Bool := decide (karity x.k < 0) || (((len : Int) != karity x.k) || decide (x.pos < 0))
def bad2 (x : Hd) : Bool := ((x.k == 9) && (decide (x.op < 1) || decide (5 < x.op))) || ((x.k != 9) && (x.op != 0))
def bad3 (x : Hd) : Bool := decide (x.n < 0) || (decide (2147483647 < x.n) || ((x.k != 1) && (x.n != 0)))
theorem nums_bad (x : Hd) (l : List Tm) : Tm.nums (.mk x l) = (!(bad1 x l.length) && (!(bad2 x) && !(bad3 x))) := by
  unfold Tm.nums bad1 bad2 bad3
  rw [Bool.eq_iff_iff]
  simp only [Bool.and_eq_true, Bool.or_eq_true, Bool.not_eq_true', Bool.or_eq_false_iff, Bool.and_eq_false_imp, decide_eq_true_eq, decide_eq_false_iff_not, bne_iff_ne, bne_eq_false_iff_eq, beq_iff_eq, ne_eq]
  by_cases h9 : x.k = 9
  · simp only [h9, if_true]
    simp
    omega
  · simp only [h9, if_false]
    simp
    omega
set_option maxRecDepth 8000 in
set_option maxHeartbeats 4000000 in
theorem ref4_node (t : Tm) (w : World) (v : Value) (ht : IsTm w t v) :
    Calls Tryz.prog 34 #[v] w fun e w' => e = .returned (.bool t.node) ∧ Ext w w' := by
  obtain ⟨x, l⟩ := t
  obtain ⟨a, len, cap, rfl, h1, h2, hf, hl⟩ := ht.open_
  have HN := hid (nums_bad x l)
  rw [← hl.length] at HN
  have HND : Hid (Tm.node (.mk x l) = (Tm.nums (.mk x l) && (fitB x.hasName x.name (isName x.name) && (fitB x.hasArg x.arg (isName x.arg) && fitB x.hasExn x.exn (isExn x.exn))))) := rfl
  clear ht hl
  obtain ⟨q1, hq1⟩ : ∃ q1, q1 = bad1 x len := ⟨_, rfl⟩
  obtain ⟨q2, hq2⟩ : ∃ q2, q2 = bad2 x := ⟨_, rfl⟩
  obtain ⟨q3, hq3⟩ : ∃ q3, q3 = bad3 x := ⟨_, rfl⟩
  rw [← hq1, ← hq2, ← hq3] at HN
  have B1 := hid hq1
  have B2 := hid hq2
  have B3 := hid hq3
  clear hq1 hq2 hq3
  have KK := hid fun W => ref4_kids x.k W
  go_enter Tryz.func34, Tryz.ntmps34
  go_upto_region 2 with fail
  go_cut [26] (fun s wx => s = .bool q1 ∧ Ext w wx ∧ TBlk wx w.heap.size x a len cap)
  case first =>
    have B1' : Hid (q1 = (decide (karity x.k < 0) || (((len : Int) != karity x.k) || decide (x.pos < 0)))) := B1.out
    have cK := quiet_ext (w := w.alloc (.cells #[.int .u8 x.k, .int .u8 x.op, .int .i64 x.pos, .int .i64 x.n, .string x.name, .string x.arg, .string x.exn, .slice a len cap] 28)) fun w1 _ => (KK.out w1).mono fun e w' ⟨he, hw⟩ => ⟨he, hw ▸ Ext.refl _⟩
    have c2 := box_regrown w #[.int .u8 x.k, .int .u8 x.op, .int .i64 x.pos, .int .i64 x.n, .string x.name, .string x.arg, .string x.exn, .slice a len cap] 28
    clear B1 KK HN HND B2 B3 hf
    generalize karity x.k = ar at *
    rcases or3 (decide (ar < 0)) ((len : Int) != ar) (decide (x.pos < 0)) with A | ⟨A, B⟩ | ⟨A, B, C⟩ | ⟨A, B, C⟩
    all_goals
      rw [A] at B1'
      try rw [B] at B1'
      try rw [C] at B1'
      refine wp_region_quiet_below (by kernel_rfl) (by kernel_rfl) ?_
      repeat (go_big_quiet_step (exact cK _ _))
      refine wpQuiet_nil ?_
      intro w1 hq_w1
      have x1 := ext_of_regrown hq_w1
      clear hq_w1
      go_wp2_with fail
      go_meet
      exact ⟨by rw [B1'.out]; rfl, ((Ext.refl _).alloc _).trans x1, (TBlk.new _ _ _ _ _ _).ext x1⟩
  case rest =>
    obtain ⟨rfl, x1, T1⟩ := hcut
    cases q1
    case true =>
      go_wp2_with fail
      go_ret
      exact ⟨ret_bool (by rw [HND.out, HN.out]; rfl), x1⟩
    go_upto_region 4 with fail
    go_cut [50] (fun s wx => s = .bool q2 ∧ Ext w wx ∧ TBlk wx w.heap.size x a len cap)
    case first =>
      have B2' : Hid (q2 = (((x.k == 9) && (decide (x.op < 1) || decide (5 < x.op))) || ((x.k != 9) && (x.op != 0)))) := B2.out
      have T2 := T1
      obtain ⟨⟨c0, c1, c2, c3, c4, c5, c6⟩, c7⟩ := T2
      simp only [Nat.zero_add] at c0 c1 c2 c3 c4 c5 c6
      clear HN HND B1 B2 B3 KK hf
      have e9 : (x.k != 9) = !(x.k == 9) := rfl
      rw [e9] at B2'
      clear e9
      cases A : (x.k == 9)
      · have A2 : (x.k != 9) = true := by simpa [bne] using A
        cases D : (x.op != 0)
        all_goals
          rw [A, D] at B2'
          go_wp2_with fail
          go_meet
          exact ⟨by rw [B2'.out]; simp, x1, T1⟩
      · have A2 : (x.k != 9) = false := by simpa [bne] using A
        cases B : decide (x.op < 1) <;> cases C : decide (5 < x.op)
        all_goals
          rw [A, B, C] at B2'
          go_wp2_with fail
          go_meet
          exact ⟨by rw [B2'.out]; simp, x1, T1⟩
    case rest =>
    clear x1 T1
    obtain ⟨rfl, x1, T1⟩ := hcut
    cases q2
    case true =>
      go_wp2_with fail
      go_ret
      exact ⟨ret_bool (by rw [HND.out, HN.out]; rfl), x1⟩
    go_upto_region 6 with fail
    go_cut [70] (fun s wx => s = .bool q3 ∧ Ext w wx ∧ TBlk wx w.heap.size x a len cap)
    case first =>
      have B3' : Hid (q3 = (decide (x.n < 0) || (decide (2147483647 < x.n) || ((x.k != 1) && (x.n != 0))))) := B3.out
      have T2 := T1
      obtain ⟨⟨c0, c1, c2, c3, c4, c5, c6⟩, c7⟩ := T2
      simp only [Nat.zero_add] at c0 c1 c2 c3 c4 c5 c6
      clear HN HND B1 B2 B3 KK hf
      rcases or3 (decide (x.n < 0)) (decide (2147483647 < x.n)) (!(x.k != 1)) with A | ⟨A, B⟩ | ⟨A, B, C⟩ | ⟨A, B, C⟩
      case' inr.inr.inr =>
        have C' : (x.k != 1) = true := by simpa using C
        cases D : (x.n != 0)
      case' inr.inr.inl => have C' : (x.k != 1) = false := by simpa using C
      all_goals
        rw [A] at B3'
        try rw [B] at B3'
        try rw [C'] at B3'
        try clear C
        try rw [D] at B3'
        go_wp2_with fail
        go_meet
        exact ⟨by rw [B3'.out]; rfl, x1, T1⟩
    case rest =>
    clear x1 T1
    obtain ⟨rfl, x1, T1⟩ := hcut
    cases q3
    case true =>
      go_wp2_with fail
      go_ret
      exact ⟨ret_bool (by rw [HND.out, HN.out]; rfl), x1⟩
    clear B1 B2 B3
    go_upto_region 8 with fail
    go_cut [4] (fun s wx => s = .bool x.hasName ∧ Ext w wx ∧ TBlk wx w.heap.size x a len cap)
    case first =>
      have HH : Hid (x.hasName = (x.k == 2 || (x.k == 12 || x.k == 13))) := rfl
      clear HN HND KK hf
      rcases or3 (x.k == 2) (x.k == 12) (x.k == 13) with A | ⟨A, B⟩ | ⟨A, B, C⟩ | ⟨A, B, C⟩
      all_goals
        rw [A] at HH
        try rw [B] at HH
        try rw [C] at HH
        go_wp2_with fail
        go_meet
        exact ⟨by rw [HH.out]; rfl, x1, T1⟩
    case rest =>
    clear x1 T1
    obtain ⟨rfl, x1, T1⟩ := hcut
    go_upto_region 9 with fail
    go_cut [5] (fun s wx => s = .bool x.hasArg ∧ Ext w wx ∧ TBlk wx w.heap.size x a len cap)
    case first =>
      have HH : Hid (x.hasArg = (x.k == 11 || (x.k == 13 || x.k == 16))) := rfl
      clear HN HND KK hf
      rcases or3 (x.k == 11) (x.k == 13) (x.k == 16) with A | ⟨A, B⟩ | ⟨A, B, C⟩ | ⟨A, B, C⟩
      all_goals
        rw [A] at HH
        try rw [B] at HH
        try rw [C] at HH
        go_wp2_with fail
        go_meet
        exact ⟨by rw [HH.out]; rfl, x1, T1⟩
    case rest =>
    clear x1 T1
    obtain ⟨rfl, x1, T1⟩ := hcut
    go_upto_region 10 with fail
    go_cut [6] (fun s wx => s = .bool x.hasExn ∧ Ext w wx ∧ TBlk wx w.heap.size x a len cap)
    case first =>
      have HH : Hid (x.hasExn = (x.k == 15 || x.k == 16)) := rfl
      clear HN HND KK hf
      cases A : (x.k == 15) <;> cases B : (x.k == 16)
      all_goals
        rw [A, B] at HH
        go_wp2_with fail
        go_meet
        exact ⟨by rw [HH.out]; rfl, x1, T1⟩
    case rest =>
    clear x1 T1
    obtain ⟨rfl, x1, T1⟩ := hcut
    obtain ⟨⟨c0, c1, c2, c3, c4, c5, c6⟩, c7⟩ := T1
    simp only [Nat.zero_add] at c0 c1 c2 c3 c4 c5 c6
    have d4 := cells_regrown c4
    have d5 := cells_regrown c5
    have d6 := cells_regrown c6
    have K1 := quiet_ext (w := wc) fun w1 _ => ref_name x.name w1
    have K2 := quiet_ext (w := wc) fun w1 _ => ref_name x.arg w1
    have K3 := quiet_ext (w := wc) fun w1 _ => ref_exn x.exn w1
    have F1 := quiet_ext (w := wc) fun w1 _ => (ref4_fits x.hasName (isName x.name) x.name w1).mono fun e w' ⟨he, hw⟩ => ⟨he, hw ▸ Ext.refl _⟩
    have F2 := quiet_ext (w := wc) fun w1 _ => (ref4_fits x.hasArg (isName x.arg) x.arg w1).mono fun e w' ⟨he, hw⟩ => ⟨he, hw ▸ Ext.refl _⟩
    have F3 := quiet_ext (w := wc) fun w1 _ => (ref4_fits x.hasExn (isExn x.exn) x.exn w1).mono fun e w' ⟨he, hw⟩ => ⟨he, hw ▸ Ext.refl _⟩
    obtain ⟨f1, hf1⟩ : ∃ f1, f1 = fitB x.hasName x.name (isName x.name) := ⟨_, rfl⟩
    obtain ⟨f2, hf2⟩ : ∃ f2, f2 = fitB x.hasArg x.arg (isName x.arg) := ⟨_, rfl⟩
    obtain ⟨f3, hf3⟩ : ∃ f3, f3 = fitB x.hasExn x.exn (isExn x.exn) := ⟨_, rfl⟩
    rw [← hf1] at F1 HND
    rw [← hf2] at F2 HND
    rw [← hf3] at F3 HND
    clear hf1 hf2 hf3
    generalize isName x.name = n1 at *
    generalize isName x.arg = n2 at *
    generalize isExn x.exn = n3 at *
    cases f1
    case' true => cases f2
    all_goals
      go_wp2_with fail
      refine wp_region_quiet_below (by kernel_rfl) (by kernel_rfl) ?_
      repeat (go_big_quiet_step (first | with_reducible exact K1 _ _ | with_reducible exact K2 _ _ | with_reducible exact K3 _ _ | with_reducible exact F1 _ _ | with_reducible exact F2 _ _ | with_reducible exact F3 _ _))
      refine wpQuiet_nil ?_
      intro w1 hq_w1
      have x2 := ext_of_regrown hq_w1
      clear hq_w1
      go_wp2_with fail
      go_ret
      exact ⟨ret_bool (by rw [HND.out, HN.out]; simp), x1.trans x2⟩
def FlatTms (w : World) : List Tm → List Value → Prop
  | [], xs => xs = []
  | t :: l, xs => ∃ a len cap rest, xs = (tcells t.head a len cap).toList ++ rest ∧ t.head.Fits ∧ len ≤ cap ∧ cap ≤ maxLen ∧ IsTms w t.kids a len ∧ FlatTms w l rest
theorem FlatTms.append {w : World} {l l' : List Tm} {xs ys : List Value} (h : FlatTms w l xs) (h' : FlatTms w l' ys) : FlatTms w (l ++ l') (xs ++ ys) := by
  induction l generalizing xs with
  | nil => simp only [FlatTms] at h; subst h; simpa using h'
  | cons t l ih =>
    simp only [FlatTms, List.cons_append] at h ⊢
    obtain ⟨a, len, cap, rest, rfl, hf, h1, h2, hk, hr⟩ := h
    exact ⟨a, len, cap, rest ++ ys, by simp, hf, h1, h2, hk, ih hr⟩
theorem FlatTms.length {w : World} {l : List Tm} {xs : List Value} (h : FlatTms w l xs) : xs.length = l.length * 8 := by
  induction l generalizing xs with
  | nil => simp only [FlatTms] at h; subst h; rfl
  | cons t l ih =>
    simp only [FlatTms] at h
    obtain ⟨a, len, cap, rest, rfl, hf, h1, h2, hk, hr⟩ := h
    rw [List.length_append, ih hr]
    simp [tcells]
    omega
theorem FlatTms.one {w : World} {l : List Tm} {xs : List Value} (h : FlatTms w l xs) : ∀ u ∈ xs, u.oneCell' = true := by
  induction l generalizing xs with
  | nil => simp only [FlatTms] at h; subst h; simp
  | cons t l ih =>
    simp only [FlatTms] at h
    obtain ⟨a, len, cap, rest, rfl, hf, h1, h2, hk, hr⟩ := h
    intro u hu
    rcases List.mem_append.1 hu with hu | hu
    · simp [tcells] at hu
      rcases hu with rfl | rfl | rfl | rfl | rfl | rfl | rfl | rfl <;> rfl
    · exact ih hr u hu
theorem FlatTms.ext {w w' : World} (hx : Ext w w') {l : List Tm} {xs : List Value} (h : FlatTms w l xs) : FlatTms w' l xs := by
  induction l generalizing xs with
  | nil => simpa only [FlatTms] using h
  | cons t l ih =>
    simp only [FlatTms] at h ⊢
    obtain ⟨a, len, cap, rest, rfl, hf, h1, h2, hk, hr⟩ := h
    exact ⟨a, len, cap, rest, rfl, hf, h1, h2, hk.ext hx, ih hr⟩
theorem FlatTms.tms {w : World} {l : List Tm} {xs : List Value} (h : FlatTms w l xs) (b o : Nat) (hc : ∀ (j : Nat) u, xs[j]? = some u → w.cell? ⟨b, o + j, none⟩ = some u) : IsTms w l (some ⟨b, o, none⟩) l.length := by
  induction l generalizing xs o with
  | nil => exact IsTmsA.nil _
  | cons t l ih =>
    simp only [FlatTms] at h
    obtain ⟨a, len, cap, rest, rfl, hf, h1, h2, hk, hr⟩ := h
    obtain ⟨x, k⟩ := t
    have hrest := ih hr (o + 8) fun j u hu => by
      have := hc (8 + j) u (by
        rw [List.getElem?_append_right (by simp [tcells])]
        simpa [tcells] using hu)
      rw [show o + 8 + j = o + (8 + j) from by omega]
      exact this
    unfold IsTms IsTmsA
    refine ⟨by simp, b, o, rfl, fun h => h, ?_, by simpa using hrest⟩
    simp only [TmAt]
    exact ⟨⟨hc 0 _ rfl, hc 1 _ rfl, hc 2 _ rfl, hc 3 _ rfl, hc 4 _ rfl, hc 5 _ rfl, hc 6 _ rfl⟩, hf, a, len, cap, hc 7 _ rfl, h1, h2, hk⟩
def RetRow (w0 w : World) (l : List Tm) (e : Ending) (w' : World) : Prop := ∃ v xs, e = .returned v ∧ w'.ownsRow w.heap.size 28 8 v l.length xs ∧ FlatTms w0 l xs ∧ Ext w w'
theorem infoTm : (Tryz.prog.info? 28).map (fun i => (i.zero, i.size, i.bytes)) = some (some (.agg #[.int .u8 0, .int .u8 0, .int .i64 0, .int .i64 0, .string ByteArray.empty, .string ByteArray.empty, .string ByteArray.empty, .slice none 0 0]), 8, 96) := by kernel_rfl
set_option maxRecDepth 8000 in
set_option maxHeartbeats 1000000 in
theorem ref4_all (m : Nat) : ∀ (t : Tm) (w0 w : World) (v : Value), t.size ≤ m → t.size ≤ 1000000 → Ext w0 w → IsTm w0 t v → Calls Tryz.prog 13 #[v] w (RetRow w0 w t.all) := by
  induction m with
  | zero => intro t w0 w v h; have := t.size_pos; omega
  | succ m ih =>
    intro t w0 w v hm hs h0 ht
    obtain ⟨x, l⟩ := t
    obtain ⟨a, len, cap, rfl, h1, h2, hf, hl⟩ := ht.open_
    simp only [Tm.size] at hm hs
    have HL := hid hl.length
    have IH := hid ih
    have HTL := hid hl
    have HF := hid hf
    have H0 := hid h0
    obtain ⟨i0, hi, hz0, hz1, hz2⟩ := info_parts infoTm
    have HI := hid (And.intro hi (And.intro hz0 (And.intro hz1 hz2)))
    clear ih ht hf hl h0 hi hz0 hz1 hz2
    go_enter Tryz.func13, Tryz.ntmps13
    go_wp2_with fail
    go_loopg [3, 10] len (fun g vo i wr => ∃ (j : Nat) (xs : List Value), g = len - j ∧ j ≤ len ∧ i = .int .i64 j ∧ wr.ownsRow (w.heap.size + 1) 28 8 vo (1 + Tm.sizes (l.take j)) xs ∧ FlatTms w0 (.mk x l :: Tm.alls (l.take j)) xs ∧ Ext w wr ∧ wr.cell? ⟨w.heap.size, 7, none⟩ = some (.slice a len cap))
    case atStart =>
      refine ⟨0, (tcells x a len cap).toList, by omega, by omega, rfl, ?_, ?_, ((Ext.refl _).alloc _).alloc _, by simp [go_sem]⟩
      · have h := owns_new (w.alloc (.cells #[.int .u8 x.k, .int .u8 x.op, .int .i64 x.pos, .int .i64 x.n, .string x.name, .string x.arg, .string x.exn, .slice a len cap] 28)) (w.heap.size + 1) 28 8 1 (tcells x a len cap).toList (by simp) (by unfold maxLen; omega) rfl
        rw [World.size_alloc] at h
        exact h
      · simp only [List.take_zero, Tm.alls, FlatTms]
        exact ⟨a, len, cap, [], by simp [Tm.head], HF.out, h1, h2, HTL.out, rfl⟩
    case round =>
      obtain ⟨j, xs, rfl, hj, rfl, hown, hflat, hx, hc⟩ := hrel
      have HOWN := hid hown
      have HFLAT := hid hflat
      clear hown hflat
      by_cases hlt : j < len
      · obtain ⟨y, k, b, o, ak, lenk, capk, g, rfl, hbo, hd, hq, hfy, p1, p2, pl⟩ := HTL.out.at8 (Ext.refl w0) hlt
        obtain ⟨c0, c1, c2, c3, c4, c5, c6⟩ := hd.move fun i v q => (H0.out.trans hx).cell q
        have c7 := (H0.out.trans hx).cell hq
        have hsz := Tm.size_at l j _ g
        have HSS := hid (Tm.sizes_take_succ l j _ g)
        have HAS := hid (Tm.alls_take_succ l j _ g)
        have hle := Tm.sizes_take_le l (j + 1)
        have hss := HSS.out
        have hbound : 1 + Tm.sizes (l.take j) + (Tm.mk y k).size ≤ 1000001 := by omega
        have K := hid (IH.out (.mk y k) w0 wr (tval y ak lenk capk) (by omega) (by omega) (H0.out.trans hx) (IsTmA.mk_ pl p1 p2 hfy))
        have hposk := (Tm.mk y k).size_pos
        have hal := (Tm.mk y k).all_length
        have HAL := hid hal
        clear g pl hfy hd hq hss hle hal
        go_wp2_with (first | (at_builtin; refine wpList_append_own _ rfl (.tmp 13) (.tmp 19) 26 rfl (w.heap.size + 1) 28 i0 (.agg #[.int .u8 0, .int .u8 0, .int .i64 0, .int .i64 0, .string ByteArray.empty, .string ByteArray.empty, .string ByteArray.empty, .slice none 0 0]) 8 96 Tryz.underlying26 HI.out.1 HI.out.2.1 HI.out.2.2.1 HI.out.2.2.2 rfl (by decide) _ (1 + Tm.sizes (l.take j)) xs rfl (owns_ext x1 HOWN.out) ⟨g2, 0, none⟩ _ cap2 ys rfl ?c0 ?c1 ?c2 ?c3 ?c4 ?c5 ?_) | (go_at_call 13; refine (K.out).mono ?_; rintro e w1 ⟨v2, ys, rfl, ho2, hf2, x1⟩; rw [HAL.out] at ho2; obtain ⟨g2, cap2, rfl, hg2, hl2, hn2, hm2, hcells⟩ := owns_open ho2 hposk; have HF2 := hid hf2; have HC2 := hid hcells; clear ho2 hf2 hcells))
        case c0 => exact HF2.out.length.trans (by rw [HAL.out])
        case c1 =>
          intro i u hu
          rw [Addr.add_lit]
          simpa using HC2.out i u hu
        case c2 => exact HF2.out.one
        case c3 => unfold maxLen; omega
        case c4 => omega
        case c5 => have := x1.size; have := hx.size; have := block_lt_of_cell hc; simp at this; omega
        · intro v3 w3 hown3 hgrow _
          have hbase : ∀ k, Value.ownBlock _ = some k → w.heap.size ≤ k := fun k hk => Nat.le_trans (Nat.le_succ _) (HOWN.out.lt k hk).1
          have hx3 := ext_grown hgrow (hx.trans x1) hbase
          have hc3 := hgrow.cell (a := ⟨w.heap.size, 7, none⟩) (x1.cell hc) (fun e => by have := (HOWN.out.lt _ e.symm).1; simp at this; omega)
          have HO3 := hid hown3
          have HF3 := hid (HFLAT.out.append HF2.out)
          clear hown3 hgrow hbase
          go_wp2_with fail
          go_roundg (len - (j + 1))
          case rel =>
            refine ⟨j + 1, xs ++ ys, rfl, by omega, by go_num, ?_, ?_, hx3, hc3⟩
            · rw [HSS.out, ← Nat.add_assoc]; exact HO3.out
            · rw [HAS.out, ← List.cons_append]; exact HF3.out
          case measure => omega
      · obtain rfl : j = len := by omega
        have hall : l.take j = l := List.take_of_length_le (by rw [← HL.out]; omega)
        rw [hall] at HOWN HFLAT
        go_wp2_with fail
        refine bodyPost_ret (v := _) (by simp [results, Tryz.results13, go_sem]; rfl) rfl ⟨_, xs, rfl, ?_, HFLAT.out, hx⟩
        have := owns_base (Nat.le_succ _) HOWN.out
        rw [Tm.all_length]
        exact this
set_option maxRecDepth 8000 in
set_option maxHeartbeats 1000000 in
theorem ref4_may (t : Tm) (w : World) (v : Value) (ht : IsTm w t v) (hs : t.size ≤ 1000000) :
    Calls Tryz.prog 14 #[v] w fun e w' => e = .returned (.bool t.may) ∧ Ext w w' := by
  have K := hid fun W (h : Ext w W) => ref4_all t.size t w W v (Nat.le_refl _) hs h ht
  have HAL := hid t.all_length
  have hpos := t.size_pos
  have HM : Hid (t.may = (decide (t.size ≤ 4000) && t.all.all Tm.node)) := by
    show _ = _
    cases t
    rfl
  generalize t.may = res at *
  generalize t.all = al at *
  generalize t.size = sz at *
  obtain ⟨x, l⟩ := t
  obtain ⟨a, len, cap, rfl, h1, h2, hf, hl⟩ := ht.open_
  clear ht hf hl
  by_cases h4 : sz ≤ 4000
  · have hd : decide ((4000 : Int) < (sz : Int)) = false := by simp; omega
    rw [decide_eq_true h4] at HM
    go_enter Tryz.func14, Tryz.ntmps14
    go_wp2_with (go_at_call 13; refine (K.out _ ((Ext.refl _).alloc _)).mono ?_; rintro e w1 ⟨v2, ys, rfl, ho2, hf2, x1⟩; rw [HAL.out] at ho2; obtain ⟨g2, cap2, rfl, hg2, hl2, hn2, hm2, hcells⟩ := owns_open ho2 hpos; have HT2 := hid ((hf2.ext (((Ext.refl w).alloc _).trans x1)).tms g2 0 (fun j u hu => by simpa using hcells j u hu)); clear ho2 hf2 hcells)
    go_loopg [12] sz (fun g i wr => ∃ j : Nat, g = sz - j ∧ j ≤ sz ∧ i = .int .i64 j ∧ (∀ t, t ∈ al.take j → t.node = true) ∧ Ext w1 wr)
    case atStart => exact ⟨0, by omega, by omega, rfl, by simp, Ext.refl _⟩
    case round =>
      obtain ⟨j, rfl, hj, rfl, hto, hx⟩ := hrel
      have HT := hid hto
      clear hto
      by_cases hlt : j < sz
      · obtain ⟨y, k, b, o, ak, lenk, capk, g, e, hbo, hd, hq, hfy, p1, p2, pl⟩ := HT2.out.at8 hx (i := j) (by rw [HAL.out]; exact hlt)
        simp at e
        obtain ⟨rfl, rfl⟩ := e
        obtain ⟨c0, c1, c2, c3, c4, c5, c6⟩ := hd
        simp only [Nat.zero_add] at c0 c1 c2 c3 c4 c5 c6 hq
        have KN := hid (ref4_node (.mk y k) wr (tval y ak lenk capk) (IsTmA.mk_ pl p1 p2 hfy))
        have G := hid g
        clear g pl hfy
        cases hr : Tm.node (.mk y k)
        all_goals
          rw [hr] at KN
          have HR := hid hr
          clear hr
          go_wp2_with (go_at_call 34; refine (KN.out).mono ?_; rintro e w2 ⟨rfl, x2⟩)
        · go_ret
          refine ⟨ret_bool ?_, (((Ext.refl w).alloc _).trans x1).trans (hx.trans x2)⟩
          have : al.all Tm.node = false := by
            rw [List.all_eq_false]
            exact ⟨_, List.mem_of_getElem? G.out, by rw [HR.out]; simp⟩
          rw [HM.out, this]
          rfl
        · go_roundg (sz - (j + 1))
          case rel =>
            refine ⟨j + 1, rfl, by omega, by go_num, ?_, hx.trans x2⟩
            intro t ht
            rw [List.take_add_one, G.out] at ht
            simp only [List.mem_append, Option.toList_some, List.mem_singleton] at ht
            rcases ht with ht | rfl
            · exact HT.out t ht
            · exact HR.out
          case measure => omega
      · obtain rfl : j = sz := by omega
        go_wp2_with fail
        go_ret
        refine ⟨ret_bool ?_, (((Ext.refl w).alloc _).trans x1).trans hx⟩
        have h0 := HT.out
        rw [List.take_of_length_le (by rw [HAL.out]; omega)] at h0
        have : al.all Tm.node = true := List.all_eq_true.2 h0
        rw [HM.out, this]
        rfl
  · have hd : decide ((4000 : Int) < (sz : Int)) = true := by simp; omega
    rw [decide_eq_false h4] at HM
    go_enter Tryz.func14, Tryz.ntmps14
    go_wp2_with (go_at_call 13; refine (K.out _ ((Ext.refl _).alloc _)).mono ?_; rintro e w1 ⟨v2, ys, rfl, ho2, hf2, x1⟩; rw [HAL.out] at ho2; obtain ⟨g2, cap2, rfl, hg2, hl2, hn2, hm2, hcells⟩ := owns_open ho2 hpos; clear ho2 hf2 hcells)
    go_ret
    exact ⟨ret_bool (by rw [HM.out]; rfl), ((Ext.refl w).alloc _).trans x1⟩
end Go.Proofs.YtaioeailgknfjaaGreatDoor

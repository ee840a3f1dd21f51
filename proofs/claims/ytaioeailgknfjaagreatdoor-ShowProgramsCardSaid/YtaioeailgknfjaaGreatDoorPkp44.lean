/- Part 44 of the proof: Ref06c, Ref06d, Ref05a, Ref05b; no condition of ours. -/
import Derived.Test.YtaioeailgknfjaaGreatDoorPkp1
import Derived.Test.YtaioeailgknfjaaGreatDoorPkp5
import Derived.Test.YtaioeailgknfjaaGreatDoorPkp16
import Derived.Test.YtaioeailgknfjaaGreatDoorPkp38
import Derived.Test.YtaioeailgknfjaaGreatDoorPkp43
set_option linter.unusedVariables false
set_option linter.unusedSimpArgs false
namespace Go.Proofs.YtaioeailgknfjaaGreatDoor
open Go.Lib (hid)
open Go Go.RowKit Go.Sort
theorem itoa_pos6 {n : Int} (h : 0 ≤ n) : Lib.itoa n = Lib.decDigits n.toNat := by unfold Lib.itoa; rw [if_neg (by omega)]
set_option maxRecDepth 60000 in
set_option maxHeartbeats 4000000 in
theorem text_num (x : Hd) (w : World) (a : Option Addr) (c : Nat) (hk : x.k = 1) (h0 : 0 ≤ x.n) (h1 : x.n ≤ 2147483647) :
    Calls Tryz.prog 23 #[.agg #[.int .u8 x.k, .int .u8 x.op, .int .i64 x.pos, .int .i64 x.n, .string x.name, .string x.arg, .string x.exn, .slice a 0 c]] w fun e w' => e = .returned (.string (bs (joinW (Tm.mk x []).wk))) ∧ Ext w w' := by
  have HE : bs (joinW (Tm.mk x []).wk) = bs (Lib.decDigits x.n.toNat) := by rw [wk_1 hk]; simp [joinW, bs_list]
  have KD := hid fun W => (ref_digits x.n W (by omega) (by omega)).mono (fun e w' h => (show e = .returned (.string (bs (Lib.decDigits x.n.toNat))) ∧ Ext W w' from ⟨by rw [h.1, itoa_pos6 h0], h.2⟩))
  rw [HE, hk]
  clear HE hk h0 h1
  go_enter Tryz.func23, Tryz.ntmps23
  go_wp2_with (go_at_call 50; refine (KD.out _).mono ?_; rintro e w5 ⟨rfl, x5⟩)
  go_ret
  exact ⟨rfl, by (exact eX)⟩
theorem sub_all6 {x : Hd} {l : List Tm} {t : Tm} (hn : ∀ u, u ∈ (Tm.mk x l).all → u.node = true) (ht : t ∈ l) : ∀ u, u ∈ t.all → u.node = true := fun u hu => hn u (Tm.mem_all.2 (.inr ⟨t, ht, hu⟩))
theorem sub_size6 {x : Hd} {l : List Tm} {t : Tm} {N : Nat} (hs : (Tm.mk x l).size ≤ N + 1) (ht : t ∈ l) : t.size ≤ N := by
  have := Tm.size_mem l t ht
  simp [Tm.size] at hs
  omega
theorem ref6_text (N : Nat) : TextT N := by
  induction N with
  | zero => intro x ks w a n c hs; simp [Tm.size] at hs
  | succ N hT =>
    intro x ks w a n c hs hz hn hv
    obtain ⟨a', n', c', ev, -, -, hf, ht⟩ := hv.open_
    cases ev
    have ok := node_ok (hn _ (Tm.self_all _))
    have hnn := ht.length
    rcases kinds_of ok with ⟨hk, rfl⟩ | ⟨hk, t0, rfl⟩ | ⟨hk, t0, t1, rfl⟩ | ⟨hk, t0, t1, t2, rfl⟩
    · obtain rfl : n = 0 := hnn
      rcases hk with hk | hk
      · exact text_num x w a c hk ok.n0.1 ok.n0.2
      · exact text_var N hT x w a c hk ok ht
    · obtain rfl : n = 1 := hnn
      obtain ⟨y0, k0⟩ := t0
      have s0 := sub_size6 hs (t := .mk y0 k0) (by simp)
      have z0 : (Tm.mk y0 k0).size ≤ 1000000 := Nat.le_trans (sub_size6 (N := 999999) hz (t := .mk y0 k0) (by simp)) (by omega)
      have n0 := sub_all6 hn (t := .mk y0 k0) (by simp)
      rcases hk with hk | hk | hk | hk | hk | hk
      · exact text_pre4 N hT x y0 k0 w a c hk ok s0 z0 n0 ht
      · exact text_pre5 N hT x y0 k0 w a c hk ok s0 z0 n0 ht
      · exact text_pre6 N hT x y0 k0 w a c hk ok s0 z0 n0 ht
      · exact text_pre7 N hT x y0 k0 w a c hk ok s0 z0 n0 ht
      · exact text_fn N hT x y0 k0 w a c hk ok s0 z0 n0 ht
      · exact text_raise N hT x y0 k0 w a c hk ok s0 z0 n0 ht
    · obtain rfl : n = 2 := hnn
      obtain ⟨y0, k0⟩ := t0
      obtain ⟨y1, k1⟩ := t1
      have s0 := sub_size6 hs (t := .mk y0 k0) (by simp)
      have z0 : (Tm.mk y0 k0).size ≤ 1000000 := Nat.le_trans (sub_size6 (N := 999999) hz (t := .mk y0 k0) (by simp)) (by omega)
      have n0 := sub_all6 hn (t := .mk y0 k0) (by simp)
      have s1 := sub_size6 hs (t := .mk y1 k1) (by simp)
      have z1 : (Tm.mk y1 k1).size ≤ 1000000 := Nat.le_trans (sub_size6 (N := 999999) hz (t := .mk y1 k1) (by simp)) (by omega)
      have n1 := sub_all6 hn (t := .mk y1 k1) (by simp)
      rcases hk with hk | hk | hk | hk | hk | hk | hk
      · exact text_pair N hT x y0 k0 y1 k1 w a c hk ok s0 z0 n0 s1 z1 n1 ht
      · exact text_set N hT x y0 k0 y1 k1 w a c hk ok s0 z0 n0 s1 z1 n1 ht
      · rcases op_cases ok hk with ho | ho | ho | ho | ho
        · exact text_op1 N hT x y0 k0 y1 k1 w a c hk ho ok s0 z0 n0 s1 z1 n1 ht
        · exact text_op2 N hT x y0 k0 y1 k1 w a c hk ho ok s0 z0 n0 s1 z1 n1 ht
        · exact text_op3 N hT x y0 k0 y1 k1 w a c hk ho ok s0 z0 n0 s1 z1 n1 ht
        · exact text_op4 N hT x y0 k0 y1 k1 w a c hk ho ok s0 z0 n0 s1 z1 n1 ht
        · exact text_op5 N hT x y0 k0 y1 k1 w a c hk ho ok s0 z0 n0 s1 z1 n1 ht
      · exact text_app N hT x y0 k0 y1 k1 w a c hk ok s0 z0 n0 s1 z1 n1 ht
      · exact text_let N hT x y0 k0 y1 k1 w a c hk ok s0 z0 n0 s1 z1 n1 ht
      · exact text_letrec N hT x y0 k0 y1 k1 w a c hk ok s0 z0 n0 s1 z1 n1 ht
      · exact text_try N hT x y0 k0 y1 k1 w a c hk ok s0 z0 n0 s1 z1 n1 ht
    · obtain rfl : n = 3 := hnn
      obtain ⟨y0, k0⟩ := t0
      obtain ⟨y1, k1⟩ := t1
      obtain ⟨y2, k2⟩ := t2
      have s0 := sub_size6 hs (t := .mk y0 k0) (by simp)
      have z0 : (Tm.mk y0 k0).size ≤ 1000000 := Nat.le_trans (sub_size6 (N := 999999) hz (t := .mk y0 k0) (by simp)) (by omega)
      have n0 := sub_all6 hn (t := .mk y0 k0) (by simp)
      have s1 := sub_size6 hs (t := .mk y1 k1) (by simp)
      have z1 : (Tm.mk y1 k1).size ≤ 1000000 := Nat.le_trans (sub_size6 (N := 999999) hz (t := .mk y1 k1) (by simp)) (by omega)
      have n1 := sub_all6 hn (t := .mk y1 k1) (by simp)
      have s2 := sub_size6 hs (t := .mk y2 k2) (by simp)
      have z2 : (Tm.mk y2 k2).size ≤ 1000000 := Nat.le_trans (sub_size6 (N := 999999) hz (t := .mk y2 k2) (by simp)) (by omega)
      have n2 := sub_all6 hn (t := .mk y2 k2) (by simp)
      exact text_if N hT x y0 k0 y1 k1 y2 k2 w a c hk ok s0 z0 n0 s1 z1 n1 s2 z2 n2 ht
set_option maxRecDepth 60000 in
set_option maxHeartbeats 4000000 in
theorem ref6_may (es : List Tk) (x : Hd) (ks : List Tm) (w : World) (ea : Option Addr) (en ec : Nat) (a : Option Addr) (n c : Nat) (hTk : IsToks w es ea en) (hec : en ≤ 100000) (ht : IsTm w (.mk x ks) (.agg #[.int .u8 x.k, .int .u8 x.op, .int .i64 x.pos, .int .i64 x.n, .string x.name, .string x.arg, .string x.exn, .slice a n c])) (hs : (Tm.mk x ks).size ≤ 1000000) :
    Calls Tryz.prog 27 #[.agg #[.slice ea en ec, .int .u8 x.k, .int .u8 x.op, .int .i64 x.pos, .int .i64 x.n, .string x.name, .string x.arg, .string x.exn, .slice a n c]] w fun e w' => e = .returned (.bool (pgMay es (.mk x ks))) ∧ Ext w w' := by
  have KM := hid fun W (h : Ext w W) => ref4_may (.mk x ks) W _ (ht.ext h) hs
  have KX := hid fun s W => ref_exn s W
  have HEN := hid hTk.length
  have HTK := hid hTk
  have HPM : Hid ((∀ e, e ∈ es → isExn e.text = true) → pgMay es (.mk x ks) = (Tm.mk x ks).may) := hid fun h => by unfold pgMay; rw [List.all_eq_true.2 h, Bool.true_and]
  have HNO : Hid (∀ (j : Nat) t, es[j]? = some t → isExn t.text = false → pgMay es (.mk x ks) = false) := hid fun j t hj h => by
    cases hp : pgMay es (.mk x ks) with
    | false => rfl
    | true => have h2 := (pgMay_iff.1 hp).1 t (List.mem_of_getElem? hj); rw [h] at h2; cases h2
  generalize pgMay es (.mk x ks) = pm at *
  generalize (Tm.mk x ks).may = tm at *
  clear hTk ht hs
  go_enter Tryz.func27, Tryz.ntmps27
  go_wp2_with fail
  have B0 := hid (Blk.new w 41 #[.slice ea en ec, .int .u8 x.k, .int .u8 x.op, .int .i64 x.pos, .int .i64 x.n, .string x.name, .string x.arg, .string x.exn, .slice a n c])
  have X0 : Ext w (w.alloc (.cells #[.slice ea en ec, .int .u8 x.k, .int .u8 x.op, .int .i64 x.pos, .int .i64 x.n, .string x.name, .string x.arg, .string x.exn, .slice a n c] 41)) := (Ext.refl _).alloc _
  have X0 := hid X0
  generalize w.alloc (.cells #[.slice ea en ec, .int .u8 x.k, .int .u8 x.op, .int .i64 x.pos, .int .i64 x.n, .string x.name, .string x.arg, .string x.exn, .slice a n c] 41) = W0 at *
  go_loopg [7] en (fun g i wr => ∃ j : Nat, g = en - j ∧ i = .int .i64 j ∧ j ≤ en ∧ (∀ e, e ∈ es.take j → isExn e.text = true) ∧ Ext W0 wr)
  case atStart => exact ⟨0, by omega, rfl, by omega, by simp, Ext.refl _⟩
  case round =>
    obtain ⟨j, rfl, rfl, hj, hall, hx⟩ := hrel
    have HALL := hid hall
    have HX := hid hx
    obtain ⟨d0, d1, d2, d3, d4, d5, d6, d7, d8⟩ := (B0.out.ext hx).nine
    clear hall hx
    by_cases hjl : j < en
    · obtain ⟨t, b, o, hi, -, rfl, q0, q1, q2⟩ := (HTK.out.ext (X0.out.trans HX.out)).at3 hjl
      have HI := hid hi
      have hz : (j : Int) < (en : Int) := by omega
      clear hi
      cases hxn : isExn t.text with
      | false =>
        have HPF := hid (HNO.out j t HI.out hxn)
        go_wp2_with (go_at_call 54; refine (KX.out _ _).mono ?_; rw [hxn]; rintro e w2 ⟨rfl, x2⟩)
        go_ret
        exact ⟨by rw [HPF.out]; rfl, X0.out.trans (HX.out.trans x2)⟩
      | true =>
        go_wp2_with (go_at_call 54; refine (KX.out _ _).mono ?_; rw [hxn]; rintro e w2 ⟨rfl, x2⟩)
        go_roundg (en - (j + 1))
        case rel => exact ⟨j + 1, rfl, by go_num, by omega, exn_all HI.out HALL.out hxn, HX.out.trans x2⟩
        case measure => omega
    · obtain rfl : j = en := by omega
      have hz : ¬ (j : Int) < (j : Int) := by omega
      have HPF := hid (HPM.out (fun e he => HALL.out e (by rw [List.take_of_length_le (Nat.le_of_eq HEN.out.symm)]; exact he)))
      go_wp2_with (go_at_call 14; refine (KM.out _ (X0.out.trans HX.out)).mono ?_; rintro e w2 ⟨rfl, x2⟩)
      go_ret
      exact ⟨by rw [HPF.out]; rfl, X0.out.trans (HX.out.trans x2)⟩
theorem exnP_len (es : List Tk) (h : ∀ e, e ∈ es → isExn e.text = true) : (exnP es).length ≤ 24 * es.length := by
  induction es with
  | nil => simp [exnP]
  | cons e l ih =>
    have ih := ih fun e he => h e (by simp [he])
    obtain ⟨c, r, hc, -, h16⟩ := ok_exn (h e (by simp))
    have hc : e.text.data.toList = c :: r := hc
    have l1 : w_exn.data.toList.length = 3 := by decide +kernel
    have l2 : s_semi.data.toList.length = 1 := by decide +kernel
    simp only [exnP, List.length_append, List.length_cons, hc, l1, l2] at h16 ⊢
    omega
theorem exnP_step {es : List Tk} {j : Nat} {t : Tk} (h : es[j]? = some t) : bs (exnP (es.take j)) ++ ⟨#[101, 120, 110, 32]⟩ ++ t.text ++ ⟨#[32, 59, 32]⟩ = bs (exnP (es.take (j + 1))) := by
  rw [take_step h, exnP_append]
  refine bs_ext2 ?_
  simp [ByteArray.data_append, bs_list, exnP, w_exn, s_semi]
set_option maxRecDepth 60000 in
set_option maxHeartbeats 4000000 in
theorem ref6_whole (es : List Tk) (x : Hd) (ks : List Tm) (w : World) (ea : Option Addr) (en ec : Nat) (a : Option Addr) (n c : Nat) (hTk : IsToks w es ea en) (hec : en ≤ 100000) (hex : ∀ e, e ∈ es → isExn e.text = true) (hz : (Tm.mk x ks).size ≤ 4000) (hn : ∀ u, u ∈ (Tm.mk x ks).all → u.node = true) (ht : IsTm w (.mk x ks) (.agg #[.int .u8 x.k, .int .u8 x.op, .int .i64 x.pos, .int .i64 x.n, .string x.name, .string x.arg, .string x.exn, .slice a n c])) :
    Calls Tryz.prog 28 #[.agg #[.slice ea en ec, .int .u8 x.k, .int .u8 x.op, .int .i64 x.pos, .int .i64 x.n, .string x.name, .string x.arg, .string x.exn, .slice a n c]] w fun e w' => e = .returned (.string (bs (joinW (progW es (.mk x ks))))) ∧ Ext w w' := by
  have KT := hid fun W (h : Ext w W) => ref6_text _ x ks W a n c (Nat.le_refl _) (by omega) hn (ht.ext h)
  have hen := hTk.length
  have HEN := hid hen
  have HTK := hid hTk
  have HEX := hid hex
  have hfull : bs (exnP es) ++ bs (joinW (Tm.mk x ks).wk) = bs (joinW (progW es (.mk x ks))) := by
    rw [prog_text _ _ (wk_pos _ hn)]
    exact bs_ext2 (by simp [ByteArray.data_append, bs_list])
  have hxl : (bs (joinW (Tm.mk x ks).wk)).size ≤ 1000000 := by rw [bs_size]; exact shown_len6 _ hz hn
  have HXL := hid hxl
  have HFULL := hid hfull
  have HLEN : Hid (∀ j : Nat, (bs (exnP (es.take j))).size ≤ 24 * 100000) := hid fun j => by
    rw [bs_size]
    have h1 := exnP_len (es.take j) fun e he => hex e (List.mem_of_mem_take he)
    have h2 : (es.take j).length ≤ es.length := by rw [List.length_take]; omega
    omega
  have HTL : Hid (∀ (j : Nat) t, es[j]? = some t → t.text.size ≤ 16) := hid fun j t hj => by
    obtain ⟨c, r, hc, -, h16⟩ := ok_exn (hex t (List.mem_of_getElem? hj))
    have hc : t.text.data.toList = c :: r := hc
    have h3 : t.text.size = t.text.data.toList.length := (Array.length_toList).symm
    rw [h3, hc]
    exact h16
  generalize bs (joinW (progW es (.mk x ks))) = J at *
  generalize bs (joinW (Tm.mk x ks).wk) = X at *
  clear hTk ht hz hn hen hex hfull hxl
  go_enter Tryz.func28, Tryz.ntmps28
  go_wp2_with fail
  have B0 := hid (Blk.new w 41 #[.slice ea en ec, .int .u8 x.k, .int .u8 x.op, .int .i64 x.pos, .int .i64 x.n, .string x.name, .string x.arg, .string x.exn, .slice a n c])
  have X0 : Ext w (w.alloc (.cells #[.slice ea en ec, .int .u8 x.k, .int .u8 x.op, .int .i64 x.pos, .int .i64 x.n, .string x.name, .string x.arg, .string x.exn, .slice a n c] 41)) := (Ext.refl _).alloc _
  have X0 := hid X0
  generalize w.alloc (.cells #[.slice ea en ec, .int .u8 x.k, .int .u8 x.op, .int .i64 x.pos, .int .i64 x.n, .string x.name, .string x.arg, .string x.exn, .slice a n c] 41) = W0 at *
  go_loopg [3, 8] en (fun g s i wr => ∃ j : Nat, g = en - j ∧ i = .int .i64 j ∧ j ≤ en ∧ s = .string (bs (exnP (es.take j))) ∧ wr = W0)
  case atStart => exact ⟨0, by omega, rfl, by omega, rfl, rfl⟩
  case round =>
    obtain ⟨j, rfl, rfl, hj, rfl, rfl⟩ := hrel
    obtain ⟨d0, d1, d2, d3, d4, d5, d6, d7, d8⟩ := B0.out.nine
    by_cases hjl : j < en
    · obtain ⟨t, b, o, hi, -, rfl, q0, q1, q2⟩ := (HTK.out.ext X0.out).at3 hjl
      have HS := hid (exnP_step hi)
      have l1 := HLEN.out j
      have l2 := HTL.out j t hi
      have hz : (j : Int) < (en : Int) := by omega
      clear hi
      generalize bs (exnP (es.take j)) = A at *
      have n1 : ¬ 9223372036854775807 < A.size + 4 := by omega
      have n2 : ¬ 9223372036854775807 < A.size + 4 + t.text.size := by omega
      have n3 : ¬ 9223372036854775807 < A.size + 4 + t.text.size + 3 := by omega
      clear l1 l2
      go_wp2_with fail
      go_roundg (en - (j + 1))
      case rel => exact ⟨j + 1, rfl, by go_num, by omega, by rw [HS.out], rfl⟩
      case measure => omega
    · obtain rfl : j = en := by omega
      have hz : ¬ (j : Int) < (j : Int) := by omega
      have e1 : es.take j = es := List.take_of_length_le (Nat.le_of_eq HEN.out.symm)
      have l1 := HLEN.out j
      have l2 := HXL.out
      rw [e1] at l1 ⊢
      have n1 : ¬ 9223372036854775807 < (bs (exnP es)).size + X.size := by omega
      generalize bs (exnP es) = A at *
      clear e1 l1 l2
      go_wp2_with (go_at_call 23; refine (KT.out _ X0.out).mono ?_; rintro e w2 ⟨rfl, x2⟩)
      go_ret
      exact ⟨by rw [HFULL.out]; rfl, X0.out.trans x2⟩
structure IsL (w : World) (L : List Tk) (a : Option Addr) (n c : Nat) : Prop where
  toks : IsToks w L a n
  le : n ≤ c
  cap : c ≤ 9223372036854775807
theorem IsL.ext {w w' : World} {L : List Tk} {a : Option Addr} {n c : Nat} (h : IsL w L a n c) (hx : Ext w w') : IsL w' L a n c := ⟨h.toks.ext hx, h.le, h.cap⟩
def AtS (L : List Tk) (n i : Nat) (l : List Tk) : Prop := L.drop i = l ∧ i < n
def RetS {α : Type} (L : List Tk) (a : Option Addr) (n c : Nat) (w : World) (V : World → α → Value → Prop) (Z : Value → Prop) (r : Res α) (e : Ending) (w' : World) : Prop :=
  Ext w w' ∧ ∃ (i : Nat) (v : Value), match r with
  | .ok (x, l) => e = .returned (.tuple #[.agg #[.slice a n c, .int .i64 (i : Nat), .bool false], v]) ∧ AtS L n i l ∧ V w' x v
  | .error l => e = .returned (.tuple #[.agg #[.slice a n c, .int .i64 (i : Nat), .bool true], v]) ∧ AtS L n i l ∧ Z v
def txS : List Tk → ByteArray
  | [] => ByteArray.empty
  | t :: _ => if t.k = 4 ∨ t.k = 5 then t.text else ByteArray.empty
theorem txS_is {xs : List ByteArray} (hx : inB xs ByteArray.empty = false) (l : List Tk) : inB xs (txS l) = isT xs l := by
  cases l with
  | nil => exact hx
  | cons t l =>
    unfold txS isT
    simp only
    by_cases h : t.k = 4 ∨ t.k = 5
    · rw [if_pos h]
      rcases h with h | h <;> simp [h]
    · rw [if_neg h, hx]
      have h4 : (t.k == 4) = false := by simp; omega
      have h5 : (t.k == 5) = false := by simp; omega
      rw [h4, h5]
      rfl
theorem AtS.tok {w : World} {L : List Tk} {a : Option Addr} {n c i : Nat} {l : List Tk} (hL : IsL w L a n c) (h : AtS L n i l) :
    ∃ t l' b o, l = t :: l' ∧ a = some ⟨b, o, none⟩ ∧ t.Fits ∧ w.cell? ⟨b, o + i * 3, none⟩ = some (.int .u8 t.k) ∧ w.cell? ⟨b, o + i * 3 + 1, none⟩ = some (.string t.text) ∧ w.cell? ⟨b, o + i * 3 + 2, none⟩ = some (.int .i64 t.pos) ∧ (l' ≠ [] → AtS L n (i + 1) l') := by
  obtain ⟨rfl, hi⟩ := h
  obtain ⟨t, b, o, g, hf, e, q0, q1, q2⟩ := hL.toks.at3 hi
  have hl := hL.toks.length
  have e1 : L.drop i = L[i]'(by omega) :: L.drop (i + 1) := List.drop_eq_getElem_cons (by omega)
  rw [List.getElem?_eq_getElem (by omega)] at g
  cases g
  refine ⟨_, _, b, o, e1, e, hf, q0, q1, q2, fun hne => ⟨rfl, ?_⟩⟩
  rcases Nat.lt_or_ge (i + 1) n with h | h
  · exact h
  · exact (hne (List.drop_eq_nil_of_le (by omega))).elim
set_option maxRecDepth 8000 in
set_option maxHeartbeats 2000000 in
theorem ref5_text (L : List Tk) (a : Option Addr) (n c i : Nat) (bad : Bool) (l : List Tk) (w : World) (hL : IsL w L a n c) (h : AtS L n i l) :
    Calls Tryz.prog 41 #[.agg #[.slice a n c, .int .i64 (i : Nat), .bool bad]] w fun e w' => e = .returned (.string (txS l)) ∧ Ext w w' := by
  obtain ⟨t, l', b, o, rfl, rfl, hf, q0, q1, q2, -⟩ := h.tok hL
  have hz : (i : Int) < (n : Int) := by have := h.2; omega
  have HT := hid (show txS (t :: l') = if t.k = 4 ∨ t.k = 5 then t.text else ByteArray.empty from rfl)
  have hc : t.k = 4 ∨ t.k = 5 ∨ (t.k ≠ 4 ∧ t.k ≠ 5) := by omega
  have lb := World.block_lt_of_cell? _ _ q0
  clear h hL
  generalize txS (t :: l') = r at *
  obtain ⟨k, s, p⟩ := t
  simp only at *
  rcases hc with rfl | rfl | ⟨n4, n5⟩
  · have HR : Hid (r = s) := hid (by rw [HT.out]; simp)
    go_enter Tryz.func41, Tryz.ntmps41
    go_wp2_with fail
    go_ret
    exact ⟨by rw [HR.out]; rfl, by (exact eX)⟩
  · have HR : Hid (r = s) := hid (by rw [HT.out]; simp)
    go_enter Tryz.func41, Tryz.ntmps41
    go_wp2_with fail
    go_ret
    exact ⟨by rw [HR.out]; rfl, by (exact eX)⟩
  · have HR : Hid (r = ByteArray.empty) := hid (by rw [HT.out]; simp [n4, n5])
    have b4 : (k == 4) = false := by simpa using n4
    have b5 : (k == 5) = false := by simpa using n5
    clear n4 n5
    go_enter Tryz.func41, Tryz.ntmps41
    go_wp2_with fail
    go_ret
    exact ⟨by rw [HR.out]; rfl, by (exact eX)⟩
def RetW (L : List Tk) (a : Option Addr) (n c : Nat) (w : World) (r : Res Unit) (e : Ending) (w' : World) : Prop :=
  Ext w w' ∧ ∃ i : Nat, match r with
  | .ok (_, l) => e = .returned (.agg #[.slice a n c, .int .i64 (i : Nat), .bool false]) ∧ AtS L n i l
  | .error l => e = .returned (.agg #[.slice a n c, .int .i64 (i : Nat), .bool true]) ∧ AtS L n i l
def SBlk (w : World) (g : Nat) (a : Option Addr) (n c i : Nat) (bad : Bool) : Prop := Blk w g 71 #[.slice a n c, .int .i64 (i : Nat), .bool bad]
theorem blk_top1 {w w1 : World} {cs : Array Value} {T : TypeId} {o : Obj} (x : Ext ((w.alloc o).alloc (.cells cs T)) w1) : Blk w1 (w.heap.size + 1) T cs := by
  have h := Blk.new (w.alloc o) T cs
  rw [World.size_alloc] at h
  exact h.ext x
theorem blk_under1 {w w1 : World} {cs : Array Value} {T : TypeId} {o : Obj} (x : Ext ((w.alloc (.cells cs T)).alloc o) w1) : Blk w1 w.heap.size T cs := ((Blk.new w T cs).alloc o).ext x
theorem getW_tx {x : ByteArray} (hx : x ≠ ByteArray.empty) (l : List Tk) : getW x l = if txS l = x then .ok ((), l.tail) else .error l := by
  unfold getW
  have h0 : inB [x] ByteArray.empty = false := by
    cases h : inB [x] ByteArray.empty with
    | false => rfl
    | true => exact absurd ((inB_iff _ _).1 h) (by simp; exact fun e => hx e.symm)
  have h := txS_is h0 l
  rw [← h]
  by_cases e : txS l = x
  · rw [if_pos e, if_pos ((inB_iff _ _).2 (by simp [e]))]
  · rw [if_neg e, if_neg (fun h => e (by simpa using (inB_iff _ _).1 h))]
theorem SBlk.open_ {w : World} {g : Nat} {a : Option Addr} {n c i : Nat} {bad : Bool} (h : SBlk w g a n c i bad) : w.cell? ⟨g, 0, none⟩ = some (.slice a n c) ∧ w.cell? ⟨g, 1, none⟩ = some (.int .i64 (i : Nat)) ∧ w.cell? ⟨g, 2, none⟩ = some (.bool bad) ∧ w.frozen? ⟨g, 0, none⟩ = false ∧ w.frozen? ⟨g, 1, none⟩ = false ∧ w.frozen? ⟨g, 2, none⟩ = false ∧ g < w.heap.size :=
  ⟨Blk.cell h 0, Blk.cell h 1, Blk.cell h 2, Blk.frozen h 0, Blk.frozen h 1, Blk.frozen h 2, Blk.lt h⟩
theorem Blk.lay3 {w : World} {g : Nat} {t : TypeId} {c0 c1 c2 u0 u1 u2 : Value} (h : Blk w g t #[c0, c1, c2]) : Blk (((w.setCell ⟨g, 0, none⟩ u0).setCell ⟨g, 1, none⟩ u1).setCell ⟨g, 2, none⟩ u2) g t #[u0, u1, u2] := by
  have h := ((h.set_ 0 u0).set_ 1 u1).set_ 2 u2
  simpa using h
set_option maxRecDepth 8000 in
set_option maxHeartbeats 2000000 in
theorem ref5_want_bad (a : Option Addr) (n c i : Nat) (x : ByteArray) (w : World) :
    Calls Tryz.prog 43 #[.agg #[.slice a n c, .int .i64 (i : Nat), .bool true], .string x] w fun e w' => e = .returned (.agg #[.slice a n c, .int .i64 (i : Nat), .bool true]) ∧ Ext w w' := by
  go_enter Tryz.func43, Tryz.ntmps43
  go_wp2_with fail
  exact bodyPost_ret (v := .agg #[.slice a n c, .int .i64 (i : Nat), .bool true]) (by simp [results, Tryz.results43, go_sem]) rfl ⟨rfl, by (exact eX)⟩
set_option maxRecDepth 8000 in
set_option maxHeartbeats 2000000 in
theorem ref5_want (L : List Tk) (a : Option Addr) (n c i : Nat) (x : ByteArray) (hx : x ≠ ByteArray.empty) (l : List Tk) (w : World) (hL : IsL w L a n c) (h : AtS L n i l) (he : Ended l) :
    Calls Tryz.prog 43 #[.agg #[.slice a n c, .int .i64 (i : Nat), .bool false], .string x] w (RetW L a n c w (getW x l)) := by
  have KX := hid fun W (x : Ext w W) => ref5_text L a n c i false l W (hL.ext x) h
  have HG := hid (getW_tx hx l)
  have hi := h.2
  have hn := hL.le
  have hcc := hL.cap
  have HAT := hid h
  have HNX : Hid (getW x l = .ok ((), l.tail) → AtS L n (i + 1) l.tail) := hid fun hg => by
    obtain ⟨t, l', b, o, rfl, -, -, -, -, -, hnx⟩ := h.tok hL
    have hk : isT [x] (t :: l') = true := by
      unfold getW at hg
      split at hg
      · assumption
      · cases hg
    have hne : l' ≠ [] := by
      intro e
      subst e
      exact isT_kind hk he
    exact hnx hne
  obtain ⟨tx, htx⟩ : ∃ tx, tx = txS l := ⟨_, rfl⟩
  rw [← htx] at KX HG
  clear h hL he
  by_cases hq : tx = x
  case neg =>
    have hb : (tx.toList == x.toList) = false := by
      simp only [beq_eq_false_iff_ne]
      exact fun e => hq (toList_inj e)
    have HR : Hid (getW x l = .error l) := hid (by rw [HG.out, if_neg hq])
    generalize getW x l = r at *
    clear hq htx
    go_enter Tryz.func43, Tryz.ntmps43
    go_wp2_with fail
    refine (KX.out _ (by (exact eX))).mono ?_
    rintro e w1 ⟨rfl, x1⟩
    obtain ⟨p0, p1, p2, f0, f1, f2, l0⟩ := SBlk.open_ (blk_under1 x1)
    obtain ⟨q0, q1, q2, g0, g1, g2, l1⟩ := SBlk.open_ (blk_top1 x1)
    have y1 : Ext w w1 := by (exact eX)
    have B9 := hid (((blk_top1 x1).far (p := ⟨w.heap.size, 2, none⟩) (by show w.heap.size + 1 ≠ w.heap.size; omega) (.bool true)).lay3 (u0 := .slice a n c) (u1 := .int .i64 (i : Nat)) (u2 := .bool true))
    clear x1
    go_wp2_with fail
    rw [HR.out]
    obtain ⟨r0, r1, r2, -⟩ := SBlk.open_ B9.out
    exact bodyPost_ret (v := .agg #[.slice a n c, .int .i64 (i : Nat), .bool true]) (by simp [results, Tryz.results43, go_sem, r0, r1, r2]) rfl ⟨by (exact eX), i, rfl, HAT.out⟩
  case pos =>
    subst hq
    have HR : Hid (getW tx l = .ok ((), l.tail)) := hid (by rw [HG.out, if_pos rfl])
    have HA2 := hid (HNX.out HR.out)
    have hw1 : IntKind.i64.wrap ((i : Int) + 1) = (i : Int) + 1 := IntWalk.i64_in _ ⟨by omega, by omega⟩
    generalize getW tx l = r at *
    clear htx
    go_enter Tryz.func43, Tryz.ntmps43
    go_wp2_with fail
    refine (KX.out _ (by (exact eX))).mono ?_
    rintro e w1 ⟨rfl, x1⟩
    obtain ⟨p0, p1, p2, f0, f1, f2, l0⟩ := SBlk.open_ (blk_under1 x1)
    obtain ⟨q0, q1, q2, g0, g1, g2, l1⟩ := SBlk.open_ (blk_top1 x1)
    have y1 : Ext w w1 := by (exact eX)
    have B9 := hid (((blk_top1 x1).far (p := ⟨w.heap.size, 1, none⟩) (by show w.heap.size + 1 ≠ w.heap.size; omega) (.int .i64 ((i : Int) + 1))).lay3 (u0 := .slice a n c) (u1 := .int .i64 ((i : Int) + 1)) (u2 := .bool false))
    clear x1
    go_wp2_with fail
    rw [HR.out]
    obtain ⟨r0, r1, r2, -⟩ := SBlk.open_ B9.out
    exact bodyPost_ret (v := .agg #[.slice a n c, .int .i64 ((i : Int) + 1), .bool false]) (by simp [results, Tryz.results43, go_sem, r0, r1, r2]) rfl ⟨by (exact eX), i + 1, rfl, HA2.out⟩
theorem Ended.next {t : Tk} {l : List Tk} (h : Ended (t :: l)) (hk : t.k ≠ 6) : l ≠ [] := by
  intro e
  subst e
  exact hk h
def IsStr (_ : World) (x : ByteArray) (v : Value) : Prop := v = .string x
def AnyStr (v : Value) : Prop := ∃ s, v = .string s
set_option maxRecDepth 8000 in
set_option maxHeartbeats 2000000 in
theorem ref5_get_bad (a : Option Addr) (n c i : Nat) (k : Int) (w : World) :
    Calls Tryz.prog 42 #[.agg #[.slice a n c, .int .i64 (i : Nat), .bool true], .int .u8 k] w fun e w' => e = .returned (.tuple #[.agg #[.slice a n c, .int .i64 (i : Nat), .bool true], .string ⟨#[]⟩]) ∧ Ext w w' := by
  go_enter Tryz.func42, Tryz.ntmps42
  go_wp2_with fail
  exact bodyPost_ret (v := .tuple #[.agg #[.slice a n c, .int .i64 (i : Nat), .bool true], .string ⟨#[]⟩]) (by simp [results, Tryz.results42, go_sem]) rfl ⟨rfl, by (exact eX)⟩
set_option maxRecDepth 8000 in
set_option maxHeartbeats 2000000 in
theorem ref5_get (L : List Tk) (a : Option Addr) (n c i : Nat) (k : Int) (hk6 : k ≠ 6) (l : List Tk) (w : World) (hL : IsL w L a n c) (h : AtS L n i l) (he : Ended l) :
    Calls Tryz.prog 42 #[.agg #[.slice a n c, .int .i64 (i : Nat), .bool false], .int .u8 k] w (RetS L a n c w IsStr AnyStr (getK k l)) := by
  have hi := h.2
  have hn := hL.le
  have hcc := hL.cap
  have HAT := hid h
  obtain ⟨t, l', b, o, rfl, rfl, -, q0, q1, q2, hnx⟩ := h.tok hL
  have hlb := World.block_lt_of_cell? _ _ q0
  have HNX := hid hnx
  have HE := hid he
  have hz : (i : Int) < (n : Int) := by omega
  clear h hL he hnx
  by_cases hq : t.k = k
  case neg =>
    have hb : (t.k == k) = false := by simpa using hq
    have HR : Hid (getK k (t :: l') = .error (t :: l')) := hid (by show (if t.k = k then _ else _) = _; rw [if_neg hq])
    generalize getK k (t :: l') = r at *
    clear hq
    go_enter Tryz.func42, Tryz.ntmps42
    go_wp2_with fail
    rw [HR.out]
    exact bodyPost_ret (v := .tuple #[.agg #[.slice (some ⟨b, o, none⟩) n c, .int .i64 (i : Nat), .bool true], .string ⟨#[]⟩]) (by simp [results, Tryz.results42, go_sem]) rfl ⟨by (exact eX), i, .string ⟨#[]⟩, rfl, HAT.out, _, rfl⟩
  case pos =>
    have HR : Hid (getK k (t :: l') = .ok (t.text, l')) := hid (by show (if t.k = k then _ else _) = _; rw [if_pos hq])
    have HA2 := hid (HNX.out (HE.out.next (by omega)))
    have hw1 : IntKind.i64.wrap ((i : Int) + 1) = (i : Int) + 1 := IntWalk.i64_in _ ⟨by omega, by omega⟩
    generalize getK k (t :: l') = r at *
    subst hq
    go_enter Tryz.func42, Tryz.ntmps42
    go_wp2_with fail
    rw [HR.out]
    exact bodyPost_ret (v := .tuple #[.agg #[.slice (some ⟨b, o, none⟩) n c, .int .i64 ((i : Int) + 1), .bool false], .string t.text]) (by simp [results, Tryz.results42, go_sem]) rfl ⟨by (exact eX), i + 1, .string t.text, rfl, HA2.out, rfl⟩
set_option maxRecDepth 8000 in
set_option maxHeartbeats 2000000 in
theorem ref5_in (xs : List ByteArray) (x : ByteArray) (w : World) (a : Option Addr) (len cap : Nat) (h1 : len ≤ cap) (h2 : cap ≤ 9223372036854775807) (hr : IsRow w (vstr xs) a len) :
    Calls Tryz.prog 96 #[.slice a len cap, .string x] w fun e w' => e = .returned (.bool (inB xs x)) ∧ Ext w w' := by
  have HR := hid hr
  have hlen := hr.1
  simp [vstr] at hlen
  have HLEN := hid hlen
  clear hr hlen
  go_enter Tryz.func96, Tryz.ntmps96
  go_wp2_with fail
  go_loopg [8] len (fun g i wr => ∃ j : Nat, g = len - j ∧ j ≤ len ∧ i = .int .i64 j ∧ (∀ t, t ∈ xs.take j → (t.toList == x.toList) = false) ∧ Ext w wr)
  case atStart => exact ⟨0, rfl, Nat.zero_le _, rfl, by simp, Ext.refl _⟩
  case round =>
    obtain ⟨j, rfl, hj, rfl, hno, hx⟩ := hrel
    have HNO := hid hno
    clear hno
    by_cases hlt : j < len
    · obtain ⟨y, b, o, g, rfl, q⟩ := (HR.out.ext hx).str hlt
      have hz : (j : Int) < (len : Int) := by omega
      cases hq : (y.toList == x.toList)
      · have HQ := hid hq
        go_wp2_with fail
        go_roundg (len - (j + 1))
        case rel =>
          refine ⟨j + 1, rfl, by omega, by go_num, ?_, hx⟩
          intro t ht
          rw [List.take_add_one, g] at ht
          rcases List.mem_append.1 ht with ht | ht
          · exact HNO.out t ht
          · simp at ht
            subst ht
            exact HQ.out
        case measure => omega
      · have HB : Hid (inB xs x = true) := hid (by
          unfold inB
          have e : y.toList = x.toList := by simpa using hq
          exact List.any_eq_true.2 ⟨y, List.mem_of_getElem? g, by simp [e]⟩)
        have hq2 : (x.toList == y.toList) = true := by have e : y.toList = x.toList := by simpa using hq
                                                       simp [e]
        clear g
        go_wp2_with fail
        go_ret
        exact ⟨by rw [HB.out]; rfl, hx⟩
    · obtain rfl : j = len := by omega
      have HB : Hid (inB xs x = false) := hid (by
        unfold inB
        rw [List.any_eq_false]
        intro y hy
        have := HNO.out y (by rw [List.take_of_length_le (by rw [← HLEN.out]; omega)]; exact hy)
        intro e
        have e : x.toList = y.toList := by simpa using e
        simp [e] at this)
      go_wp2_with fail
      go_ret
      exact ⟨by rw [HB.out]; rfl, hx⟩
set_option maxRecDepth 8000 in
set_option maxHeartbeats 2000000 in
theorem ref5_term (k pos : Int) (a : Option Addr) (len cap : Nat) (w : World) :
    Calls Tryz.prog 121 #[.int .u8 k, .int .i64 pos, .slice a len cap] w fun e w' => e = .returned (.agg #[.int .u8 k, .int .u8 0, .int .i64 pos, .int .i64 0, .string ⟨#[]⟩, .string ⟨#[]⟩, .string ⟨#[]⟩, .slice a len cap]) ∧ Ext w w' := by
  go_enter Tryz.func121, Tryz.ntmps121
  go_wp2_with fail
  exact bodyPost_ret (v := .agg #[.int .u8 k, .int .u8 0, .int .i64 pos, .int .i64 0, .string ⟨#[]⟩, .string ⟨#[]⟩, .string ⟨#[]⟩, .slice a len cap]) (by simp [results, Tryz.results121, go_sem]) rfl ⟨rfl, by (exact eX)⟩
theorem row_at1 (w : World) (o : Obj) (t : TypeId) (l : List Value) : IsRow ((w.alloc o).alloc (.cells l.toArray t)) l (some ⟨w.heap.size + 1, 0, none⟩) l.length := by
  have h := IsRow.new (w.alloc o) t l
  rw [World.size_alloc] at h
  exact h
def RetStrs5 (xs : List ByteArray) (w : World) (e : Ending) (w' : World) : Prop := ∃ a, e = .returned (.slice a xs.length xs.length) ∧ IsRow w' (vstr xs) a xs.length ∧ Ext w w'
set_option maxRecDepth 8000 in
set_option maxHeartbeats 2000000 in
theorem ref5_signs (k : Nat) (hk : k < 4) (w : World) : Calls Tryz.prog 97 #[.int .i64 (k : Nat)] w (RetStrs5 (signsL k) w) := by
  match k, hk with
  | 0, _ =>
    go_enter Tryz.func97, Tryz.ntmps97
    go_wp2_with fail
    go_ret
    exact ⟨_, rfl, IsRow.new w _ (vstr [s_set]), by (exact eX)⟩
  | 1, _ =>
    go_enter Tryz.func97, Tryz.ntmps97
    go_wp2_with fail
    go_ret
    exact ⟨_, rfl, IsRow.new w _ (vstr [s_less, s_eq]), by (exact eX)⟩
  | 2, _ =>
    go_enter Tryz.func97, Tryz.ntmps97
    go_wp2_with fail
    go_ret
    exact ⟨_, rfl, IsRow.new w _ (vstr [s_plus, s_minus]), by (exact eX)⟩
  | 3, _ =>
    go_enter Tryz.func97, Tryz.ntmps97
    go_wp2_with fail
    go_ret
    exact ⟨_, rfl, IsRow.new w _ (vstr [s_star]), by (exact eX)⟩
set_option maxRecDepth 8000 in
set_option maxHeartbeats 4000000 in
theorem ref5_starts (L : List Tk) (a : Option Addr) (n c i : Nat) (l : List Tk) (w : World) (hL : IsL w L a n c) (h : AtS L n i l) :
    Calls Tryz.prog 120 #[.agg #[.slice a n c, .int .i64 (i : Nat), .bool false]] w fun e w' => e = .returned (.bool (beginsT l)) ∧ Ext w w' := by
  have KX := hid fun W (x : Ext w W) => ref5_text L a n c i false l W (hL.ext x) h
  have KI := hid fun W (aa : Option Addr) (hr : IsRow W (vstr [s_bang, w_ref, w_fst, w_snd, w_raise, s_open]) aa 6) => ref5_in [s_bang, w_ref, w_fst, w_snd, w_raise, s_open] (txS l) W aa 6 6 (Nat.le_refl _) (by omega) hr
  rw [txS_is (by decide +kernel) l] at KI
  obtain ⟨t, l', b, o, rfl, rfl, hf, q0, q1, q2, -⟩ := h.tok hL
  have hz : (i : Int) < (n : Int) := by have := h.2; omega
  have HT := hid (show beginsT (t :: l') = (t.k == 1 || (t.k == 2 || isT [s_bang, w_ref, w_fst, w_snd, w_raise, s_open] (t :: l'))) from rfl)
  have lb := World.block_lt_of_cell? _ _ q0
  clear h hL
  generalize beginsT (t :: l') = r at *
  generalize isT [s_bang, w_ref, w_fst, w_snd, w_raise, s_open] (t :: l') = q at *
  generalize txS (t :: l') = tx at *
  cases e1 : (t.k == 1)
  · cases e2 : (t.k == 2)
    · have HR : Hid (r = q) := hid (by rw [HT.out, e1, e2]; rfl)
      go_enter Tryz.func120, Tryz.ntmps120
      go_wp2_with (first | (go_at_call 41; refine (KX.out _ (by (exact eX))).mono ?_; rintro e w1 ⟨rfl, x1⟩; have hrow := (row_at1 w _ _ (vstr [s_bang, w_ref, w_fst, w_snd, w_raise, s_open])).ext x1) | (go_at_call 96; refine (KI.out _ _ hrow).mono ?_; rintro e w2 ⟨rfl, x2⟩))
      go_ret
      exact ⟨by rw [HR.out]; rfl, by (exact eX)⟩
    · have HR : Hid (r = true) := hid (by rw [HT.out, e1, e2]; rfl)
      go_enter Tryz.func120, Tryz.ntmps120
      go_wp2_with fail
      go_ret
      exact ⟨by rw [HR.out]; rfl, by (exact eX)⟩
  · have HR : Hid (r = true) := hid (by rw [HT.out, e1]; rfl)
    go_enter Tryz.func120, Tryz.ntmps120
    go_wp2_with fail
    go_ret
    exact ⟨by rw [HR.out]; rfl, by (exact eX)⟩
end Go.Proofs.YtaioeailgknfjaaGreatDoor

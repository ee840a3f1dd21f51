/- The walk of value.Read. -/
import Derived.Test.YtmomahgedheekaaDoorValue4
import Derived.Test.YtmomahgedheekaaDoorRef18b
namespace Go.Proofs.YtmomahgedheekaaDoor
open Go Go.RowKit Go.Sort

/-- An end's value. -/
def ev (e : En) : Value := .agg #[.int .u8 e.k, .bool e.isInt, .int .i64 e.n, .string e.exn]
/-- What value.Read hands back: the end, or the error. -/
def RetR (r : Option En) (w : World) (e : Ending) (w' : World) : Prop := e = .returned (.tuple #[ev (r.getD ⟨0, false, 0, ByteArray.empty⟩), .int .i64 (if r.isSome then 0 else 2)]) ∧ Ext w w'

theorem fixed_at {s : ByteArray} (k : Nat) (hk : k < 4) (h : s.data.toList = tFixed (k + 3 : Nat)) : fidx (fun y => s.toList == y.toList) fixedT = k := by
  have e : s = bs (tFixed (k + 3 : Nat)) := by rw [bs_of s, h]
  subst e
  match k, hk with
  | 0, _ | 1, _ | 2, _ | 3, _ =>
    unfold fidx fixedT
    simp only [List.any_cons, List.findIdx_cons, List.any_nil, List.findIdx_nil, cmp_bs, bs_list]
    decide
theorem fixed_none {s : ByteArray} (h : ∀ k : Nat, 3 ≤ k → k < 7 → tFixed (k : Int) ≠ s.data.toList) : fidx (fun y => s.toList == y.toList) fixedT = -1 := by
  refine fidx_none fun t ht => ?_
  have key : ∀ k : Nat, 3 ≤ k → k < 7 → (s.toList == (bs (tFixed (k : Int))).toList) = false := fun k h3 h7 => by
    rw [beq_eq_false_iff_ne]
    intro e
    apply h k h3 h7
    rw [ByteArray.toList_eq, ByteArray.toList_eq, bs_list] at e
    exact e.symm
  simp only [fixedT, List.mem_cons, List.not_mem_nil, or_false] at ht
  rcases ht with rfl | rfl | rfl | rfl
  · exact key 3 (by omega) (by omega)
  · exact key 4 (by omega) (by omega)
  · exact key 5 (by omega) (by omega)
  · exact key 6 (by omega) (by omega)

/-- A slot of four cells, behind whatever left the old blocks as they were; and once it is filled. -/
theorem slot4 {w w2 : World} {v0 v1 v2 v3 : Value} {t : TypeId} (hx : Ext (w.alloc (.cells #[v0, v1, v2, v3] t)) w2) :
    w2.frozen? ⟨w.heap.size, 0, none⟩ = false ∧ w2.frozen? ⟨w.heap.size, 1, none⟩ = false ∧ w2.frozen? ⟨w.heap.size, 2, none⟩ = false ∧ w2.frozen? ⟨w.heap.size, 3, none⟩ = false
    ∧ w2.cell? ⟨w.heap.size, 0, none⟩ = some v0 ∧ w2.cell? ⟨w.heap.size, 1, none⟩ = some v1 ∧ w2.cell? ⟨w.heap.size, 2, none⟩ = some v2 ∧ w2.cell? ⟨w.heap.size, 3, none⟩ = some v3 ∧ w.heap.size < w2.heap.size
    ∧ ∀ u0 u1 u2 u3 w3, w3 = (((w2.setCell ⟨w.heap.size, 0, none⟩ u0).setCell ⟨w.heap.size, 1, none⟩ u1).setCell ⟨w.heap.size, 2, none⟩ u2).setCell ⟨w.heap.size, 3, none⟩ u3 →
      w3.cell? ⟨w.heap.size, 0, none⟩ = some u0 ∧ w3.cell? ⟨w.heap.size, 1, none⟩ = some u1 ∧ w3.cell? ⟨w.heap.size, 2, none⟩ = some u2 ∧ w3.cell? ⟨w.heap.size, 3, none⟩ = some u3 ∧ Ext w w3 := by
  have B := (Blk.new w t #[v0, v1, v2, v3]).ext hx
  refine ⟨B.frozen 0, B.frozen 1, B.frozen 2, B.frozen 3, B.cell 0, B.cell 1, B.cell 2, B.cell 3, B.lt, fun u0 u1 u2 u3 w3 e => ?_⟩
  subst e
  have B3 := (((B.set_ 0 u0).set_ 1 u1).set_ 2 u2).set_ 3 u3
  exact ⟨B3.cell 0, B3.cell 1, B3.cell 2, B3.cell 3, ((((((Ext.refl w).alloc _).trans hx).setCell (Nat.le_refl _) _).setCell (Nat.le_refl _) _).setCell (Nat.le_refl _) _).setCell (Nat.le_refl _) _⟩

set_option maxRecDepth 8000 in
set_option maxHeartbeats 4000000 in
theorem value_read_fixed (s : ByteArray) (w : World) (k : Nat) (kz : Int) (hkz : kz = k) (hk : k < 4) (h : s.data.toList = tFixed (k + 3 : Nat)) : Calls Tryd.prog 38 #[.string s] w (RetR (some ⟨kz + 3, false, 0, ByteArray.empty⟩) w) := by
  have hf := fixed_at k hk h
  have HI := Lib.hid fun W a len cap h1 h2 (hr : IsRow W (vstr fixedT) a len) => strs_index s fixedT W a len cap h1 h2 hr
  rw [hf, ← hkz] at HI
  clear hf h
  have z0 : IntKind.u8.wrap 0 = 0 := by decide
  have z1 : IntKind.u8.wrap 1 = 1 := by decide
  have z2 : IntKind.u8.wrap 2 = 2 := by decide
  have z3 : IntKind.u8.wrap 3 = 3 := by decide
  have z4 : IntKind.u8.wrap 4 = 4 := by decide
  have z5 : IntKind.u8.wrap 5 = 5 := by decide
  have z6 : IntKind.u8.wrap 6 = 6 := by decide
  have hc : kz = 0 ∨ kz = 1 ∨ kz = 2 ∨ kz = 3 := by omega
  clear hkz hk
  rcases hc with rfl | rfl | rfl | rfl
  all_goals
    go_enter Tryd.func38, Tryd.ntmps38
    go_wp2_with (first | (go_at_call 50; refine (value_fixed _).mono ?_; rintro e w1 ⟨rfl, x1, hr⟩; rw [World.size_alloc] at hr) | (go_at_call 71; refine (HI.out _ _ _ _ (by omega) (by omega) hr).mono ?_; rintro e w2 ⟨rfl, x2⟩; obtain ⟨f0, f1, f2, f3, d0, d1, d2, d3, hsz, hst⟩ := slot4 (x1.trans x2)))
    obtain ⟨r0, r1, r2, r3, xx⟩ := hst _ _ _ _ _ rfl
    exact bodyPost_ret (v := .tuple #[ev _, .int .i64 0]) (by simp [results, Tryd.results38, go_sem, r0, r1, r2, r3]; rfl) rfl ⟨rfl, xx⟩

theorem read_none {s : ByteArray} (h : ∀ k : Nat, 3 ≤ k → k < 7 → tFixed (k : Int) ≠ s.data.toList) (h7 : (s.toList == [118, 97, 108, 117, 101, 32, 35]) = false) : readE s.data.toList = readW (cutL s.data.toList) := by
  refine readE_words h fun e => ?_
  rw [beq_eq_false_iff_ne] at h7
  apply h7
  rw [ByteArray.toList_eq, e]
  rfl
theorem read_sign {s : ByteArray} (h7 : (s.toList == [118, 97, 108, 117, 101, 32, 35]) = true) : readE s.data.toList = some ⟨1, false, 0, ByteArray.empty⟩ := by
  refine readE_sign ?_
  rw [beq_iff_eq, ByteArray.toList_eq] at h7
  rw [h7]
  rfl
/-- What is known before the last word's number is. -/
structure Split (s : ByteArray) (w : World) (m q : Nat) (last : List UInt8) : Prop where
  len : (cutL s.data.toList).length = m
  hq : (cutL s.data.toList)[q]? = some last
  hm : m = q + 1
  size : s.size ≤ 1000000
theorem word_size {l : List UInt8} {p : List UInt8} (h : p ∈ cutL l) : p.length ≤ l.length := by
  induction l generalizing p with
  | nil => simp [cutL] at h; simp [h]
  | cons c l ih =>
    have e : cutL (c :: l) = if c = 32 then [] :: cutL l else match cutL l with | [] => [[c]] | p :: ps => (c :: p) :: ps := rfl
    rw [e] at h
    by_cases hc : c = 32
    · rw [if_pos hc] at h
      rcases List.mem_cons.1 h with rfl | h
      · simp
      · have := ih h; simp; omega
    · rw [if_neg hc] at h
      cases hl : cutL l with
      | nil => exact absurd hl (cutL_ne l)
      | cons a l2 =>
        rw [hl] at h
        simp only at h
        rcases List.mem_cons.1 h with rfl | h
        · have := ih (p := a) (by rw [hl]; simp); simp; omega
        · have := ih (p := p) (by rw [hl]; simp [h]); simp; omega
theorem Split.of (s : ByteArray) (w : World) (hs : s.size ≤ 1000000) : ∃ m q last, Split s w m q last := by
  have hl := cutL_length s.data.toList
  refine ⟨_, s.data.toList.count 32, (cutL s.data.toList)[s.data.toList.count 32]'(by omega), rfl, List.getElem?_eq_getElem _, hl, hs⟩

set_option maxRecDepth 8000 in
set_option maxHeartbeats 4000000 in
theorem value_read_more (s : ByteArray) (w : World) (m q : Nat) (last : List UInt8) (hk : Knob w) (ht : Tab w) (he : Errs w) (h : ∀ k : Nat, 3 ≤ k → k < 7 → tFixed (k : Int) ≠ s.data.toList) (hS : Split s w m q last)
    (h2 : m ≠ 2) (h3 : m ≠ 3) : Calls Tryd.prog 38 #[.string s] w (RetR (readE s.data.toList) w) := by
  have hf := fixed_none h
  have HI := Lib.hid fun W a len cap h1 h2 (hr : IsRow W (vstr fixedT) a len) => strs_index s fixedT W a len cap h1 h2 hr
  rw [hf] at HI
  obtain ⟨s1, s2, s3, s4⟩ := hS
  have KC := Lib.hid fun W (x : Ext w W) => strings_cut s W s4 (hk.ext x)
  rw [s1] at KC
  have hlast : (bs last).size ≤ 1000000 := by
    have := word_size (List.mem_of_getElem? s2)
    rw [list_size'] at this
    rw [bs_size]
    omega
  have KN := Lib.hid fun W (x : Ext w W) => value_number (bs last) W hlast (ht.ext x) (he.ext x)
  have HQ : Hid ((vstr ((cutL s.data.toList).map bs))[q]? = some (.string (bs last))) := by
    show _ = _
    simp [vstr, s2]
  have HW : Hid (readW (cutL s.data.toList) = none) := by
    show _ = _
    revert s1
    cases cutL s.data.toList with
    | nil => intro _; rfl
    | cons a l => cases l with
      | nil => intro _; rfl
      | cons b l => cases l with
        | nil => intro e; simp at e; omega
        | cons c l => cases l with
          | nil => intro e; simp at e; omega
          | cons d l => intro _; rfl
  have hmm : m ≤ 1000001 := by
    rw [← s1, cutL_length]
    have := List.count_le_length (a := (32 : UInt8)) (l := s.data.toList)
    rw [list_size'] at this
    omega
  have d2 : ((m : Int) == 2) = false := beq_false_of_ne (by omega)
  have d3 : ((m : Int) == 3) = false := beq_false_of_ne (by omega)
  have hw : IntKind.i64.wrap ((m : Int) - 1) = (q : Int) := by rw [IntWalk.i64_in _ ⟨by omega, by omega⟩]; omega
  have hql : q < m := by omega
  have HR := Lib.hid (read_none h)
  have HR' := Lib.hid (read_sign (s := s))
  clear hf h s1 s2 s3 s4 h2 h3 hmm hlast
  generalize cutL s.data.toList = ps at *
  cases h7 : (s.toList == [118, 97, 108, 117, 101, 32, 35])
  all_goals
    have H7 := Lib.hid h7
    go_enter Tryd.func38, Tryd.ntmps38
    go_upto_region 6 with (first | (go_at_call 50; refine (value_fixed _).mono ?_; rintro e w1 ⟨rfl, x1, hr⟩; rw [World.size_alloc] at hr) | (go_at_call 71; refine (HI.out _ _ _ _ (by omega) (by omega) hr).mono ?_; rintro e w2 ⟨rfl, x2⟩) | (go_at_call 72; refine (KC.out _ (by (repeat (first | exact Ext.refl _ | assumption | refine Ext.alloc ?_ _ | refine Ext.drew ?_ | refine Ext.setCell ?_ (by first | (simp; done) | (simp; omega) | omega) _ | refine Ext.trans ?_ (by assumption))))).mono ?_; rintro e w3 ⟨rfl, hrow, x3⟩; have g3 := row_cell hrow q _ HQ.out) | (go_at_call 73; refine (KN.out _ (by (repeat (first | exact Ext.refl _ | assumption | refine Ext.alloc ?_ _ | refine Ext.drew ?_ | refine Ext.setCell ?_ (by first | (simp; done) | (simp; omega) | omega) _ | refine Ext.trans ?_ (by assumption))))).mono ?_; rintro e w4 ⟨n, b, rfl, hn, x4⟩))
    have HN := Lib.hid hn
    clear hn
    cases b
    all_goals
      obtain ⟨f0, f1, f2, f3, d0, d1, d2, d3, hsz, hst⟩ := slot4 (((x1.trans x2).trans x3).trans x4)
      go_wp2_with (go_at_call 21; refine (value_other _).mono ?_; rintro e w5 ⟨rfl, x5⟩; obtain ⟨f0, f1, f2, f3, d0, d1, d2, d3, hsz, hst⟩ := slot4 ((((x1.trans x2).trans x3).trans x4).trans x5))
      obtain ⟨r0, r1, r2, r3, xx⟩ := hst _ _ _ _ _ rfl
      first
        | exact bodyPost_ret (v := .tuple #[ev ⟨0, false, 0, ByteArray.empty⟩, .int .i64 2]) (by simp [results, Tryd.results38, go_sem, r0, r1, r2, r3]; rfl) rfl ⟨by rw [HR.out H7.out, HW.out]; rfl, xx⟩
        | exact bodyPost_ret (v := .tuple #[ev ⟨1, false, 0, ByteArray.empty⟩, .int .i64 0]) (by simp [results, Tryd.results38, go_sem, r0, r1, r2, r3]; rfl) rfl ⟨by rw [HR'.out H7.out]; rfl, xx⟩
end Go.Proofs.YtmomahgedheekaaDoor

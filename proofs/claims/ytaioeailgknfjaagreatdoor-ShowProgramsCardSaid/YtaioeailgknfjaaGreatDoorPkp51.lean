/- Part 51 of the proof: Ref05b2, Ref05n, Ref05o, Law06e; no condition of ours. -/
import Derived.Test.YtaioeailgknfjaaGreatDoorPkp15
import Derived.Test.YtaioeailgknfjaaGreatDoorPkp23
import Derived.Test.YtaioeailgknfjaaGreatDoorPkp25
import Derived.Test.YtaioeailgknfjaaGreatDoorPkp41
import Derived.Test.YtaioeailgknfjaaGreatDoorPkp44
import Derived.Test.YtaioeailgknfjaaGreatDoorPkp48
import Derived.Test.YtaioeailgknfjaaGreatDoorPkp50
set_option linter.unusedVariables false
set_option linter.unusedSimpArgs false
namespace Go.Proofs.YtaioeailgknfjaaGreatDoor
open Go.Lib (hid)
open Go Go.RowKit Go.Sort
def beginR (B : List UInt8) : Except (Int × Int) (List Tk) := if (lexR B).2.2 ≠ 0 then .error ((lexR B).2.1, (lexR B).2.2) else if 4001 < (lexR B).1.length then .error ((((lexR B).1[4000]?).map Tk.pos).getD 0, 3) else .ok (lexR B).1
def RetB (w : World) (r : Except (Int × Int) (List Tk)) (e : Ending) (w' : World) : Prop := Ext w w' ∧ match r with
  | .error (p, f) => e = .returned (.tuple #[.agg #[.slice none 0 0, .int .i64 0, .bool false], .int .i64 p, .int .i64 f])
  | .ok L => ∃ a n c, e = .returned (.tuple #[.agg #[.slice a n c, .int .i64 0, .bool false], .int .i64 0, .int .i64 0]) ∧ IsL w' L a n c
set_option maxRecDepth 60000 in
set_option maxHeartbeats 4000000 in
theorem ref5_begin (B : List UInt8) (w : World) (a : Option Addr) (len cap : Nat) (h1 : len ≤ cap) (h2 : cap ≤ 9223372036854775807) (hr : IsBytes w B a len) :
    Calls Tryz.prog 40 #[.slice a len cap] w (RetB w (beginR B)) := by
  have KL := hid fun W (h : Ext w W) => ref03_lex B W a len cap h1 h2 (hr.ext h)
  have HB := hid (show beginR B = if (lexR B).2.2 ≠ 0 then .error ((lexR B).2.1, (lexR B).2.2) else if 4001 < (lexR B).1.length then .error ((((lexR B).1[4000]?).map Tk.pos).getD 0, 3) else .ok (lexR B).1 from rfl)
  unfold RetLex at KL
  generalize beginR B = R at *
  generalize lexR B = LR at *
  obtain ⟨L, p, f⟩ := LR
  simp only at KL HB
  clear hr
  by_cases hf : f = 0
  case neg =>
    have hfb : (f != 0) = true := by simpa using hf
    have HR : Hid (R = .error (p, f)) := hid (by rw [HB.out, if_pos hf])
    clear hf HB
    go_enter Tryz.func40, Tryz.ntmps40
    go_wp2_with (go_at_call 12; refine (KL.out _ (by (exact eX))).mono ?_; rintro e w1 ⟨ra, rn, rc, rfl, hn1, hn2, hT, x1⟩; have hZ := blk_top x1; obtain ⟨p0, p1, p2, f0, f1, f2, l0⟩ := SBlk.open_ (show SBlk _ _ none 0 0 0 false from hZ))
    have y1 : Ext w w1 := by (exact eX)
    have hZ9 := Blk.lay3 (blk_top x1) (u0 := .slice none 0 0) (u1 := .int .i64 0) (u2 := .bool false)
    obtain ⟨r0, r1, r2, -⟩ := SBlk.open_ (show SBlk _ _ none 0 0 0 false from hZ9)
    have Y9 : Ext w (((w1.setCell ⟨w.heap.size, 0, none⟩ (.slice none 0 0)).setCell ⟨w.heap.size, 1, none⟩ (.int .i64 0)).setCell ⟨w.heap.size, 2, none⟩ (.bool false)) := ((y1.setCell (p := ⟨w.heap.size, 0, none⟩) (Nat.le_refl _) _).setCell (p := ⟨w.heap.size, 1, none⟩) (Nat.le_refl _) _).setCell (p := ⟨w.heap.size, 2, none⟩) (Nat.le_refl _) _
    rw [HR.out]
    exact bodyPost_ret (v := .tuple #[.agg #[.slice none 0 0, .int .i64 0, .bool false], .int .i64 p, .int .i64 f]) (by simp [results, Tryz.results40, go_sem, r0, r1, r2]) rfl ⟨Y9, rfl⟩
  case pos =>
    subst hf
    by_cases hl : 4001 < L.length
    · have HR : Hid (R = .error (((L[4000]?).map Tk.pos).getD 0, 3)) := hid (by rw [HB.out, if_neg (by simp), if_pos hl])
      clear HB
      go_enter Tryz.func40, Tryz.ntmps40
      go_upto_region 4 with (go_at_call 12; refine (KL.out _ (by (exact eX))).mono ?_; rintro e w1 ⟨ra, rn, rc, rfl, hn1, hn2, hT, x1⟩; have hZ := blk_top x1; obtain ⟨p0, p1, p2, f0, f1, f2, l0⟩ := SBlk.open_ (show SBlk _ _ none 0 0 0 false from hZ))
      have hln := hT.length
      have hz : (4001 : Int) < (rn : Int) := by omega
      have hz2 : (4000 : Int) < (rn : Int) := by omega
      obtain ⟨t, b, o, g, -, rfl, q0, q1, q2⟩ := hT.at3 (i := 4000) (by omega)
      rw [g] at HR
      have hbl := World.block_lt_of_cell? _ _ q2
      have hbA : b ≠ w.heap.size := by
        rintro rfl
        have := (blk_top x1).cell (o + 4000 * 3)
        rw [q0] at this
        simp at this
      have y1 : Ext w w1 := by (exact eX)
      have hZ9 := (Blk.lay3 (blk_top x1) (u0 := .slice none 0 0) (u1 := .int .i64 0) (u2 := .bool false))
      have nq := fun W (h : ExtX (· = w.heap.size) w1 W) => h.cell (show ¬ (⟨b, o + 4000 * 3 + 2, none⟩ : Addr).block = w.heap.size from hbA) q2
      have Y19 : ExtX (· = w.heap.size) w1 (((w1.setCell ⟨w.heap.size, 0, none⟩ (.slice none 0 0)).setCell ⟨w.heap.size, 1, none⟩ (.int .i64 0)).setCell ⟨w.heap.size, 2, none⟩ (.bool false)) := (((ExtX.refl (A := (· = w.heap.size)) w1).setCell (p := ⟨w.heap.size, 0, none⟩) (.inl rfl) _).setCell (p := ⟨w.heap.size, 1, none⟩) (.inl rfl) _).setCell (p := ⟨w.heap.size, 2, none⟩) (.inl rfl) _
      have HY9 := hid (ExtX.ext y1 Y19 (fun q (e : q = w.heap.size) => by omega))
      have HZ9 := hid hZ9
      clear Y19 hT x1 y1 hln g hl hZ9
      go_upto_region 5 with fail
      refine wp_region_held_drew (S := fun w' => ExtX (· = w.heap.size) w1 w') (by kernel_rfl) (by (try dsimp only); (exact xX)) (fun hHeld => ?_)
      refine tL 0 ?_;try simp only [Act.put,pA,pB,pC]
      refine tL 1 ?_;try simp only [Act.put,pA,pB,pC]
      refine tL 2 ?_;try simp only [Act.put,pA,pB,pC]
      refine tL 3 ?_;try simp only [Act.put,pA,pB,pC]
      refine tL 4 ?_;try simp only [Act.put,pA,pB,pC]
      refine dK 5 fun K hK => ?_; go_simp; refine hK.out _ _ (by (try dsimp only); (exact xX)) (fun hHeld => ?_); clear hK K; try simp only [Act.put,pA,pB,pC]
      refine tL 6 ?_;try simp only [Act.put,pA,pB,pC]
      refine tL 7 ?_;try simp only [Act.put,pA,pB,pC]
      refine wpAnyH_done (by kernel_rfl) ?_ _
      all_goals
        repeat (first | go_values | go_skip | go_guarded | go_step | go_upon)
        obtain ⟨r0, r1, r2, -⟩ := SBlk.open_ (show SBlk _ _ none 0 0 0 false from Blk.drew HZ9.out)
        rw [HR.out]
        exact bodyPost_ret (v := .tuple #[.agg #[.slice none 0 0, .int .i64 0, .bool false], .int .i64 t.pos, .int .i64 3]) (by simp [results, Tryz.results40, go_sem, r0, r1, r2]) rfl ⟨HY9.out.drew, rfl⟩
    · have HR : Hid (R = .ok L) := hid (by rw [HB.out, if_neg (by simp), if_neg hl])
      clear HB
      go_enter Tryz.func40, Tryz.ntmps40
      go_upto_region 4 with (go_at_call 12; refine (KL.out _ (by (exact eX))).mono ?_; rintro e w1 ⟨ra, rn, rc, rfl, hn1, hn2, hT, x1⟩; have hZ := blk_top x1; obtain ⟨p0, p1, p2, f0, f1, f2, l0⟩ := SBlk.open_ (show SBlk _ _ none 0 0 0 false from hZ))
      have hln := hT.length
      have hz : ¬ (4001 : Int) < (rn : Int) := by omega
      have y1 : Ext w w1 := by (exact eX)
      have hZ9 := Blk.lay3 (blk_top x1) (u0 := .slice ra rn rc) (u1 := .int .i64 0) (u2 := .bool false)
      obtain ⟨r0, r1, r2, -⟩ := SBlk.open_ (show SBlk _ _ ra rn rc 0 false from hZ9)
      have Y19 : ExtX (· = w.heap.size) w1 (((w1.setCell ⟨w.heap.size, 0, none⟩ (.slice ra rn rc)).setCell ⟨w.heap.size, 1, none⟩ (.int .i64 0)).setCell ⟨w.heap.size, 2, none⟩ (.bool false)) := (((ExtX.refl (A := (· = w.heap.size)) w1).setCell (p := ⟨w.heap.size, 0, none⟩) (.inl rfl) _).setCell (p := ⟨w.heap.size, 1, none⟩) (.inl rfl) _).setCell (p := ⟨w.heap.size, 2, none⟩) (.inl rfl) _
      have hnb : ∀ q, ra = some q → ¬ q.block = w.heap.size ∨ rn = 0 := fun q e => by
        by_cases h0 : rn = 0
        · exact .inr h0
        · left
          intro hb
          obtain ⟨t, bb, oo, -, -, e2, c0, -, -⟩ := hT.at3 (i := 0) (by omega)
          rw [e] at e2
          cases e2
          have hb : bb = w.heap.size := hb
          subst hb
          have hz3 := (blk_top x1).cell (oo + 0 * 3)
          rw [c0] at hz3
          match oo, hz3 with
          | 0, hz3 => simp at hz3
          | 1, hz3 => simp at hz3
          | 2, hz3 => simp at hz3
          | k + 3, hz3 => simp at hz3
      have HT9 : Hid (IsL (((w1.setCell ⟨w.heap.size, 0, none⟩ (.slice ra rn rc)).setCell ⟨w.heap.size, 1, none⟩ (.int .i64 0)).setCell ⟨w.heap.size, 2, none⟩ (.bool false)) L ra rn rc) := hid (by
        refine ⟨⟨⟨hT.1.1, hT.1.2.1, fun i cs hi => ?_⟩, hT.2⟩, hn1, hn2⟩
        obtain ⟨b', o', e', q⟩ := hT.1.2.2 i cs hi
        refine ⟨b', o', e', fun j v hj => Y19.cell (fun hb => ?_) (q j v hj)⟩
        rcases hnb _ e' with h | h
        · exact h hb
        · have hl2 := hT.1.1
          have : i < (L.map tkcells).length := lt_of_some_ hi
          omega)
      have Y9 := ExtX.ext y1 Y19 (fun q (e : q = w.heap.size) => by omega)
      clear Y19 hT x1 y1 hnb hln
      go_wp2_with fail
      rw [HR.out]
      exact bodyPost_ret (v := .tuple #[.agg #[.slice ra rn rc, .int .i64 0, .bool false], .int .i64 0, .int .i64 0]) (by simp [results, Tryz.results40, go_sem, r0, r1, r2]) rfl ⟨Y9, ra, rn, rc, rfl, HT9.out⟩
def endR {α : Type} : Res α → Except (Int × Int) α
  | .error l => .error (posT l, 2)
  | .ok (a, l) => if kindT l = 6 then .ok a else .error (posT l, 2)
def beginE {α : Type} (res : List Tk → Res α) : Except (Int × Int) (List Tk) → Except (Int × Int) α
  | .error q => .error q
  | .ok L => endR (res L)
theorem beginR_run {α : Type} (res : List Tk → Res α) (B : List UInt8) : runR res B = beginE res (beginR B) := by
  unfold runR beginR
  by_cases h1 : (lexR B).2.2 ≠ 0
  · rw [if_pos h1, if_pos h1]; rfl
  · rw [if_neg h1, if_neg h1]
    by_cases h2 : 4001 < (lexR B).1.length
    · rw [if_pos h2, if_pos h2]; rfl
    · rw [if_neg h2, if_neg h2]
      show _ = endR (res (lexR B).1)
      cases res (lexR B).1 with
      | error l => rfl
      | ok p => rfl
theorem beginR_ok {B : List UInt8} {L : List Tk} (h : beginR B = .ok L) : Ended L := by
  unfold beginR at h
  split at h
  · cases h
  · rename_i h0
    split at h
    · cases h
    · cases h
      exact lexR_ended (by simpa using h0)
theorem beginR_len {B : List UInt8} {L : List Tk} (h : beginR B = .ok L) : L.length ≤ 4001 := by
  unfold beginR at h
  split at h
  · cases h
  · split at h
    · cases h
    · rename_i h1
      cases h
      omega
theorem beginR_err {B : List UInt8} {q : Int × Int} (h : beginR B = .error q) : q.2 ≠ 0 := by
  unfold beginR at h
  split at h
  · rename_i h0
    cases h
    exact h0
  · split at h
    · cases h; simp
    · cases h
theorem StS.tok {α : Type} {w : World} {L : List Tk} {a : Option Addr} {n c i : Nat} {bad : Bool} {r : Res α} (hL : IsL w L a n c) (h : StS L n i bad r) : ∃ t l' b o, a = some ⟨b, o, none⟩ ∧ (i : Int) < n ∧ w.cell? ⟨b, o + i * 3, none⟩ = some (.int .u8 t.k) ∧ w.cell? ⟨b, o + i * 3 + 1, none⟩ = some (.string t.text) ∧ w.cell? ⟨b, o + i * 3 + 2, none⟩ = some (.int .i64 t.pos) ∧ (match r with | .error l => bad = true ∧ l = t :: l' | .ok (_, l) => bad = false ∧ l = t :: l') := by
  cases r with
  | error l =>
    obtain ⟨hb, hA⟩ := h
    obtain ⟨t, l', b, o, e, ea, -, q0, q1, q2, -⟩ := hA.tok hL
    have := hA.2
    exact ⟨t, l', b, o, ea, by omega, q0, q1, q2, hb, e⟩
  | ok p =>
    obtain ⟨u, l⟩ := p
    obtain ⟨hb, hA, -⟩ := h
    obtain ⟨t, l', b, o, e, ea, -, q0, q1, q2, -⟩ := hA.tok hL
    have := hA.2
    exact ⟨t, l', b, o, ea, by omega, q0, q1, q2, hb, e⟩
structure ProgQ (L : List Tk) (a : Option Addr) (n c : Nat) (w : World) (g5 g8 base : Nat) (R : Res (List Tk × Tm)) (i : Nat) (bad : Bool) (ea : Option Addr) (m ec : Nat) (xs : List Value) (q : Res (List Tk)) (W : World) : Prop where
  s : SBlk W g5 a n c i bad
  o : OutE g8 W ea m ec
  z : OutPZ w.heap.size W
  row : W.ownsRow base 37 3 (.slice ea m ec) m xs
  st : StS L n i bad q
  ok : ∀ acc l, q = .ok (acc, l) → R = progG acc l ∧ m = acc.length ∧ xs = (acc.map tkcells).flatten ∧ ∀ t, t ∈ acc → t.Fits
  er : ∀ l, q = .error l → R = .error l
  mi : m ≤ i
  x : Ext w W
  lt5 : w.heap.size < g5
  lt8 : g5 < g8
  ltb : g8 < base
def leftQ {α : Type} : Res α → Nat
  | .error _ => 0
  | .ok (_, l) => l.length + 1
theorem ProgQ.ext {L : List Tk} {a : Option Addr} {n c : Nat} {w : World} {g5 g8 base : Nat} {R : Res (List Tk × Tm)} {i : Nat} {bad : Bool} {ea : Option Addr} {m ec : Nat} {xs : List Value} {q : Res (List Tk)} {W W' : World} (h : ProgQ L a n c w g5 g8 base R i bad ea m ec xs q W) (hx : Ext W W') : ProgQ L a n c w g5 g8 base R i bad ea m ec xs q W' :=
  ⟨SBlk.ext h.s hx, Blk.ext h.o hx, Blk.ext h.z hx, owns_ext hx h.row, h.st, h.ok, h.er, h.mi, h.x.trans hx, h.lt5, h.lt8, h.ltb⟩
theorem prog_end {R : Res (List Tk × Tm)} {q : Res (List Tk)} {m : Nat} {xs : List Value} (hok : ∀ acc l, q = .ok (acc, l) → R = progG acc l ∧ m = acc.length ∧ xs = (acc.map tkcells).flatten ∧ ∀ t, t ∈ acc → t.Fits) (her : ∀ l, q = .error l → R = .error l) (hne : ∀ acc l, q = .ok (acc, l) → isT [w_exn] l = false ∧ Ended l) :
    ∃ (r : Res Tm) (f : Nat), (∀ u l, q = .ok (u, l) → parseF f .expr l = some r) ∧ (∀ l, q = .error l → r = .error l) ∧ (∀ l, r = .error l → R = .error l) ∧ ∀ t l', r = .ok (t, l') → ∃ acc, m = acc.length ∧ xs = (acc.map tkcells).flatten ∧ (∀ t, t ∈ acc → t.Fits) ∧ R = .ok ((acc, t), l') := by
  cases q with
  | error l => exact ⟨.error l, 0, fun u l' e => (by cases e), fun l' e => (by cases e; rfl), fun l' e => (by cases e; exact her l rfl), fun t l' e => (by cases e)⟩
  | ok p =>
    obtain ⟨acc, l⟩ := p
    obtain ⟨h1, h2⟩ := hne acc l rfl
    obtain ⟨f, hf, -⟩ := parseL_some (nt := .expr) h2
    obtain ⟨e1, e2, e3, e4⟩ := hok acc l rfl
    rw [progG_body h1] at e1
    unfold bodyG at e1
    refine ⟨parseL .expr l, f, fun u l' e => (by cases e; exact hf), fun l' e => (by cases e), fun l' e => ?_, fun t l' e => ?_⟩
    · rw [e] at e1; exact e1
    · rw [e] at e1; exact ⟨acc, e2, e3, e4, e1⟩
def lenS {α : Type} : Res α → Nat
  | .error l => l.length
  | .ok (_, l) => l.length
theorem prog_step {R : Res (List Tk × Tm)} {acc : List Tk} {t u : Tk} {l2 : List Tk} (hi : isT [w_exn] (t :: u :: l2) = true) (hE : Ended (t :: u :: l2)) (hR : R = progG acc (t :: u :: l2)) :
    ∃ q' : Res (List Tk), (∀ l, thenR (thenR (.ok ((), u :: l2) : Res Unit) (getK 3)) (getW s_semi) = .error l → q' = .error l) ∧ (∀ x l, thenR (thenR (.ok ((), u :: l2) : Res Unit) (getK 3)) (getW s_semi) = .ok (x, l) → ∃ v, q' = .ok (v, l)) ∧ (∀ acc' l3, q' = .ok (acc', l3) → R = progG acc' l3 ∧ acc' = acc ++ [u]) ∧ (∀ l, q' = .error l → R = .error l) ∧ leftQ q' < leftQ (.ok (acc, t :: u :: l2) : Res (List Tk)) ∧ lenS q' ≤ l2.length + 1 := by
  show ∃ q' : Res (List Tk), (∀ l, thenR (getK 3 (u :: l2)) (getW s_semi) = .error l → q' = .error l) ∧ (∀ x l, thenR (getK 3 (u :: l2)) (getW s_semi) = .ok (x, l) → ∃ v, q' = .ok (v, l)) ∧ _
  by_cases hu : u.k = 3
  · rw [show getK 3 (u :: l2) = .ok (u.text, l2) by simp [getK, hu]]
    show ∃ q' : Res (List Tk), (∀ l, getW s_semi l2 = .error l → q' = .error l) ∧ (∀ x l, getW s_semi l2 = .ok (x, l) → ∃ v, q' = .ok (v, l)) ∧ _
    have h1 := (hE.tail_ne (isT_kind hi)).2
    cases l2 with
    | nil => exact absurd h1 (by simp [Ended, hu])
    | cons v l3 =>
      cases hv : isT [s_semi] (v :: l3) with
      | true =>
        rw [show getW s_semi (v :: l3) = .ok ((), l3) by simp [getW, hv]]
        exact ⟨.ok (acc ++ [u], l3), fun l e => (by cases e), fun x l e => (by cases e; exact ⟨_, rfl⟩), fun acc' l e => (by cases e; exact ⟨hR.trans (progG_more hi hu hv), rfl⟩), fun l e => (by cases e), by simp only [leftQ, List.length_cons]; omega, by simp only [lenS, List.length_cons]; omega⟩
      | false =>
        rw [show getW s_semi (v :: l3) = .error (v :: l3) by simp [getW, hv]]
        exact ⟨.error (v :: l3), fun l e => (by cases e; rfl), fun x l e => (by cases e), fun acc' l e => (by cases e), fun l e => (by cases e; exact hR.trans (progG_semi hi hu hv)), by simp only [leftQ]; omega, by simp only [lenS, List.length_cons]; omega⟩
  · rw [show getK 3 (u :: l2) = .error (u :: l2) by simp [getK, hu]]
    exact ⟨.error (u :: l2), fun l e => (by cases e; rfl), fun x l e => (by cases e), fun acc' l e => (by cases e), fun l e => (by cases e; exact hR.trans (progG_kind hi hE hu)), by simp only [leftQ]; omega, by simp only [lenS, List.length_cons]; omega⟩
theorem owns_slice_any {W : World} {base m size : Nat} {e : TypeId} {v : Value} {xs : List Value} (ho : W.ownsRow base e size v m xs) : ∃ ak ck, v = .slice ak m ck := by
  rcases ho.2 with ⟨rfl, rfl⟩ | ⟨g, cap, cur, rfl, -⟩
  · exact ⟨none, 0, rfl⟩
  · exact ⟨_, cap, rfl⟩
theorem infoTk5 : (Tryz.prog.info? 37).map (fun i => (i.zero, i.size, i.bytes)) = some (some (.agg #[.int .u8 0, .string ⟨#[]⟩, .int .i64 0]), 3, 32) := by kernel_rfl
set_option maxRecDepth 60000 in
set_option maxHeartbeats 8000000 in
theorem ref5_prog (B : List UInt8) (w : World) (a : Option Addr) (len cap : Nat) (h1 : len ≤ cap) (h2 : cap ≤ 9223372036854775807) (hr : IsBytes w B a len) :
    Calls Tryz.prog 16 #[.slice a len cap] w (RetProg w (progR B)) := by
  have KB := hid fun W (h : Ext w W) => ref5_begin B W a len cap h1 h2 (hr.ext h)
  have HR := hid (beginR_run progL B)
  have HEN := hid fun L (h : beginR B = .ok L) => And.intro (beginR_ok h) (beginR_len h)
  have HER := hid fun q (h : beginR B = .error q) => beginR_err h
  have HR : Hid (progR B = _) := HR
  unfold RetB at KB
  generalize beginR B = bR at *
  generalize progR B = tR at *
  clear hr
  cases bR with
  | error q =>
    obtain ⟨p, f⟩ := q
    have hf := HER.out _ rfl
    have hfb : (f != 0) = true := by simpa using hf
    have HR2 : Hid (tR = .error (p, f)) := hid HR.out
    clear hf HR HEN HER
    go_enter Tryz.func16, Tryz.ntmps16
    go_wp2_with (go_at_call 40; refine (KB.out _ (by (exact eX))).mono ?_; rintro e w1 ⟨x1, rfl⟩; have hZ1 := blk_top x1; obtain ⟨z0, z1, z2, z3, z4, z5, z6, z7, z8⟩ := hZ1.nine; obtain ⟨g0, g1, g2, g3, g4, g5, g6, g7, g8⟩ := hZ1.frozen9; have lz := hZ1.lt)
    have Y1 : Ext w w1 := by (exact eX)
    have Z9 := (Blk.lay09 hZ1 (u0 := .slice none 0 0) (u1 := .int .u8 0) (u2 := .int .u8 0) (u3 := .int .i64 0) (u4 := .int .i64 0) (u5 := .string ⟨#[]⟩) (u6 := .string ⟨#[]⟩) (u7 := .string ⟨#[]⟩) (u8 := .slice none 0 0)).alloc (.cells #[.slice none 0 0, .int .i64 0, .bool false] 71)
    obtain ⟨r2, r3, r4, r5, r6, r7, r8, r9, ra⟩ := Z9.nine
    have Y9 := (Ext.lay09 Y1 (g := w.heap.size) (u0 := .slice none 0 0) (u1 := .int .u8 0) (u2 := .int .u8 0) (u3 := .int .i64 0) (u4 := .int .i64 0) (u5 := .string ⟨#[]⟩) (u6 := .string ⟨#[]⟩) (u7 := .string ⟨#[]⟩) (u8 := .slice none 0 0) (Nat.le_refl _)).alloc (.cells #[.slice none 0 0, .int .i64 0, .bool false] 71)
    rw [HR2.out]
    unfold Go.Proofs.YtaioeailgknfjaaGreatDoor.lay9 at Y9 r2 r3 r4 r5 r6 r7 r8 r9 ra
    exact bodyPost_ret (v := .tuple #[.agg #[.slice none 0 0, .int .u8 0, .int .u8 0, .int .i64 0, .int .i64 0, .string ⟨#[]⟩, .string ⟨#[]⟩, .string ⟨#[]⟩, .slice none 0 0], .int .i64 p, .int .i64 f]) (by simp [results, Tryz.results16, go_sem, r2, r3, r4, r5, r6, r7, r8, r9, ra]) rfl ⟨Y9, rfl⟩
  | ok L =>
    obtain ⟨hE, hLen⟩ := HEN.out L rfl
    have HE := hid hE
    have HR2 : Hid (tR = endR (progL L)) := hid HR.out
    have HG := hid (show progL L = progG [] L from rfl)
    generalize progL L = R at *
    obtain ⟨i0, hi, hz0, hz1', hz2'⟩ := info_parts infoTk5
    have HIN := hid (And.intro hi (And.intro hz0 (And.intro hz1' hz2')))
    clear HR HEN HER hE hi hz0 hz1' hz2'
    go_enter Tryz.func16, Tryz.ntmps16
    go_upto_region 4 with (go_at_call 40; refine (KB.out _ (by (exact eX))).mono ?_; rintro e w1 ⟨x1, a', n', c', rfl, hL1⟩; have hZ1 := blk_top x1; have lz := hZ1.lt)
    have HZ1 := hid hZ1
    have HY1 := hid (show Ext w w1 by (exact eX))
    have HL1 := hid hL1
    clear hZ1 x1 hL1 KB
    go_upto_region 5 with fail
    have hZs := HZ1.out.lt
    have PQ0 : ProgQ L a' n' c' w w1.heap.size (w1.heap.size + 1) (w1.heap.size + 1 + 1) R 0 false none 0 0 [] (.ok ([], L)) ((w1.alloc (.cells #[.slice a' n' c', .int .i64 0, .bool false] 71)).alloc (.cells #[.slice none 0 0, .int .u8 0, .int .u8 0, .int .i64 0, .int .i64 0, .string ⟨#[]⟩, .string ⟨#[]⟩, .string ⟨#[]⟩, .slice none 0 0] 41)) := {
      s := (Blk.new w1 _ _).alloc _
      o := by have h := Blk.new (w1.alloc (.cells #[.slice a' n' c', .int .i64 0, .bool false] 71)) 41 #[.slice none 0 0, .int .u8 0, .int .u8 0, .int .i64 0, .int .i64 0, .string ⟨#[]⟩, .string ⟨#[]⟩, .string ⟨#[]⟩, .slice none 0 0]; rw [World.size_alloc] at h; exact h
      z := (HZ1.out.alloc _).alloc _
      row := World.ownsRow_nil _ _ _ _
      st := ⟨rfl, ⟨rfl, by have := HL1.out.toks.length; have hE := HE.out; cases L with | nil => exact hE.elim | cons t l => simp at this; omega⟩, HE.out⟩
      ok := fun acc l e => by cases e; exact ⟨HG.out, rfl, rfl, by simp⟩
      er := fun l e => by cases e
      mi := Nat.le_refl _
      x := by
        have hy := HY1.out
        (exact eX)
      lt5 := hZs
      lt8 := Nat.lt_succ_self _
      ltb := Nat.lt_succ_self _ }
    have HPQ0 := hid PQ0
    have HW1 := hid (show Ext w1 ((w1.alloc (.cells #[.slice a' n' c', .int .i64 0, .bool false] 71)).alloc (.cells #[.slice none 0 0, .int .u8 0, .int .u8 0, .int .i64 0, .int .i64 0, .string ⟨#[]⟩, .string ⟨#[]⟩, .string ⟨#[]⟩, .slice none 0 0] 41)) by (exact eX))
    clear PQ0 HG
    obtain ⟨g5, hg5⟩ : ∃ g, g = w1.heap.size := ⟨_, rfl⟩
    obtain ⟨g8, hg8⟩ : ∃ g, g = w1.heap.size + 1 := ⟨_, rfl⟩
    go_loopg [] (leftQ (.ok ([], L) : Res (List Tk))) (fun g wr => ∃ (i : Nat) (bad : Bool) (ea : Option Addr) (m ec : Nat) (xs : List Value) (q : Res (List Tk)), g = leftQ q ∧ ProgQ L a' n' c' w w1.heap.size (w1.heap.size + 1) (w1.heap.size + 1 + 1) R i bad ea m ec xs q wr ∧ Ext w1 wr)
    case atStart => exact ⟨0, false, none, 0, 0, [], _, rfl, HPQ0.out, HW1.out⟩
    case round =>
      obtain ⟨i, bad, ea, m, ec, xs, q, rfl, hPQ, hw1⟩ := hrel
      have HPQ := hid hPQ
      have HW1X := hid hw1
      clear HPQ0 HW1
      have gen5 : w1.heap.size + 1 + 1 = g8 + 1 := by omega
      rw [gen5, ← hg8, ← hg5] at hPQ HPQ
      rw [← hg8, ← hg5]
      have HE5 := hid hg5
      have HE8 := hid hg8
      clear hg5 hg8 gen5 hPQ hw1
      have hl5 := HPQ.out.lt5
      have hl8 := HPQ.out.lt8
      obtain ⟨p0, p1, p2, f0, f1, f2, l0⟩ := SBlk.open_ HPQ.out.s
      by_cases hex : ∃ acc l, q = .ok (acc, l) ∧ isT [w_exn] l = true
      case neg =>
        cases bad with
        | true =>
          have HNE : Hid (∀ acc l, q = .ok (acc, l) → isT [w_exn] l = false ∧ Ended l) := hid fun acc l e => by
            have h := HPQ.out.st
            rw [e] at h
            exact absurd h.1 (by simp)
          clear hex
          obtain ⟨WX, hWX⟩ : ∃ W, W = wr := ⟨_, rfl⟩
          obtain ⟨bad, hbd⟩ : ∃ b, b = true := ⟨_, rfl⟩
          go_upto_region 11 with fail
          rw [← hWX] at HPQ HW1X ⊢
          rw [← hbd] at HPQ
          clear hWX hbd p0 p1 p2 f0 f1 f2 l0 hl5 hl8
          obtain ⟨r, f, hr1, hr2, hr3, hr4⟩ := prog_end HPQ.out.ok HPQ.out.er HNE.out
          have HR3 := hid hr3
          have HR4 := hid hr4
          have KE := hid (ref5_exprS (ref5_knot f).1 L a' n' c' i bad q r WX (HL1.out.ext (HW1X.out)) HPQ.out.st hr1 hr2)
          clear hr1 hr2 hr3 hr4 HNE
          obtain ⟨p0, p1, p2, f0, f1, f2, l0⟩ := SBlk.open_ HPQ.out.s
          have ho8 : Blk WX g8 41 _ := HPQ.out.o
          have hl5 := HPQ.out.lt5
          have hl8 := HPQ.out.lt8
          have hlb := HPQ.out.ltb
          go_upto_region 12 with (go_at_call 44; refine (KE.out).mono ?_; rintro e w2 ⟨x2, i2, bad2, y, ak, nk, ck, rfl, hs2, hT2⟩; obtain ⟨m0, m1, m2, k0, k1, k2, ll0⟩ := SBlk.open_ (SBlk.ext HPQ.out.s x2); obtain ⟨o0, o1, o2, o3, o4, o5, o6, o7, o8⟩ := (ho8.ext x2).nine; obtain ⟨j0, j1, j2, j3, j4, j5, j6, j7, j8⟩ := (ho8.ext x2).frozen9; have lo8 := (ho8.ext x2).lt)
          obtain ⟨t, l', b, o, rfl, hi2, q0, q1, q2, hst⟩ := StS.tok (HL1.out.ext (HW1X.out.trans x2)) hs2
          have hb1 : b < w1.heap.size := by
            have h := HL1.out.toks.at3 (i := 0) (by omega)
            obtain ⟨_, b', o', _, _, e, q, _, _⟩ := h
            cases e
            exact World.block_lt_of_cell? _ _ q
          have X5 : ExtX (fun q => q = g5 ∨ q = g8) w2 (lay9 (w3s w2 g5 (some ⟨b, o, none⟩) n' c' i2 bad2) g8 (.int .u8 y.k) (.int .u8 y.op) (.int .i64 y.pos) (.int .i64 y.n) (.string y.name) (.string y.arg) (.string y.exn) (.slice ak nk ck)) := (w3s_x.mono fun _ e => .inl e).trans ((ExtX.refl (A := (· = g8)) _).lay9 (.inl rfl) |>.mono fun _ e => .inr e)
          have S5 : SBlk (lay9 (w3s w2 g5 (some ⟨b, o, none⟩) n' c' i2 bad2) g8 (.int .u8 y.k) (.int .u8 y.op) (.int .i64 y.pos) (.int .i64 y.n) (.string y.name) (.string y.arg) (.string y.exn) (.slice ak nk ck)) g5 (some ⟨b, o, none⟩) n' c' i2 bad2 := Blk.extx (w3s_blk (SBlk.ext HPQ.out.s x2)) ((ExtX.refl (A := (· = g8)) _).lay9 (.inl rfl)) (by show ¬ g5 = g8; omega)
          have O5 := (Blk.extx (ho8.ext x2) (w3s_x (s := g5) (a := some ⟨b, o, none⟩) (n := n') (c := c') (i := i2) (bad := bad2)) (show ¬ g8 = g5 by omega)).lay9 (u1 := .int .u8 y.k) (u2 := .int .u8 y.op) (u3 := .int .i64 y.pos) (u4 := .int .i64 y.n) (u5 := .string y.name) (u6 := .string y.arg) (u7 := .string y.exn) (u8 := .slice ak nk ck)
          have he5 := HE5.out
          have he8 := HE8.out
          have c0 := X5.cell (p := ⟨b, o + i2 * 3, none⟩) (show ¬ (b = g5 ∨ b = g8) by omega) q0
          have c1 := X5.cell (p := ⟨b, o + i2 * 3 + 1, none⟩) (show ¬ (b = g5 ∨ b = g8) by omega) q1
          have c2 := X5.cell (p := ⟨b, o + i2 * 3 + 2, none⟩) (show ¬ (b = g5 ∨ b = g8) by omega) q2
          have hZX : Blk WX w.heap.size 41 _ := HPQ.out.z
          have Z5 := Blk.extx (hZX.ext x2) X5 (show ¬ (w.heap.size = g5 ∨ w.heap.size = g8) by omega)
          have Y5 := ExtX.ext (HPQ.out.x.trans x2) X5 (fun q e => by rcases e with e | e <;> omega)
          have R5 := owns_keep X5 (fun k e => by rcases e with e | e <;> omega) (owns_ext x2 HPQ.out.row)
          have hsX := Blk.lt HPQ.out.o
          have hwX := Below.size x2
          have K5 : Hid (∀ t l, r = .ok (t, l) → t.head = y ∧ y.Fits ∧ nk ≤ ck ∧ ck ≤ 9223372036854775807 ∧ IsTmsA (fun q => q = w.heap.size) (lay9 (w3s w2 g5 (some ⟨b, o, none⟩) n' c' i2 bad2) g8 (.int .u8 y.k) (.int .u8 y.op) (.int .i64 y.pos) (.int .i64 y.n) (.string y.name) (.string y.arg) (.string y.exn) (.slice ak nk ck)) t.kids ak nk) := hid fun t l e => by
            obtain ⟨e1, e2, e3, e4, e5⟩ := hT2 t l e
            exact ⟨e1, e2, e3, e4, (e5.extx X5 (fun q e => by show q < _; rcases e with e | e <;> omega)).move (fun q _ (e : q = w.heap.size) => by show q < _; omega) (fun _ _ _ hu => hu)⟩
          unfold Go.Proofs.YtaioeailgknfjaaGreatDoor.lay9 w3s at S5 O5 c0 c1 c2 Z5 Y5 R5 K5
          clear he5 he8 m0 m1 m2 k0 k1 k2 ll0 o0 o1 o2 o3 o4 o5 o6 o7 o8 j0 j1 j2 j3 j4 j5 j6 j7 j8 lo8 x2 p0 p1 p2 f0 f1 f2 l0 q0 q1 q2 X5 hT2 hs2 KE ho8 hZX HPQ
          generalize ((((((((((w2.setCell ⟨g5, 0, none⟩ (.slice (some ⟨b, o, none⟩) n' c')).setCell ⟨g5, 1, none⟩ (.int .i64 (i2 : Nat))).setCell ⟨g5, 2, none⟩ (.bool bad2)).setCell ⟨g8, 1, none⟩ (.int .u8 y.k)).setCell ⟨g8, 2, none⟩ (.int .u8 y.op)).setCell ⟨g8, 3, none⟩ (.int .i64 y.pos)).setCell ⟨g8, 4, none⟩ (.int .i64 y.n)).setCell ⟨g8, 5, none⟩ (.string y.name)).setCell ⟨g8, 6, none⟩ (.string y.arg)).setCell ⟨g8, 7, none⟩ (.string y.exn)).setCell ⟨g8, 8, none⟩ (.slice ak nk ck) = W5 at *
          have HO5 := hid O5
          have HZ5 := hid Z5
          have HY5 := hid Y5
          have HR5 := hid R5
          obtain ⟨z0, z1, z2, z3, z4, z5, z6, z7, z8⟩ := Z5.nine
          obtain ⟨k0, k1, k2, k3, k4, k5, k6, k7, k8⟩ := Z5.frozen9
          have lz5 := Z5.lt
          obtain ⟨p0, p1, p2, f0, f1, f2, l0⟩ := SBlk.open_ S5
          obtain ⟨d0, d1, d2, d3, d4, d5, d6, d7, d8⟩ := O5.nine
          have hbz : b ≠ w.heap.size := by
            rintro rfl
            have h1 := HZ5.out.cell (o + i2 * 3)
            rw [c0] at h1
            have h2 := HZ5.out.cell (o + i2 * 3 + 1)
            rw [c1] at h2
            match h : o + i2 * 3, h1, h2 with
            | 0, h1, h2 => simp at h1
            | 1, h1, h2 => simp at h2
            | 2, h1, h2 => simp at h2
            | 3, h1, h2 => simp at h1
            | 4, h1, h2 => simp at h1
            | 5, h1, h2 => simp at h1
            | 6, h1, h2 => simp at h1
            | 7, h1, h2 => simp at h1
            | 8, h1, h2 => simp at h1
            | k + 9, h1, h2 => simp at h1
          clear S5 O5 Z5 Y5 R5 c1 HZ1 HL1
          by_cases hgood : ∃ tt ll, r = .ok (tt, ll) ∧ t.k = 6
          · obtain ⟨tt, ll, rfl, hk⟩ := hgood
            obtain ⟨rfl, rfl⟩ := hst
            have hkb : (t.k != 6) = false := by simpa using hk
            obtain ⟨acc, ea1, ea2, ea3, ea4⟩ := HR4.out tt _ rfl
            have HRF : Hid (tR = .ok (acc, tt)) := hid (HR2.out.trans (by rw [ea4]; exact if_pos hk))
            clear HR2 hk
            obtain ⟨e1, e2, e3, e4, e5⟩ := K5.out tt _ rfl
            subst e1
            have HTT := hid (And.intro e2 (And.intro e3 (And.intro e4 e5)))
            have X9 : ExtX (· = w.heap.size) W5 (lay9 (W5.setCell ⟨w.heap.size, 0, none⟩ (.slice ea m ec)) w.heap.size (.int .u8 tt.head.k) (.int .u8 tt.head.op) (.int .i64 tt.head.pos) (.int .i64 tt.head.n) (.string tt.head.name) (.string tt.head.arg) (.string tt.head.exn) (.slice ak nk ck)) := (ExtX.refl (A := (· = w.heap.size)) W5).lay09 (.inl rfl)
            have HY9 := hid (ExtX.ext HY5.out X9 (fun q (e : q = w.heap.size) => by omega))
            have HB9 := hid (HZ5.out.lay09 (u0 := .slice ea m ec) (u1 := .int .u8 tt.head.k) (u2 := .int .u8 tt.head.op) (u3 := .int .i64 tt.head.pos) (u4 := .int .i64 tt.head.n) (u5 := .string tt.head.name) (u6 := .string tt.head.arg) (u7 := .string tt.head.exn) (u8 := .slice ak nk ck))
            have HI9 : Hid (IsPg (lay9 (W5.setCell ⟨w.heap.size, 0, none⟩ (.slice ea m ec)) w.heap.size (.int .u8 tt.head.k) (.int .u8 tt.head.op) (.int .i64 tt.head.pos) (.int .i64 tt.head.n) (.string tt.head.name) (.string tt.head.arg) (.string tt.head.exn) (.slice ak nk ck)) (acc, tt) (.agg #[.slice ea m ec, .int .u8 tt.head.k, .int .u8 tt.head.op, .int .i64 tt.head.pos, .int .i64 tt.head.n, .string tt.head.name, .string tt.head.arg, .string tt.head.exn, .slice ak nk ck])) := hid (by
              obtain ⟨e2, e3, e4, e5⟩ := HTT.out
              subst ea1 ea2
              obtain ⟨a9, c9, hv, g1, g2, hTk, hTb⟩ := owns_toks HR5.out ea3
              cases hv
              exact ⟨_, _, _, ak, nk, ck, rfl, g1, g2, hTk.keep X9 (fun p e h => by have := hTb p e; have h : p.block = w.heap.size := h; omega), e2, e3, e4, (e5.extx X9 (fun q e => e)).any⟩)
            unfold Go.Proofs.YtaioeailgknfjaaGreatDoor.lay9 at HY9 HB9 HI9
            clear K5 e2 e3 e4 e5 X9 ea1 ea2 ea3 ea4
            go_wp2_with fail
            obtain ⟨r2, r3, r4, r5, r6, r7, r8, r9, ra⟩ := HB9.out.nine
            rw [HRF.out]
            exact bodyPost_ret (v := .tuple #[.agg #[.slice ea m ec, .int .u8 tt.head.k, .int .u8 tt.head.op, .int .i64 tt.head.pos, .int .i64 tt.head.n, .string tt.head.name, .string tt.head.arg, .string tt.head.exn, .slice ak nk ck], .int .i64 0, .int .i64 0]) (by simp [results, Tryz.results16, go_sem, r2, r3, r4, r5, r6, r7, r8, r9, ra]) rfl ⟨HY9.out, _, rfl, HI9.out⟩
          · have hbad : tR = .error (t.pos, 2) ∧ (bad2 = true ∨ bad2 = false ∧ (t.k != 6) = true) := by
              have hR := HR2.out
              cases r with
              | error l =>
                obtain ⟨rfl, rfl⟩ := hst
                rw [HR3.out _ rfl] at hR
                exact ⟨hR, .inl rfl⟩
              | ok q =>
                obtain ⟨tt, ll⟩ := q
                obtain ⟨rfl, rfl⟩ := hst
                have hne : ¬ t.k = 6 := fun h => hgood ⟨tt, _, rfl, h⟩
                obtain ⟨acc, -, -, -, ea4⟩ := HR4.out tt _ rfl
                rw [ea4] at hR
                exact ⟨hR.trans (if_neg hne), .inr ⟨rfl, by simpa using hne⟩⟩
            have HRF := hid hbad.1
            have hbad := hbad.2
            clear HR2 hst hgood K5
            have nS0 := fun W (h : ExtX (· = w.heap.size) W5 W) => h.cell (p := ⟨g5, 0, none⟩) (show ¬ g5 = w.heap.size by omega) p0
            have nS1 := fun W (h : ExtX (· = w.heap.size) W5 W) => h.cell (p := ⟨g5, 1, none⟩) (show ¬ g5 = w.heap.size by omega) p1
            have nC2 := fun W (h : ExtX (· = w.heap.size) W5 W) => h.cell (p := ⟨b, o + i2 * 3 + 2, none⟩) hbz c2
            have X9 := (ExtX.refl (A := (· = w.heap.size)) W5).lay09 (g := w.heap.size) (u0 := .slice none 0 0) (u1 := .int .u8 0) (u2 := .int .u8 0) (u3 := .int .i64 0) (u4 := .int .i64 0) (u5 := .string ⟨#[]⟩) (u6 := .string ⟨#[]⟩) (u7 := .string ⟨#[]⟩) (u8 := .slice none 0 0) (.inl rfl)
            have HY9 := hid (ExtX.ext HY5.out X9 (fun q (e : q = w.heap.size) => by omega))
            have HB9 := hid (HZ5.out.lay09 (u0 := .slice none 0 0) (u1 := .int .u8 0) (u2 := .int .u8 0) (u3 := .int .i64 0) (u4 := .int .i64 0) (u5 := .string ⟨#[]⟩) (u6 := .string ⟨#[]⟩) (u7 := .string ⟨#[]⟩) (u8 := .slice none 0 0))
            unfold Go.Proofs.YtaioeailgknfjaaGreatDoor.lay9 at HY9 HB9
            clear X9
            rcases hbad with rfl | ⟨rfl, hkb⟩
            · go_upto_region 13 with fail
              refine wp_region_held_drew (S := fun w' => ExtX (· = w.heap.size) W5 w') (by kernel_rfl) (by (try dsimp only); (exact xX)) (fun hHeld => ?_)
              refine tL 0 ?_;try simp only [Act.put,pA,pB,pC]
              refine tL 1 ?_;try simp only [Act.put,pA,pB,pC]
              refine tL 2 ?_;try simp only [Act.put,pA,pB,pC]
              refine tL 3 ?_;try simp only [Act.put,pA,pB,pC]
              refine tL 4 ?_;try simp only [Act.put,pA,pB,pC]
              refine tL 5 ?_;try simp only [Act.put,pA,pB,pC]
              refine tL 6 ?_;try simp only [Act.put,pA,pB,pC]
              refine tL 7 ?_;try simp only [Act.put,pA,pB,pC]
              refine dK 8 fun K hK => ?_; go_simp; refine hK.out _ _ (by (try dsimp only); (exact xX)) (fun hHeld => ?_); clear hK K; try simp only [Act.put,pA,pB,pC]
              refine tL 9 ?_;try simp only [Act.put,pA,pB,pC]
              refine tL 10 ?_;try simp only [Act.put,pA,pB,pC]
              refine wpAnyH_done (by kernel_rfl) ?_ _
              repeat (first | go_values | go_skip | go_guarded | go_step | go_upon)
              obtain ⟨r2, r3, r4, r5, r6, r7, r8, r9, ra⟩ := HB9.out.drew.nine
              rw [HRF.out]
              exact bodyPost_ret (v := .tuple #[.agg #[.slice none 0 0, .int .u8 0, .int .u8 0, .int .i64 0, .int .i64 0, .string ⟨#[]⟩, .string ⟨#[]⟩, .string ⟨#[]⟩, .slice none 0 0], .int .i64 t.pos, .int .i64 2]) (by simp [results, Tryz.results16, go_sem, r2, r3, r4, r5, r6, r7, r8, r9, ra]) rfl ⟨HY9.out.drew, rfl⟩
            · go_upto_region 13 with fail
              refine wp_region_held_drew (S := fun w' => ExtX (· = w.heap.size) W5 w') (by kernel_rfl) (by (try dsimp only); (exact xX)) (fun hHeld => ?_)
              refine tL 0 ?_;try simp only [Act.put,pA,pB,pC]
              refine tL 1 ?_;try simp only [Act.put,pA,pB,pC]
              refine tL 2 ?_;try simp only [Act.put,pA,pB,pC]
              refine tL 3 ?_;try simp only [Act.put,pA,pB,pC]
              refine tL 4 ?_;try simp only [Act.put,pA,pB,pC]
              refine tL 5 ?_;try simp only [Act.put,pA,pB,pC]
              refine tL 6 ?_;try simp only [Act.put,pA,pB,pC]
              refine tL 7 ?_;try simp only [Act.put,pA,pB,pC]
              refine dK 8 fun K hK => ?_; go_simp; refine hK.out _ _ (by (try dsimp only); (exact xX)) (fun hHeld => ?_); clear hK K; try simp only [Act.put,pA,pB,pC]
              refine tL 9 ?_;try simp only [Act.put,pA,pB,pC]
              refine tL 10 ?_;try simp only [Act.put,pA,pB,pC]
              refine wpAnyH_done (by kernel_rfl) ?_ _
              repeat (first | go_values | go_skip | go_guarded | go_step | go_upon)
              obtain ⟨r2, r3, r4, r5, r6, r7, r8, r9, ra⟩ := HB9.out.drew.nine
              rw [HRF.out]
              exact bodyPost_ret (v := .tuple #[.agg #[.slice none 0 0, .int .u8 0, .int .u8 0, .int .i64 0, .int .i64 0, .string ⟨#[]⟩, .string ⟨#[]⟩, .string ⟨#[]⟩, .slice none 0 0], .int .i64 t.pos, .int .i64 2]) (by simp [results, Tryz.results16, go_sem, r2, r3, r4, r5, r6, r7, r8, r9, ra]) rfl ⟨HY9.out.drew, rfl⟩
        | false =>
          have HNE : Hid (∀ acc l, q = .ok (acc, l) → isT [w_exn] l = false ∧ Ended l) := hid fun acc l e => by
            have h := HPQ.out.st
            rw [e] at h
            exact ⟨by cases hi : isT [w_exn] l with | false => rfl | true => exact absurd ⟨acc, l, e, hi⟩ hex, h.2.2⟩
          obtain ⟨acc0, l0', hq0⟩ : ∃ acc l, q = .ok (acc, l) := by
            cases q with
            | error l => exact absurd HPQ.out.st.1 (by simp)
            | ok p => exact ⟨p.1, p.2, rfl⟩
          have hA0 : AtS L n' i l0' := by have h := HPQ.out.st; rw [hq0] at h; exact h.2.1
          have KX := hid (ref5_text L a' n' c' i false l0' wr (HL1.out.ext HW1X.out) hA0)
          have t1 := txS_not (by decide +kernel) (HNE.out acc0 l0' hq0).1
          generalize txS l0' = tx at *
          have b1 : (tx.toList == ([101, 120, 110] : List UInt8)) = false := by simpa using fun e => t1 (e.trans (by decide +kernel))
          clear hex hq0 hA0 t1
          obtain ⟨bad, hbd⟩ : ∃ b, b = false := ⟨_, rfl⟩
          go_upto_region 11 with (go_at_call 41; refine (KX.out).mono ?_; rintro e WX ⟨rfl, x2⟩)
          have HPQ := hid (HPQ.out.ext x2)
          have HW1X := hid (HW1X.out.trans x2)
          rw [← hbd] at HPQ
          clear hbd p0 p1 p2 f0 f1 f2 l0 hl5 hl8 x2 KX b1
          obtain ⟨r, f, hr1, hr2, hr3, hr4⟩ := prog_end HPQ.out.ok HPQ.out.er HNE.out
          have HR3 := hid hr3
          have HR4 := hid hr4
          have KE := hid (ref5_exprS (ref5_knot f).1 L a' n' c' i bad q r WX (HL1.out.ext (HW1X.out)) HPQ.out.st hr1 hr2)
          clear hr1 hr2 hr3 hr4 HNE
          obtain ⟨p0, p1, p2, f0, f1, f2, l0⟩ := SBlk.open_ HPQ.out.s
          have ho8 : Blk WX g8 41 _ := HPQ.out.o
          have hl5 := HPQ.out.lt5
          have hl8 := HPQ.out.lt8
          have hlb := HPQ.out.ltb
          go_upto_region 12 with (go_at_call 44; refine (KE.out).mono ?_; rintro e w2 ⟨x2, i2, bad2, y, ak, nk, ck, rfl, hs2, hT2⟩; obtain ⟨m0, m1, m2, k0, k1, k2, ll0⟩ := SBlk.open_ (SBlk.ext HPQ.out.s x2); obtain ⟨o0, o1, o2, o3, o4, o5, o6, o7, o8⟩ := (ho8.ext x2).nine; obtain ⟨j0, j1, j2, j3, j4, j5, j6, j7, j8⟩ := (ho8.ext x2).frozen9; have lo8 := (ho8.ext x2).lt)
          obtain ⟨t, l', b, o, rfl, hi2, q0, q1, q2, hst⟩ := StS.tok (HL1.out.ext (HW1X.out.trans x2)) hs2
          have hb1 : b < w1.heap.size := by
            have h := HL1.out.toks.at3 (i := 0) (by omega)
            obtain ⟨_, b', o', _, _, e, q, _, _⟩ := h
            cases e
            exact World.block_lt_of_cell? _ _ q
          have X5 : ExtX (fun q => q = g5 ∨ q = g8) w2 (lay9 (w3s w2 g5 (some ⟨b, o, none⟩) n' c' i2 bad2) g8 (.int .u8 y.k) (.int .u8 y.op) (.int .i64 y.pos) (.int .i64 y.n) (.string y.name) (.string y.arg) (.string y.exn) (.slice ak nk ck)) := (w3s_x.mono fun _ e => .inl e).trans ((ExtX.refl (A := (· = g8)) _).lay9 (.inl rfl) |>.mono fun _ e => .inr e)
          have S5 : SBlk (lay9 (w3s w2 g5 (some ⟨b, o, none⟩) n' c' i2 bad2) g8 (.int .u8 y.k) (.int .u8 y.op) (.int .i64 y.pos) (.int .i64 y.n) (.string y.name) (.string y.arg) (.string y.exn) (.slice ak nk ck)) g5 (some ⟨b, o, none⟩) n' c' i2 bad2 := Blk.extx (w3s_blk (SBlk.ext HPQ.out.s x2)) ((ExtX.refl (A := (· = g8)) _).lay9 (.inl rfl)) (by show ¬ g5 = g8; omega)
          have O5 := (Blk.extx (ho8.ext x2) (w3s_x (s := g5) (a := some ⟨b, o, none⟩) (n := n') (c := c') (i := i2) (bad := bad2)) (show ¬ g8 = g5 by omega)).lay9 (u1 := .int .u8 y.k) (u2 := .int .u8 y.op) (u3 := .int .i64 y.pos) (u4 := .int .i64 y.n) (u5 := .string y.name) (u6 := .string y.arg) (u7 := .string y.exn) (u8 := .slice ak nk ck)
          have he5 := HE5.out
          have he8 := HE8.out
          have c0 := X5.cell (p := ⟨b, o + i2 * 3, none⟩) (show ¬ (b = g5 ∨ b = g8) by omega) q0
          have c1 := X5.cell (p := ⟨b, o + i2 * 3 + 1, none⟩) (show ¬ (b = g5 ∨ b = g8) by omega) q1
          have c2 := X5.cell (p := ⟨b, o + i2 * 3 + 2, none⟩) (show ¬ (b = g5 ∨ b = g8) by omega) q2
          have hZX : Blk WX w.heap.size 41 _ := HPQ.out.z
          have Z5 := Blk.extx (hZX.ext x2) X5 (show ¬ (w.heap.size = g5 ∨ w.heap.size = g8) by omega)
          have Y5 := ExtX.ext (HPQ.out.x.trans x2) X5 (fun q e => by rcases e with e | e <;> omega)
          have R5 := owns_keep X5 (fun k e => by rcases e with e | e <;> omega) (owns_ext x2 HPQ.out.row)
          have hsX := Blk.lt HPQ.out.o
          have hwX := Below.size x2
          have K5 : Hid (∀ t l, r = .ok (t, l) → t.head = y ∧ y.Fits ∧ nk ≤ ck ∧ ck ≤ 9223372036854775807 ∧ IsTmsA (fun q => q = w.heap.size) (lay9 (w3s w2 g5 (some ⟨b, o, none⟩) n' c' i2 bad2) g8 (.int .u8 y.k) (.int .u8 y.op) (.int .i64 y.pos) (.int .i64 y.n) (.string y.name) (.string y.arg) (.string y.exn) (.slice ak nk ck)) t.kids ak nk) := hid fun t l e => by
            obtain ⟨e1, e2, e3, e4, e5⟩ := hT2 t l e
            exact ⟨e1, e2, e3, e4, (e5.extx X5 (fun q e => by show q < _; rcases e with e | e <;> omega)).move (fun q _ (e : q = w.heap.size) => by show q < _; omega) (fun _ _ _ hu => hu)⟩
          unfold Go.Proofs.YtaioeailgknfjaaGreatDoor.lay9 w3s at S5 O5 c0 c1 c2 Z5 Y5 R5 K5
          clear he5 he8 m0 m1 m2 k0 k1 k2 ll0 o0 o1 o2 o3 o4 o5 o6 o7 o8 j0 j1 j2 j3 j4 j5 j6 j7 j8 lo8 x2 p0 p1 p2 f0 f1 f2 l0 q0 q1 q2 X5 hT2 hs2 KE ho8 hZX HPQ
          generalize ((((((((((w2.setCell ⟨g5, 0, none⟩ (.slice (some ⟨b, o, none⟩) n' c')).setCell ⟨g5, 1, none⟩ (.int .i64 (i2 : Nat))).setCell ⟨g5, 2, none⟩ (.bool bad2)).setCell ⟨g8, 1, none⟩ (.int .u8 y.k)).setCell ⟨g8, 2, none⟩ (.int .u8 y.op)).setCell ⟨g8, 3, none⟩ (.int .i64 y.pos)).setCell ⟨g8, 4, none⟩ (.int .i64 y.n)).setCell ⟨g8, 5, none⟩ (.string y.name)).setCell ⟨g8, 6, none⟩ (.string y.arg)).setCell ⟨g8, 7, none⟩ (.string y.exn)).setCell ⟨g8, 8, none⟩ (.slice ak nk ck) = W5 at *
          have HO5 := hid O5
          have HZ5 := hid Z5
          have HY5 := hid Y5
          have HR5 := hid R5
          obtain ⟨z0, z1, z2, z3, z4, z5, z6, z7, z8⟩ := Z5.nine
          obtain ⟨k0, k1, k2, k3, k4, k5, k6, k7, k8⟩ := Z5.frozen9
          have lz5 := Z5.lt
          obtain ⟨p0, p1, p2, f0, f1, f2, l0⟩ := SBlk.open_ S5
          obtain ⟨d0, d1, d2, d3, d4, d5, d6, d7, d8⟩ := O5.nine
          have hbz : b ≠ w.heap.size := by
            rintro rfl
            have h1 := HZ5.out.cell (o + i2 * 3)
            rw [c0] at h1
            have h2 := HZ5.out.cell (o + i2 * 3 + 1)
            rw [c1] at h2
            match h : o + i2 * 3, h1, h2 with
            | 0, h1, h2 => simp at h1
            | 1, h1, h2 => simp at h2
            | 2, h1, h2 => simp at h2
            | 3, h1, h2 => simp at h1
            | 4, h1, h2 => simp at h1
            | 5, h1, h2 => simp at h1
            | 6, h1, h2 => simp at h1
            | 7, h1, h2 => simp at h1
            | 8, h1, h2 => simp at h1
            | k + 9, h1, h2 => simp at h1
          clear S5 O5 Z5 Y5 R5 c1 HZ1 HL1
          by_cases hgood : ∃ tt ll, r = .ok (tt, ll) ∧ t.k = 6
          · obtain ⟨tt, ll, rfl, hk⟩ := hgood
            obtain ⟨rfl, rfl⟩ := hst
            have hkb : (t.k != 6) = false := by simpa using hk
            obtain ⟨acc, ea1, ea2, ea3, ea4⟩ := HR4.out tt _ rfl
            have HRF : Hid (tR = .ok (acc, tt)) := hid (HR2.out.trans (by rw [ea4]; exact if_pos hk))
            clear HR2 hk
            obtain ⟨e1, e2, e3, e4, e5⟩ := K5.out tt _ rfl
            subst e1
            have HTT := hid (And.intro e2 (And.intro e3 (And.intro e4 e5)))
            have X9 : ExtX (· = w.heap.size) W5 (lay9 (W5.setCell ⟨w.heap.size, 0, none⟩ (.slice ea m ec)) w.heap.size (.int .u8 tt.head.k) (.int .u8 tt.head.op) (.int .i64 tt.head.pos) (.int .i64 tt.head.n) (.string tt.head.name) (.string tt.head.arg) (.string tt.head.exn) (.slice ak nk ck)) := (ExtX.refl (A := (· = w.heap.size)) W5).lay09 (.inl rfl)
            have HY9 := hid (ExtX.ext HY5.out X9 (fun q (e : q = w.heap.size) => by omega))
            have HB9 := hid (HZ5.out.lay09 (u0 := .slice ea m ec) (u1 := .int .u8 tt.head.k) (u2 := .int .u8 tt.head.op) (u3 := .int .i64 tt.head.pos) (u4 := .int .i64 tt.head.n) (u5 := .string tt.head.name) (u6 := .string tt.head.arg) (u7 := .string tt.head.exn) (u8 := .slice ak nk ck))
            have HI9 : Hid (IsPg (lay9 (W5.setCell ⟨w.heap.size, 0, none⟩ (.slice ea m ec)) w.heap.size (.int .u8 tt.head.k) (.int .u8 tt.head.op) (.int .i64 tt.head.pos) (.int .i64 tt.head.n) (.string tt.head.name) (.string tt.head.arg) (.string tt.head.exn) (.slice ak nk ck)) (acc, tt) (.agg #[.slice ea m ec, .int .u8 tt.head.k, .int .u8 tt.head.op, .int .i64 tt.head.pos, .int .i64 tt.head.n, .string tt.head.name, .string tt.head.arg, .string tt.head.exn, .slice ak nk ck])) := hid (by
              obtain ⟨e2, e3, e4, e5⟩ := HTT.out
              subst ea1 ea2
              obtain ⟨a9, c9, hv, g1, g2, hTk, hTb⟩ := owns_toks HR5.out ea3
              cases hv
              exact ⟨_, _, _, ak, nk, ck, rfl, g1, g2, hTk.keep X9 (fun p e h => by have := hTb p e; have h : p.block = w.heap.size := h; omega), e2, e3, e4, (e5.extx X9 (fun q e => e)).any⟩)
            unfold Go.Proofs.YtaioeailgknfjaaGreatDoor.lay9 at HY9 HB9 HI9
            clear K5 e2 e3 e4 e5 X9 ea1 ea2 ea3 ea4
            go_wp2_with fail
            obtain ⟨r2, r3, r4, r5, r6, r7, r8, r9, ra⟩ := HB9.out.nine
            rw [HRF.out]
            exact bodyPost_ret (v := .tuple #[.agg #[.slice ea m ec, .int .u8 tt.head.k, .int .u8 tt.head.op, .int .i64 tt.head.pos, .int .i64 tt.head.n, .string tt.head.name, .string tt.head.arg, .string tt.head.exn, .slice ak nk ck], .int .i64 0, .int .i64 0]) (by simp [results, Tryz.results16, go_sem, r2, r3, r4, r5, r6, r7, r8, r9, ra]) rfl ⟨HY9.out, _, rfl, HI9.out⟩
          · have hbad : tR = .error (t.pos, 2) ∧ (bad2 = true ∨ bad2 = false ∧ (t.k != 6) = true) := by
              have hR := HR2.out
              cases r with
              | error l =>
                obtain ⟨rfl, rfl⟩ := hst
                rw [HR3.out _ rfl] at hR
                exact ⟨hR, .inl rfl⟩
              | ok q =>
                obtain ⟨tt, ll⟩ := q
                obtain ⟨rfl, rfl⟩ := hst
                have hne : ¬ t.k = 6 := fun h => hgood ⟨tt, _, rfl, h⟩
                obtain ⟨acc, -, -, -, ea4⟩ := HR4.out tt _ rfl
                rw [ea4] at hR
                exact ⟨hR.trans (if_neg hne), .inr ⟨rfl, by simpa using hne⟩⟩
            have HRF := hid hbad.1
            have hbad := hbad.2
            clear HR2 hst hgood K5
            have nS0 := fun W (h : ExtX (· = w.heap.size) W5 W) => h.cell (p := ⟨g5, 0, none⟩) (show ¬ g5 = w.heap.size by omega) p0
            have nS1 := fun W (h : ExtX (· = w.heap.size) W5 W) => h.cell (p := ⟨g5, 1, none⟩) (show ¬ g5 = w.heap.size by omega) p1
            have nC2 := fun W (h : ExtX (· = w.heap.size) W5 W) => h.cell (p := ⟨b, o + i2 * 3 + 2, none⟩) hbz c2
            have X9 := (ExtX.refl (A := (· = w.heap.size)) W5).lay09 (g := w.heap.size) (u0 := .slice none 0 0) (u1 := .int .u8 0) (u2 := .int .u8 0) (u3 := .int .i64 0) (u4 := .int .i64 0) (u5 := .string ⟨#[]⟩) (u6 := .string ⟨#[]⟩) (u7 := .string ⟨#[]⟩) (u8 := .slice none 0 0) (.inl rfl)
            have HY9 := hid (ExtX.ext HY5.out X9 (fun q (e : q = w.heap.size) => by omega))
            have HB9 := hid (HZ5.out.lay09 (u0 := .slice none 0 0) (u1 := .int .u8 0) (u2 := .int .u8 0) (u3 := .int .i64 0) (u4 := .int .i64 0) (u5 := .string ⟨#[]⟩) (u6 := .string ⟨#[]⟩) (u7 := .string ⟨#[]⟩) (u8 := .slice none 0 0))
            unfold Go.Proofs.YtaioeailgknfjaaGreatDoor.lay9 at HY9 HB9
            clear X9
            rcases hbad with rfl | ⟨rfl, hkb⟩
            · go_upto_region 13 with fail
              refine wp_region_held_drew (S := fun w' => ExtX (· = w.heap.size) W5 w') (by kernel_rfl) (by (try dsimp only); (exact xX)) (fun hHeld => ?_)
              refine tL 0 ?_;try simp only [Act.put,pA,pB,pC]
              refine tL 1 ?_;try simp only [Act.put,pA,pB,pC]
              refine tL 2 ?_;try simp only [Act.put,pA,pB,pC]
              refine tL 3 ?_;try simp only [Act.put,pA,pB,pC]
              refine tL 4 ?_;try simp only [Act.put,pA,pB,pC]
              refine tL 5 ?_;try simp only [Act.put,pA,pB,pC]
              refine tL 6 ?_;try simp only [Act.put,pA,pB,pC]
              refine tL 7 ?_;try simp only [Act.put,pA,pB,pC]
              refine dK 8 fun K hK => ?_; go_simp; refine hK.out _ _ (by (try dsimp only); (exact xX)) (fun hHeld => ?_); clear hK K; try simp only [Act.put,pA,pB,pC]
              refine tL 9 ?_;try simp only [Act.put,pA,pB,pC]
              refine tL 10 ?_;try simp only [Act.put,pA,pB,pC]
              refine wpAnyH_done (by kernel_rfl) ?_ _
              repeat (first | go_values | go_skip | go_guarded | go_step | go_upon)
              obtain ⟨r2, r3, r4, r5, r6, r7, r8, r9, ra⟩ := HB9.out.drew.nine
              rw [HRF.out]
              exact bodyPost_ret (v := .tuple #[.agg #[.slice none 0 0, .int .u8 0, .int .u8 0, .int .i64 0, .int .i64 0, .string ⟨#[]⟩, .string ⟨#[]⟩, .string ⟨#[]⟩, .slice none 0 0], .int .i64 t.pos, .int .i64 2]) (by simp [results, Tryz.results16, go_sem, r2, r3, r4, r5, r6, r7, r8, r9, ra]) rfl ⟨HY9.out.drew, rfl⟩
            · go_upto_region 13 with fail
              refine wp_region_held_drew (S := fun w' => ExtX (· = w.heap.size) W5 w') (by kernel_rfl) (by (try dsimp only); (exact xX)) (fun hHeld => ?_)
              refine tL 0 ?_;try simp only [Act.put,pA,pB,pC]
              refine tL 1 ?_;try simp only [Act.put,pA,pB,pC]
              refine tL 2 ?_;try simp only [Act.put,pA,pB,pC]
              refine tL 3 ?_;try simp only [Act.put,pA,pB,pC]
              refine tL 4 ?_;try simp only [Act.put,pA,pB,pC]
              refine tL 5 ?_;try simp only [Act.put,pA,pB,pC]
              refine tL 6 ?_;try simp only [Act.put,pA,pB,pC]
              refine tL 7 ?_;try simp only [Act.put,pA,pB,pC]
              refine dK 8 fun K hK => ?_; go_simp; refine hK.out _ _ (by (try dsimp only); (exact xX)) (fun hHeld => ?_); clear hK K; try simp only [Act.put,pA,pB,pC]
              refine tL 9 ?_;try simp only [Act.put,pA,pB,pC]
              refine tL 10 ?_;try simp only [Act.put,pA,pB,pC]
              refine wpAnyH_done (by kernel_rfl) ?_ _
              repeat (first | go_values | go_skip | go_guarded | go_step | go_upon)
              obtain ⟨r2, r3, r4, r5, r6, r7, r8, r9, ra⟩ := HB9.out.drew.nine
              rw [HRF.out]
              exact bodyPost_ret (v := .tuple #[.agg #[.slice none 0 0, .int .u8 0, .int .u8 0, .int .i64 0, .int .i64 0, .string ⟨#[]⟩, .string ⟨#[]⟩, .string ⟨#[]⟩, .slice none 0 0], .int .i64 t.pos, .int .i64 2]) (by simp [results, Tryz.results16, go_sem, r2, r3, r4, r5, r6, r7, r8, r9, ra]) rfl ⟨HY9.out.drew, rfl⟩
      case pos =>
        obtain ⟨acc, l, rfl, hi⟩ := hex
        obtain ⟨rfl, hA, hE'⟩ := HPQ.out.st
        obtain ⟨t, l1, b, o, rfl, rfl, -, -, -, -, hnx⟩ := hA.tok (HL1.out.ext HW1X.out)
        have hne := hE'.tail_ne (isT_kind hi)
        cases l1 with
        | nil => exact (hne.1 rfl).elim
        | cons u l2 =>
        have hA1 := hnx (by simp)
        obtain ⟨u', l2', b', o', e1, e2, huf, q0, q1, q2, -⟩ := hA1.tok (HL1.out.ext HW1X.out)
        cases e1
        cases e2
        have hb1 : b < w1.heap.size := by
          have h := HL1.out.toks.at3 (i := 0) (by have := hA.2; omega)
          obtain ⟨_, b', o', _, _, e, q, _, _⟩ := h
          cases e
          exact World.block_lt_of_cell? _ _ q
        have KX := hid (ref5_text L (some ⟨b, o, none⟩) n' c' i false (t :: u :: l2) wr (HL1.out.ext HW1X.out) hA)
        have htx : txS (t :: u :: l2) = w_exn := by
          have h1 := txS_is (xs := [w_exn]) (by decide +kernel) (t :: u :: l2)
          rw [hi] at h1
          have h2 := (inB_iff _ _).1 h1
          simpa using h2
        rw [htx] at KX
        have hwx : (w_exn.toList == ([101, 120, 110] : List UInt8)) = true := by decide +kernel
        have hn1 := hA1.2
        have hcn := HL1.out.le
        have hcc := HL1.out.cap
        have hw1 : IntKind.i64.wrap ((i : Int) + 1) = (i : Int) + 1 := IntWalk.i64_in _ ⟨by omega, by omega⟩
        have HI := hid hi
        have HA1 := hid hA1
        have HE1 := hid hne.2
        have HEl := hid hE'
        have HUF := hid huf
        clear hi hA hE' hnx hne hA1 huf htx
        go_upto_region 7 with (go_at_call 41; refine (KX.out).mono ?_; rintro e WX ⟨rfl, x2⟩; obtain ⟨m0, m1, m2, k0, k1, k2, ll0⟩ := SBlk.open_ (SBlk.ext HPQ.out.s x2); have c0 := x2.cell q0; have c1 := x2.cell q1; have c2 := x2.cell q2)
        have he5 := HE5.out
        have he8 := HE8.out
        have hb5 : b ≠ g5 := by omega
        clear he5 he8
        go_upto_region 8 with fail
        have he5 := HE5.out
        have he8 := HE8.out
        have Q1 := HPQ.out.ext x2
        have X1 : ExtX (· = g5) WX ((WX.setCell ⟨g5, 1, none⟩ (.int .i64 ((i : Int) + 1))).alloc (.cells #[.int .u8 u.k, .string u.text, .int .i64 u.pos] 37)) := ((ExtX.refl (A := (· = g5)) WX).setCell (p := ⟨g5, 1, none⟩) (.inl rfl) _).alloc _
        have S1 : SBlk ((WX.setCell ⟨g5, 1, none⟩ (.int .i64 ((i : Int) + 1))).alloc (.cells #[.int .u8 u.k, .string u.text, .int .i64 u.pos] 37)) g5 (some ⟨b, o, none⟩) n' c' (i + 1) false := (SBlk.next Q1.s).alloc _
        have T1 := Blk.new (WX.setCell ⟨g5, 1, none⟩ (.int .i64 ((i : Int) + 1))) 37 #[.int .u8 u.k, .string u.text, .int .i64 u.pos]
        have hsz1 : (WX.setCell ⟨g5, 1, none⟩ (.int .i64 ((i : Int) + 1))).heap.size = WX.heap.size := by simp
        rw [hsz1] at T1
        have hw1x := HW1X.out.trans x2
        have hsX := Blk.lt Q1.o
        have HO1 := hid (Blk.extx Q1.o X1 (show ¬ g8 = g5 by omega))
        have HZ1' := hid (Blk.extx Q1.z X1 (show ¬ w.heap.size = g5 by omega))
        have HR1 := hid (owns_keep X1 (fun k (e : k = g5) => by omega) Q1.row)
        have HY1' := hid (ExtX.ext Q1.x X1 (fun q (e : q = g5) => by omega))
        have HWA := hid (ExtX.ext hw1x X1 (fun q (e : q = g5) => by omega))
        have HS1 := hid S1
        have HT1 := hid T1
        have hg9 : g8 < WX.heap.size := hsX
        obtain ⟨q', hq1, hq2, hq3, hq4, hq5, hq6⟩ := prog_step HI.out HEl.out (HPQ.out.ok acc _ rfl).1
        have HQ1 := hid hq1
        have HQ2 := hid hq2
        have HQ3 := hid hq3
        have HQ4 := hid hq4
        have HQ5 := hid hq5
        have HQ6 := hid hq6
        have HOK := hid (HPQ.out.ok acc _ rfl)
        have hle5 : w1.heap.size ≤ g5 := Nat.le_of_eq he5.symm
        clear he5 he8
        have hmi := HPQ.out.mi
        have hlb := HPQ.out.ltb
        clear hq1 hq2 hq3 hq4 hq5 hq6 Q1 X1 S1 T1 hsz1 hw1x hsX c0 c1 c2 q0 q1 q2 m0 m1 m2 k0 k1 k2 ll0 x2 p0 p1 p2 f0 f1 f2 l0 HPQ HW1X
        generalize (WX.setCell ⟨g5, 1, none⟩ (.int .i64 ((i : Int) + 1))).alloc (.cells #[.int .u8 u.k, .string u.text, .int .i64 u.pos] 37) = WB at *
        generalize WX.heap.size = g9 at *
        clear WX
        have hs0 : StS L n' (i + 1) false (.ok ((), u :: l2) : Res Unit) := ⟨rfl, HA1.out, HE1.out⟩
        have KG : Hid (Calls Tryz.prog 42 #[.agg #[.slice (some ⟨b, o, none⟩) n' c', .int .i64 ((i : Int) + 1), .bool false], .int .u8 3] WB (fun e w' => Ext WB w' ∧ ∃ i' bad' tx, e = .returned (.tuple #[.agg #[.slice (some ⟨b, o, none⟩) n' c', .int .i64 (i' : Nat), .bool bad'], .string tx]) ∧ StS L n' i' bad' (thenR (.ok ((), u :: l2) : Res Unit) (getK 3)) ∧ ∀ x l', thenR (.ok ((), u :: l2) : Res Unit) (getK 3) = .ok (x, l') → tx = x)) := hid (ref5_getS L (some ⟨b, o, none⟩) n' c' (i + 1) false (.ok ((), u :: l2) : Res Unit) 3 (by omega) WB (HL1.out.ext HWA.out) hs0)
        clear hs0
        obtain ⟨p0, p1, p2, f0, f1, f2, l0⟩ := SBlk.open_ HS1.out
        have p1 : WB.cell? ⟨g5, 1, none⟩ = some (.int .i64 ((i : Int) + 1)) := p1
        go_upto_region 9 with (go_at_call 42; refine (KG.out).mono ?_; rintro e w2 ⟨x2, i2, bad2, tx, rfl, hs2, -⟩; obtain ⟨m0, m1, m2, k0, k1, k2, ll0⟩ := SBlk.open_ (SBlk.ext HS1.out x2))
        have S2 : SBlk (w3s w2 g5 (some ⟨b, o, none⟩) n' c' i2 bad2) g5 (some ⟨b, o, none⟩) n' c' i2 bad2 := w3s_blk (SBlk.ext HS1.out x2)
        have X2 : ExtX (· = g5) WB (w3s w2 g5 (some ⟨b, o, none⟩) n' c' i2 bad2) := (ExtX.of x2).trans w3s_x
        unfold w3s at S2 X2
        clear m0 m1 m2 k0 k1 k2 ll0 x2 p0 p1 p2 f0 f1 f2 l0
        generalize ((w2.setCell ⟨g5, 0, none⟩ (.slice (some ⟨b, o, none⟩) n' c')).setCell ⟨g5, 1, none⟩ (.int .i64 (i2 : Nat))).setCell ⟨g5, 2, none⟩ (.bool bad2) = W2 at *
        have HS2 := hid hs2
        have HSB2 := hid S2
        have HX2 := hid X2
        clear hs2 S2 X2 w2 KG
        have KW := hid (ref5_wantS L (some ⟨b, o, none⟩) n' c' i2 bad2 (thenR (.ok ((), u :: l2) : Res Unit) (getK 3)) s_semi (by decide +kernel) W2 (HL1.out.ext (ExtX.ext HWA.out HX2.out (fun q (e : q = g5) => by omega))) HS2.out)
        obtain ⟨p0, p1, p2, f0, f1, f2, l0⟩ := SBlk.open_ HSB2.out
        go_upto_region 10 with (go_at_call 43; refine (KW.out).mono ?_; rintro e w2 ⟨x2, i3, bad3, rfl, hs3⟩; obtain ⟨m0, m1, m2, k0, k1, k2, ll0⟩ := SBlk.open_ (SBlk.ext HSB2.out x2))
        have S3 : SBlk (w3s w2 g5 (some ⟨b, o, none⟩) n' c' i3 bad3) g5 (some ⟨b, o, none⟩) n' c' i3 bad3 := w3s_blk (SBlk.ext HSB2.out x2)
        have X3 : ExtX (· = g5) WB (w3s w2 g5 (some ⟨b, o, none⟩) n' c' i3 bad3) := (HX2.out.then_ x2).trans w3s_x
        unfold w3s at S3 X3
        clear m0 m1 m2 k0 k1 k2 ll0 x2 p0 p1 p2 f0 f1 f2 l0
        generalize ((w2.setCell ⟨g5, 0, none⟩ (.slice (some ⟨b, o, none⟩) n' c')).setCell ⟨g5, 1, none⟩ (.int .i64 (i3 : Nat))).setCell ⟨g5, 2, none⟩ (.bool bad3) = W3 at *
        have HS3 := hid (StS.cast hs3 (fun l e => HQ1.out l e) (fun x l e => HQ2.out x l e))
        have HSB3 := hid S3
        have HO3 := hid (Blk.extx HO1.out X3 (show ¬ g8 = g5 by omega))
        have HZ3 := hid (Blk.extx HZ1'.out X3 (show ¬ w.heap.size = g5 by omega))
        have HR3 := hid (owns_keep X3 (fun k (e : k = g5) => by omega) HR1.out)
        have HY3 := hid (ExtX.ext HY1'.out X3 (fun q (e : q = g5) => by omega))
        have HW3 := hid (ExtX.ext HWA.out X3 (fun q (e : q = g5) => by omega))
        have T3 := Blk.extx HT1.out X3 (show ¬ g9 = g5 by omega)
        have hz3 := X3.size
        have lt3 := T3.lt
        have e0 := T3.cell 0
        have e1 := T3.cell 1
        have e2 := T3.cell 2
        simp at e0 e1 e2
        have ho8 : Blk W3 g8 41 _ := HO3.out
        obtain ⟨o0, o1, o2, o3, o4, o5, o6, o7, o8⟩ := ho8.nine
        have lo8 := ho8.lt
        clear hs3 S3 X3 w2 KW HS2 HSB2 HX2 HS1 HO1 HZ1' HR1 HY1' HWA HT1 T3 ho8 o1 o2 o3 o4 o5 o6 o7 o8
        have hn4 : n' ≤ 4001 := by have := HL1.out.toks.length; omega
        go_upto_region 11 with (at_builtin; refine wpList_append_mine rfl (.tmp 48) (.tmp 50) 32 ?r0 (g8 + 1) 37 i0 (.agg #[.int .u8 0, .string ⟨#[]⟩, .int .i64 0]) 3 32 ?r1 ?r2 ?r3 ?r4 ?r5 ?r6 ?r7 (.slice ea m ec) m xs ?r8 ?r9 ⟨W3.heap.size, 0, none⟩ 1 1 (tkcells u) ?r10 ?r11 ?r12 ?r13 ?r14 ?r15 ?r16 ?r17)
        case r0 => rfl
        case r1 => exact Tryz.underlying32
        case r2 => exact HIN.out.1
        case r3 => exact HIN.out.2.1
        case r4 => exact HIN.out.2.2.1
        case r5 => exact HIN.out.2.2.2
        case r6 => rfl
        case r7 => decide
        case r8 => rfl
        case r9 => exact owns_ext ((Ext.refl _).alloc _) HR3.out
        case r10 => rfl
        case r11 => rfl
        case r12 => exact list_at W3 (tkcells u) _
        case r13 => intro v hv; simp [tkcells] at hv; rcases hv with rfl | rfl | rfl <;> rfl
        case r14 => unfold maxLen; omega
        case r15 => omega
        case r16 => simp; omega
        case r17 =>
          intro v9 w9 ho9 hg9' hw9
          obtain ⟨a9, c9, rfl⟩ := owns_slice_any ho9
          have hrow := HR3.out.lt
          have k5 : SBlk w9 g5 (some ⟨b, o, none⟩) n' c' i3 bad3 := (hg9'.block g5 (by have := Blk.lt HSB3.out; simp; omega) (fun e => by have := hrow _ e.symm; omega)).trans (Blk.alloc HSB3.out _)
          have k8 := (hg9'.block g8 (by have := Blk.lt HO3.out; simp; omega) (fun e => by have := hrow _ e.symm; omega)).trans (Blk.alloc HO3.out _)
          have kz := (hg9'.block w.heap.size (by have := Blk.lt HZ3.out; simp; omega) (fun e => by have := hrow _ e.symm; omega)).trans (Blk.alloc HZ3.out _)
          have Y9 : Ext w w9 := ext_grown hg9' (HY3.out.alloc _) (fun k hk => by have := hrow k hk; omega)
          have V9 : Ext w1 w9 := ext_grown hg9' (HW3.out.alloc _) (fun k hk => by have := hrow k hk; omega)
          have X10 : ExtX (· = g8) w9 (w9.setCell ⟨g8, 0, none⟩ (.slice a9 (m + 1) c9)) := (ExtX.refl (A := (· = g8)) w9).setCell (p := ⟨g8, 0, none⟩) (.inl rfl) _
          have k8' : Blk w9 g8 41 _ := k8
          have HPQ9 : Hid (ProgQ L (some ⟨b, o, none⟩) n' c' w g5 g8 (g8 + 1) R i3 bad3 a9 (m + 1) c9 (xs ++ tkcells u) q' (w9.setCell ⟨g8, 0, none⟩ (.slice a9 (m + 1) c9))) := hid {
            s := Blk.extx k5 X10 (by show ¬ g5 = g8; omega)
            o := by have h := k8'.set_ 0 (.slice a9 (m + 1) c9); simp only [List.setIfInBounds_toArray, List.set_cons_zero] at h; exact h
            z := Blk.extx kz X10 (by show ¬ w.heap.size = g8; omega)
            row := owns_keep X10 (fun k (e : k = g8) => by omega) ho9
            st := HS3.out
            ok := fun acc' l3 e => by
              obtain ⟨f1, rfl⟩ := HQ3.out acc' l3 e
              obtain ⟨-, f2, f3, f4⟩ := HOK.out
              exact ⟨f1, by simp [f2], by rw [f3, toks_snoc2], fun q hq => by rcases List.mem_append.1 hq with hq | hq; exact f4 q hq; simp at hq; subst hq; exact HUF.out⟩
            er := HQ4.out
            mi := by
              have h1 := HQ6.out
              have h2 := HA1.out.1
              have h3 := HA1.out.2
              have hl := HL1.out.toks.length
              have h4 : lenS q' = n' - i3 ∧ i3 < n' := by
                have h := HS3.out
                cases q' with
                | error l => obtain ⟨-, h5, h6⟩ := h; exact ⟨by rw [← h5]; simp [lenS]; omega, h6⟩
                | ok p => obtain ⟨pv, pl⟩ := p; obtain ⟨-, ⟨h5, h6⟩, -⟩ := h; exact ⟨by rw [← h5]; simp [lenS]; omega, h6⟩
              have h5 := congrArg List.length h2
              simp at h5
              omega
            x := ExtX.ext Y9 X10 (fun q (e : q = g8) => by omega)
            lt5 := hl5
            lt8 := hl8
            ltb := Nat.lt_succ_self _ }
          have HV9 := hid (ExtX.ext V9 X10 (fun q (e : q = g8) => by omega))
          have d0 := k8'.cell 0
          have d1 := k8'.frozen 0
          have d2 := k8'.lt
          simp at d0
          clear k5 k8 kz Y9 V9 X10 k8' ho9 hg9' hw9 hrow
          go_wp2_with fail
          have e5 := HE5.out
          have e8 := HE8.out
          subst e5
          subst e8
          go_roundg (leftQ q')
          case rel =>
            exact ⟨i3, bad3, a9, m + 1, c9, _, q', rfl, HPQ9.out, HV9.out⟩
          case measure => exact HQ5.out
set_option maxRecDepth 60000 in
set_option maxHeartbeats 8000000 in
theorem law_showPrograms (q : List Tk × Tm) (w : World) (v : Value) (hp : IsPg w q v) (hk : Knob w) (htab : Tab w) : Calls Tryz.prog 8 #[v] w (Yes5 w) := by
  have KA := hid fun (W : World) (h : Ext w W) => law06_awake W (hk.ext h) (htab.ext h)
  obtain ⟨es, x, ks⟩ := q
  obtain ⟨ea, ec, a, n, c, rfl, hTk, hTm⟩ := isPg_open hp
  have KG := hid fun (W : World) (h : Ext w W) => ref4_great (.mk x ks) W _ (hTm.ext h)
  have HTK := hid hTk
  have B0 := hid (Blk.new w 41 #[.slice ea es.length ec, .int .u8 x.k, .int .u8 x.op, .int .i64 x.pos, .int .i64 x.n, .string x.name, .string x.arg, .string x.exn, .slice a n c])
  have X0 : Hid (Ext w (w.alloc (.cells #[.slice ea es.length ec, .int .u8 x.k, .int .u8 x.op, .int .i64 x.pos, .int .i64 x.n, .string x.name, .string x.arg, .string x.exn, .slice a n c] 41))) := hid ((Ext.refl _).alloc _)
  obtain ⟨W0, hW0⟩ : ∃ W0, W0 = w.alloc (.cells #[.slice ea es.length ec, .int .u8 x.k, .int .u8 x.op, .int .i64 x.pos, .int .i64 x.n, .string x.name, .string x.arg, .string x.exn, .slice a n c] 41) := ⟨_, rfl⟩
  rw [← hW0] at B0 X0
  have HW0 := hid hW0
  cases hg : (Tm.mk x ks).great with
  | true =>
    rw [hg] at KG
    clear hp hk htab hTk hTm hg hW0
    go_enter Tryz.func8, Tryz.ntmps8
    go_upto_region 1 with fail
    rw [← HW0.out]
    obtain ⟨d0, d1, d2, d3, d4, d5, d6, d7, d8⟩ := B0.out.nine
    go_wp2_with (first | (go_at_call 20; refine (KG.out _ X0.out).mono ?_; rintro e w1 ⟨rfl, x1⟩) | (go_at_call 21; refine (KA.out _ (X0.out.trans x1)).mono ?_; rintro e w7 ⟨rfl, x7⟩))
    go_ret
    exact ⟨rfl, X0.out.trans (x1.trans x7)⟩
  | false =>
  rw [hg] at KG
  have hsz := (Tm.not_great hg).1
  by_cases hl : 100 < es.length
  · have hz : (100 : Int) < (es.length : Int) := by omega
    clear hp hk htab hTk hTm hg hl hsz hW0
    go_enter Tryz.func8, Tryz.ntmps8
    go_upto_region 1 with fail
    rw [← HW0.out]
    obtain ⟨d0, d1, d2, d3, d4, d5, d6, d7, d8⟩ := B0.out.nine
    go_wp2_with (first | (go_at_call 20; refine (KG.out _ X0.out).mono ?_; rintro e w1 ⟨rfl, x1⟩; have d0 := x1.cell d0) | (go_at_call 21; refine (KA.out _ (X0.out.trans x1)).mono ?_; rintro e w7 ⟨rfl, x7⟩))
    go_ret
    exact ⟨rfl, X0.out.trans (x1.trans x7)⟩
  have hz : ¬ (100 : Int) < (es.length : Int) := by omega
  have KS := hid fun (W : World) (h : Ext w W) => show_Program es x ks W ea es.length ec a n c (hTk.ext h) (hTm.ext h) (hk.ext h) (htab.ext h) (by omega) (by omega)
  have KM := hid fun (W : World) (h : Ext w W) => ref6_may es x ks W ea es.length ec a n c (hTk.ext h) (by omega) (hTm.ext h) (by omega)
  have KW := hid fun (hm : pgMay es (.mk x ks) = true) (W : World) (h : Ext w W) => ref6_whole es x ks W ea es.length ec a n c (hTk.ext h) (by omega) (pgMay_iff.1 hm).1 (may_nodes (pgMay_iff.1 hm).2).1 (may_nodes (pgMay_iff.1 hm).2).2 (hTm.ext h)
  have HB := hid fun (hm : pgMay es (.mk x ks) = true) => prog_back es (.mk x ks) (pgMay_iff.1 hm).1 (may_nodes (pgMay_iff.1 hm).2).2
  have HSL : Hid (pgMay es (.mk x ks) = true → (bs (joinW (progW es (.mk x ks)))).size ≤ 1000000) := hid fun hm => by
    have h1 := joinW_len (progW es (.mk x ks)) (progW_ok (pgMay_iff.1 hm).1 (may_nodes (pgMay_iff.1 hm).2).2)
    have h2 := progW_len es (.mk x ks)
    have h3 := wk_size (.mk x ks) (may_nodes (pgMay_iff.1 hm).2).2
    rw [bs_size]
    omega
  have KR := hid fun (W : World) a len cap h1 h2 hr => ref5_prog (joinW (progW es (.mk x ks))) W a len cap h1 h2 hr
  have KE := hid fun (t' : Tm) (W : World) (v v' : Value) (h : IsTm W t' v) (h' : IsTm W (.mk x ks) v') => ref4_same _ t' (.mk x ks) W v v' (Nat.le_refl _) h h'
  have HSP1 := hid (showP_yes (es := es) (t := .mk x ks))
  have HSP0 := hid (showP_no (es := es) (t := .mk x ks))
  have HTM := hid hTm
  generalize joinW (progW es (.mk x ks)) = J at *
  generalize pgMay es (.mk x ks) = pm at *
  generalize showP es (.mk x ks) = sp at *
  generalize hel : es.length = el at *
  clear hp hk htab hTk hTm hg hl hsz hW0
  go_enter Tryz.func8, Tryz.ntmps8
  go_upto_region 1 with fail
  rw [← HW0.out]
  obtain ⟨d0, d1, d2, d3, d4, d5, d6, d7, d8⟩ := B0.out.nine
  go_upto_region 3 with (go_at_call 20; refine (KG.out _ X0.out).mono ?_; rintro e w1 ⟨rfl, x1⟩; have d0 := x1.cell d0)
  clear d0 d1 d2 d3 d4 d5 d6 d7 d8
  have B1 := hid (B0.out.ext x1)
  have Y1 := hid (X0.out.trans x1)
  have TK1 := hid (HTK.out.ext Y1.out)
  clear x1
  go_wp2_with fail
  go_loopg [3] el (fun g i wr => ∃ j : Nat, g = el - j ∧ i = .int .i64 j ∧ j ≤ el ∧ wr = w1)
  case atStart => exact ⟨0, by omega, rfl, by omega, rfl⟩
  case round =>
    obtain ⟨j, rfl, rfl, hj, rfl⟩ := hrel
    obtain ⟨d0, d1, d2, d3, d4, d5, d6, d7, d8⟩ := B1.out.nine
    by_cases hjl : j < el
    · obtain ⟨t, b, o, -, -, rfl, q0, q1, q2⟩ := TK1.out.at3 hjl
      have hz1 : (j : Int) < (el : Int) := by omega
      by_cases h100 : 100 < t.text.size
      · have hz2 : (100 : Int) < (t.text.size : Int) := by omega
        clear h100
        go_wp2_with (go_at_call 21; refine (KA.out _ Y1.out).mono ?_; rintro e w7 ⟨rfl, x7⟩)
        go_ret
        exact ⟨rfl, Y1.out.trans x7⟩
      · have hz2 : ¬ (100 : Int) < (t.text.size : Int) := by omega
        clear h100
        go_wp2_with fail
        go_roundg (el - (j + 1))
        case rel => exact ⟨j + 1, rfl, by go_num, by omega, rfl⟩
        case measure => omega
    · obtain rfl : j = el := by omega
      have hz1 : ¬ (j : Int) < (j : Int) := by omega
      have KEND : True := trivial
      cases pm with
      | false =>
        have hsp := HSP0.out rfl
        rw [hsp] at KS
        simp only at KS
        clear hsp KW HB HSL KR KE HSP1 HSP0
        go_upto_region 9 with (go_at_call 26; refine (KS.out _ Y1.out).mono ?_; rintro e w2 ⟨rfl, x2⟩)
        clear d0 d1 d2 d3 d4 d5 d6 d7 d8
        obtain ⟨d0, d1, d2, d3, d4, d5, d6, d7, d8⟩ := (B1.out.ext x2).nine
        go_wp2_with (first | (go_at_call 27; refine (KM.out _ (Y1.out.trans x2)).mono ?_; rintro e w3 ⟨rfl, x3⟩) | (go_at_call 21; refine (KA.out _ (Y1.out.trans (x2.trans x3))).mono ?_; rintro e w7 ⟨rfl, x7⟩))
        go_ret
        exact ⟨rfl, Y1.out.trans (x2.trans (x3.trans x7))⟩
      | true =>
        have hsp := HSP1.out rfl
        rw [hsp] at KS
        simp only at KS
        replace KW := hid (KW.out rfl)
        have hsl := HSL.out rfl
        have hbk := HB.out rfl
        replace KR : Hid (∀ W, Calls Tryz.prog 16 #[.slice (some ⟨W.heap.size, 0, none⟩) (bs J).size (grownCap W (bs J).size 0 5)] (Lib.bytesWorld W 5 (bs J)) fun e w' => Ext W w' ∧ RetProg W (progR J) e w') := hid fun W => by
          have y0 : Ext W (Lib.bytesWorld W 5 (bs J)) := Lib.bytesWorld_below W 5 (bs J)
          refine (KR.out _ _ _ _ (grownCap_ge _ _ _ _) (grownCap_le_maxLen _ _ _ _ (by unfold maxLen; omega)) (IsBytes.world W 5 J)).mono fun e w' hh => ?_
          exact ⟨y0.trans hh.1, y0.trans hh.1, hh.2⟩
        have HSL := hid hsl
        have HBK := hid hbk
        have kcv := fun (w : World) (s : ByteArray) => Lib.run_convert_string_bytes (P := Tryz.prog) w 9 22 5 s Tryz.underlying9 Tryz.underlying22 Tryz.underlying5
        generalize progR J = r at *
        generalize bs J = S at *
        clear hsp HB HSP1 HSP0 hsl hbk
        go_upto_region 9 with (go_at_call 26; refine (KS.out _ Y1.out).mono ?_; rintro e w2 ⟨rfl, x2⟩)
        clear d0 d1 d2 d3 d4 d5 d6 d7 d8
        have Y2 := hid (Y1.out.trans x2)
        have B2 := hid (B1.out.ext x2)
        clear x2
        obtain ⟨d0, d1, d2, d3, d4, d5, d6, d7, d8⟩ := B2.out.nine
        go_upto_region 11 with (go_at_call 27; refine (KM.out _ Y2.out).mono ?_; rintro e w3 ⟨rfl, x3⟩)
        clear d0 d1 d2 d3 d4 d5 d6 d7 d8
        have Y3 := hid (Y2.out.trans x3)
        have B3 := hid (B2.out.ext x3)
        clear x3
        obtain ⟨d0, d1, d2, d3, d4, d5, d6, d7, d8⟩ := B3.out.nine
        go_upto_region 13 with (go_at_call 28; refine (KW.out _ Y3.out).mono ?_; rintro e w4 ⟨rfl, x4⟩)
        clear d0 d1 d2 d3 d4 d5 d6 d7 d8
        have Y4 := hid (Y3.out.trans x4)
        have B4 := hid (B3.out.ext x4)
        have K5 := hid (KR.out w4)
        clear x4
        have hr3 : (∃ p, r = .error (p, 3)) ∨ ∃ es' t', r = .ok (es', t') ∧ t'.same (.mk x ks) = true := by
          rcases HBK.out with ⟨-, h⟩ | ⟨-, h⟩ | ⟨es', t', h, h2, -⟩
          · exact .inl h
          · exact .inl h
          · exact .inr ⟨es', t', h, h2⟩
        rcases hr3 with ⟨p, rfl⟩ | ⟨es', ⟨x', ks'⟩, rfl, hsm⟩
        · go_wp2_with (first | (go_at_call 16; refine (K5.out).mono ?_; rintro e w5 ⟨x5, -, rfl⟩) | (go_at_call 21; refine (KA.out _ (Y4.out.trans (x5.trans (by (exact eX))))).mono ?_; rintro e w7 ⟨rfl, x7⟩))
          go_ret
          exact ⟨rfl, Y4.out.trans (x5.trans (by (exact eX)))⟩
        · have KE := hid (fun W v v' h h' => by have := KE.out (.mk x' ks') W v v' h h'; rw [hsm] at this; exact this)
          have K5 : Hid (Calls Tryz.prog 16 #[.slice (some ⟨w4.heap.size, 0, none⟩) S.size (grownCap w4 S.size 0 5)] (Lib.bytesWorld w4 5 S) fun e w' => ∃ ea m ec a n c, e = .returned (.tuple #[.agg #[.slice ea m ec, .int .u8 x'.k, .int .u8 x'.op, .int .i64 x'.pos, .int .i64 x'.n, .string x'.name, .string x'.arg, .string x'.exn, .slice a n c], .int .i64 0, .int .i64 0]) ∧ IsTm w' (.mk x' ks') (.agg #[.int .u8 x'.k, .int .u8 x'.op, .int .i64 x'.pos, .int .i64 x'.n, .string x'.name, .string x'.arg, .string x'.exn, .slice a n c]) ∧ Ext w4 w') := hid (K5.out.mono fun e w' hh => by
            obtain ⟨hx, -, v, he, hv⟩ := hh
            obtain ⟨ea, ec, a, n, c, rfl, -, k3⟩ := isPg_open hv
            exact ⟨ea, _, ec, a, n, c, he, k3, hx⟩)
          clear hsm
          go_upto_region 14 with (go_at_call 16; refine (K5.out).mono ?_; rintro e w5 ⟨ea5, m5, ec5, a5, n5, c5, rfl, hT5, x5⟩)
          have X5 : Ext w5 (w5.alloc (.cells #[.slice ea5 m5 ec5, .int .u8 x'.k, .int .u8 x'.op, .int .i64 x'.pos, .int .i64 x'.n, .string x'.name, .string x'.arg, .string x'.exn, .slice a5 n5 c5] 41)) := (Ext.refl _).alloc _
          have B5 := hid (Blk.new w5 41 #[.slice ea5 m5 ec5, .int .u8 x'.k, .int .u8 x'.op, .int .i64 x'.pos, .int .i64 x'.n, .string x'.name, .string x'.arg, .string x'.exn, .slice a5 n5 c5])
          have B5' := hid (B4.out.ext (x5.trans X5))
          have Y5 := hid (Y4.out.trans (x5.trans X5))
          have K6 := hid (KE.out _ _ _ (hT5.ext X5) (HTM.out.ext Y5.out))
          clear hT5 x5 X5
          generalize w5.alloc (.cells #[.slice ea5 m5 ec5, .int .u8 x'.k, .int .u8 x'.op, .int .i64 x'.pos, .int .i64 x'.n, .string x'.name, .string x'.arg, .string x'.exn, .slice a5 n5 c5] 41) = W5 at *
          obtain ⟨d0, d1, d2, d3, d4, d5, d6, d7, d8⟩ := B5.out.nine
          obtain ⟨f0, f1, f2, f3, f4, f5, f6, f7, f8⟩ := B5'.out.nine
          go_wp2_with (first | (go_at_call 25; refine (K6.out).mono ?_; rintro e w6 ⟨rfl, x6⟩) | (go_at_call 21; refine (KA.out _ (Y5.out.trans x6)).mono ?_; rintro e w7 ⟨rfl, x7⟩))
          go_ret
          exact ⟨rfl, Y5.out.trans (x6.trans x7)⟩
end Go.Proofs.YtaioeailgknfjaaGreatDoor

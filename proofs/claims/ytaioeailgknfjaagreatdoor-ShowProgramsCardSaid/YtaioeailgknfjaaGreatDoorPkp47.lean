/- Part 47 of the proof: Ref05h, Ref05i, Ref05j, Ref05k; no condition of ours. -/
import Derived.Test.YtaioeailgknfjaaGreatDoorPkp46
set_option linter.unusedVariables false
set_option linter.unusedSimpArgs false
namespace Go.Proofs.YtaioeailgknfjaaGreatDoor
open Go.Lib (hid)
open Go Go.RowKit Go.Sort
theorem blk4 {w w1 : World} {cs1 cs2 cs3 cs4 : Array Value} {T1 T2 T3 T4 : TypeId} (x : Ext ((((w.alloc (.cells cs1 T1)).alloc (.cells cs2 T2)).alloc (.cells cs3 T3)).alloc (.cells cs4 T4)) w1) : Blk w1 w.heap.size T1 cs1 ∧ Blk w1 (w.heap.size + 1) T2 cs2 ∧ Blk w1 (w.heap.size + 1 + 1) T3 cs3 ∧ Blk w1 (w.heap.size + 1 + 1 + 1) T4 cs4 := by
  obtain ⟨h1, h2, h3⟩ := blk3 (Ext.trans ((Ext.refl _).alloc _) x)
  refine ⟨h1, h2, h3, ?_⟩
  have h := Blk.new (((w.alloc (.cells cs1 T1)).alloc (.cells cs2 T2)).alloc (.cells cs3 T3)) T4 cs4
  rw [World.size_alloc, World.size_alloc, World.size_alloc] at h
  exact h.ext x
set_option maxRecDepth 60000 in
set_option maxHeartbeats 4000000 in
theorem ref5_level4 (f : Nat) (hA : DoesS 95 #[] (.lvl 4) f) : DoesS 72 #[.int .i64 4] (.lvl 4) f := by
  intro L a n c i l r w hL hAt he hp
  have K := hid fun W (h : Ext w W) => hA L a n c i l r W (hL.ext h) hAt he hp
  simp only [Array.append_empty] at K
  clear hA hL hAt he hp
  have e1 : (#[.agg #[.slice a n c, .int .i64 (i : Nat), .bool false]] ++ #[.int .i64 4] : Array Value) = #[.agg #[.slice a n c, .int .i64 (i : Nat), .bool false], .int .i64 4] := rfl
  rw [e1]
  clear e1
  go_enter Tryz.func72, Tryz.ntmps72
  go_upto_region 3 with (go_at_call 95; refine (K.out _ (by (exact eX))).mono ?_; rintro e w1 ⟨x1, i1, bad1, y, ak, nk, ck, rfl, hs1, hT1⟩; obtain ⟨-, hZ1, hZ2⟩ := blk3 x1; obtain ⟨z0, z1, z2, z3, z4, z5, z6, z7⟩ := hZ2.eight; obtain ⟨g0, g1, g2, g3, g4, g5, g6, g7⟩ := hZ2.frozen8; have v0 := hZ1.cell 0; have v1 := hZ1.cell 1; have v2 := hZ1.cell 2; simp at v0 v1 v2; have v3 := hZ1.frozen 0; have v4 := hZ1.frozen 1; have v5 := hZ1.frozen 2; have lv := hZ1.lt; have lz := hZ2.lt)
  have y1 : Ext w w1 := by (exact eX)
  have ne2 : w.heap.size + 1 + 1 ≠ w.heap.size + 1 := by omega
  have B1 : SBlk (w8s (w3s w1 (w.heap.size + 1) a n c i1 bad1) (w.heap.size + 1 + 1) y ak nk ck) (w.heap.size + 1) a n c i1 bad1 := Blk.extx (Blk.lay3 hZ1) w8s_x (by show ¬ w.heap.size + 1 = w.heap.size + 1 + 1; omega)
  have B2 := (Blk.extx hZ2 (w3s_x (a := a) (n := n) (c := c) (i := i1) (bad := bad1)) (show ¬ w.heap.size + 1 + 1 = w.heap.size + 1 by omega)).lay8 (u0 := .int .u8 y.k) (u1 := .int .u8 y.op) (u2 := .int .i64 y.pos) (u3 := .int .i64 y.n) (u4 := .string y.name) (u5 := .string y.arg) (u6 := .string y.exn) (u7 := .slice ak nk ck)
  have X9 : ExtX (fun b => b = w.heap.size + 1 ∨ b = w.heap.size + 1 + 1) w1 (w8s (w3s w1 (w.heap.size + 1) a n c i1 bad1) (w.heap.size + 1 + 1) y ak nk ck) := (w3s_x.mono fun b e => .inl e).trans (w8s_x.mono fun b e => .inr e)
  obtain ⟨r0, r1, r2, -⟩ := SBlk.open_ B1
  obtain ⟨r3, r4, r5, r6, r7, r8, r9, ra⟩ := B2.eight
  have HR9 : Hid (RetE L a n c w r (.returned (.tuple #[.agg #[.slice a n c, .int .i64 (i1 : Nat), .bool bad1], .agg #[.int .u8 y.k, .int .u8 y.op, .int .i64 y.pos, .int .i64 y.n, .string y.name, .string y.arg, .string y.exn, .slice ak nk ck]])) (w8s (w3s w1 (w.heap.size + 1) a n c i1 bad1) (w.heap.size + 1 + 1) y ak nk ck)) := hid ⟨ExtX.ext y1 X9 (fun b e => by rcases e with e | e <;> omega), i1, bad1, y, ak, nk, ck, rfl, hs1, fun t l e => by
    obtain ⟨e1, e2, e3, e4, e5⟩ := hT1 t l e
    exact ⟨e1, e2, e3, e4, (e5.extx X9 (fun b e => by show b < _; simp; rcases e with e | e <;> omega)).move (fun b _ (hb : b < w.heap.size) => by show b < _; simp; omega) (fun _ _ _ hu => hu)⟩⟩
  unfold w8s w3s at r0 r1 r2 HR9
  unfold w3s at r3 r4 r5 r6 r7 r8 r9 ra
  clear B1 B2 X9 hs1 hT1 x1 y1
  repeat (first | go_values | go_skip | go_guarded | go_step | go_upon)
  exact bodyPost_ret (v := .tuple #[.agg #[.slice a n c, .int .i64 (i1 : Nat), .bool bad1], .agg #[.int .u8 y.k, .int .u8 y.op, .int .i64 y.pos, .int .i64 y.n, .string y.name, .string y.arg, .string y.exn, .slice ak nk ck]]) (by simp [results, Tryz.results72, go_sem, r0, r1, r2, r3, r4, r5, r6, r7, r8, r9, ra]) rfl HR9.out
def kindsU : List ByteArray := [w_fst, w_snd, w_ref, s_bang]
theorem pre_idx {j : Nat} {x : ByteArray} (h : kindsU[j]? = some x) : preK x = 4 + (j : Int) ∧ j < 4 ∧ x ≠ ByteArray.empty := by
  match j, h with
  | 0, h => cases h; exact ⟨by decide +kernel, by omega, by decide +kernel⟩
  | 1, h => cases h; exact ⟨by decide +kernel, by omega, by decide +kernel⟩
  | 2, h => cases h; exact ⟨by decide +kernel, by omega, by decide +kernel⟩
  | 3, h => cases h; exact ⟨by decide +kernel, by omega, by decide +kernel⟩
  | j + 4, h => simp [kindsU] at h
theorem isT_kindsU (l : List Tk) : isT [s_bang, w_ref, w_fst, w_snd] l = true ↔ txS l ∈ kindsU := by
  rw [← txS_is (by decide +kernel) l, inB_iff]
  simp only [kindsU, List.mem_cons, List.not_mem_nil, or_false]
  constructor
  · rintro (h | h | h | h) <;> simp [h]
  · rintro (h | h | h | h) <;> simp [h]
theorem unary_pre {f : Nat} {l : List Tk} {r : Res Tm} (hi : isT [s_bang, w_ref, w_fst, w_snd] l = true) (h : parseF (f + 1) .unary l = some r) :
    ∃ r1, parseF f .unary l.tail = some r1 ∧ (∀ l', r1 = .error l' → r = .error l') ∧ ∀ tb l2, r1 = .ok (tb, l2) → r = .ok (.mk (hd0 (preK (textT l)) (posT l)) [tb], l2) := by
  unfold parseF at h
  rw [if_pos hi] at h
  cases hu : parseF f .unary l.tail with
  | none => rw [hu] at h; cases h
  | some r1 =>
    rw [hu] at h
    refine ⟨r1, rfl, ?_, ?_⟩
    · rintro l' rfl
      exact (Option.some.inj h).symm
    · rintro tb l2 rfl
      exact (Option.some.inj h).symm
theorem unary_num {f : Nat} {l : List Tk} {r : Res Tm} (h1 : isT [s_bang, w_ref, w_fst, w_snd] l = false) (h2 : isT [w_raise] l = false) (hk : kindT l = 1) (h : parseF (f + 1) .unary l = some r) : r = .ok (.mk { hd0 1 (posT l) with n := numV (textT l) } [], l.tail) := by
  unfold parseF at h
  rw [if_neg (by rw [h1]; simp), if_neg (by rw [h2]; simp), if_pos hk] at h
  exact (Option.some.inj h).symm
theorem unary_var2 {f : Nat} {l : List Tk} {r : Res Tm} (h1 : isT [s_bang, w_ref, w_fst, w_snd] l = false) (h2 : isT [w_raise] l = false) (hk : kindT l = 2) (h : parseF (f + 1) .unary l = some r) : r = .ok (.mk { hd0 2 (posT l) with name := textT l } [], l.tail) := by
  unfold parseF at h
  rw [if_neg (by rw [h1]; simp), if_neg (by rw [h2]; simp), if_neg (by omega), if_pos hk] at h
  exact (Option.some.inj h).symm
theorem ExtX.onto5 {A A' : Nat → Prop} {w w' w'' : World} (h : ExtX A w w') (k : ExtX A' w' w'') (hA : ∀ b, A' b → A b ∨ w.heap.size ≤ b) : ExtX A w w'' :=
  ⟨k.os.trans h.os, k.tape.trans h.tape, k.output.trans h.output, Nat.le_trans h.size k.size, fun i hi ha => (k.block i (Nat.lt_of_lt_of_le hi h.size) (fun e => by rcases hA i e with g | g; exact ha g; omega)).trans (h.block i hi ha)⟩
theorem unary_raise {f : Nat} {l : List Tk} {r : Res Tm} (h1 : isT [s_bang, w_ref, w_fst, w_snd] l = false) (h2 : isT [w_raise] l = true) (h : parseF (f + 1) .unary l = some r) :
    ∃ r1 : Res Tm, (∀ x l1, getK 3 l.tail = .ok (x, l1) → parseF f .unary l1 = some r1) ∧ (∀ l1, getK 3 l.tail = .error l1 → r1 = .error l1) ∧ (∀ l2, r1 = .error l2 → r = .error l2) ∧ ∀ a l2, r1 = .ok (a, l2) → ∃ x l1, getK 3 l.tail = .ok (x, l1) ∧ r = .ok (.mk { hd0 15 (posT l) with exn := x } [a], l2) := by
  unfold parseF at h
  rw [if_neg (by rw [h1]; simp), if_pos h2] at h
  cases hg : getK 3 l.tail with
  | error l1 =>
    rw [hg] at h
    have h : some (.error l1) = some r := h
    cases h
    exact ⟨.error l1, fun x l' h => (by cases h), fun l' h => (by cases h; rfl), fun l2 h => (by cases h; rfl), fun a l2 h => (by cases h)⟩
  | ok p =>
    obtain ⟨x, l1⟩ := p
    rw [hg] at h
    have h : andThen (parseF f .unary l1) (fun a l2 => some (.ok (.mk { hd0 15 (posT l) with exn := x } [a], l2))) = some r := h
    cases hu : parseF f .unary l1 with
    | none => rw [hu] at h; cases h
    | some r1 =>
      rw [hu] at h
      refine ⟨r1, fun x' l' h' => by cases h'; exact hu, fun l' h' => (by cases h'), ?_, ?_⟩
      · rintro l2 rfl
        exact (Option.some.inj h).symm
      · rintro a l2 rfl
        exact ⟨x, l1, rfl, (Option.some.inj h).symm⟩
theorem unary_open {f : Nat} {l : List Tk} {r : Res Tm} (h1 : isT [s_bang, w_ref, w_fst, w_snd] l = false) (h2 : isT [w_raise] l = false) (k1 : ¬ kindT l = 1) (k2 : ¬ kindT l = 2) (h : parseF (f + 1) .unary l = some r) :
    ∃ r1 : Res Tm, (∀ u l1, getW s_open l = .ok (u, l1) → parseF f .expr l1 = some r1) ∧ (∀ l1, getW s_open l = .error l1 → r1 = .error l1) ∧ (∀ l2, r1 = .error l2 → r = .error l2) ∧
      (∀ a l2, r1 = .ok (a, l2) → isT [s_comma] l2 = false → (∀ l3, getW s_shut l2 = .error l3 → r = .error l3) ∧ ∀ u l3, getW s_shut l2 = .ok (u, l3) → r = .ok (a, l3)) ∧
      (∀ a l2, r1 = .ok (a, l2) → isT [s_comma] l2 = true → ∃ r2 : Res Tm, parseF f .expr l2.tail = some r2 ∧ (∀ l3, r2 = .error l3 → r = .error l3) ∧ ∀ b l3, r2 = .ok (b, l3) → (∀ l4, getW s_shut l3 = .error l4 → r = .error l4) ∧ ∀ u l4, getW s_shut l3 = .ok (u, l4) → r = .ok (.mk (hd0 3 (posT l)) [a, b], l4)) := by
  unfold parseF at h
  rw [if_neg (by rw [h1]; simp), if_neg (by rw [h2]; simp), if_neg k1, if_neg k2] at h
  cases hg : getW s_open l with
  | error l1 =>
    rw [hg] at h
    have h : some (.error l1) = some r := h
    cases h
    exact ⟨.error l1, fun u l' h => (by cases h), fun l' h => (by cases h; rfl), fun l2 h => (by cases h; rfl), fun a l2 h => (by cases h), fun a l2 h => (by cases h)⟩
  | ok p =>
    obtain ⟨u, l1⟩ := p
    rw [hg, andThen_ok] at h
    cases hu : parseF f .expr l1 with
    | none => rw [hu] at h; cases h
    | some r1 =>
      rw [hu] at h
      cases r1 with
      | error l2 =>
        have h : some (.error l2) = some r := h
        cases h
        exact ⟨.error l2, fun u' l' h' => (by cases h'; exact hu), fun l' h' => (by cases h'), fun l3 h => (by cases h; rfl), fun a l3 h => (by cases h), fun a l3 h => (by cases h)⟩
      | ok q =>
        obtain ⟨a, l2⟩ := q
        rw [andThen_ok] at h
        refine ⟨.ok (a, l2), fun u' l' h' => (by cases h'; exact hu), fun l' h' => (by cases h'), fun l3 h => (by cases h), ?_, ?_⟩
        · intro a' l2' e hc
          cases e
          rw [if_neg (by rw [hc]; simp)] at h
          refine ⟨fun l3 e => ?_, fun u3 l3 e => ?_⟩
          · rw [e] at h
            exact (Option.some.inj h).symm
          · rw [e] at h
            exact (Option.some.inj h).symm
        · intro a' l2' e hc
          cases e
          rw [if_pos hc] at h
          cases hv : parseF f .expr l2.tail with
          | none => rw [hv] at h; cases h
          | some r2 =>
            rw [hv] at h
            refine ⟨r2, rfl, ?_, ?_⟩
            · rintro l3 rfl
              exact (Option.some.inj h).symm
            · rintro b l3 rfl
              rw [andThen_ok] at h
              refine ⟨fun l4 e => ?_, fun u4 l4 e => ?_⟩
              · rw [e] at h
                exact (Option.some.inj h).symm
              · rw [e] at h
                exact (Option.some.inj h).symm
theorem isT_raise (l : List Tk) : isT [w_raise] l = true ↔ txS l = w_raise := by
  rw [← txS_is (by decide +kernel) l, inB_iff]
  simp
theorem tail2 {w6 : World} {s : Nat} {a ak : Option Addr} {n c i nk ck : Nat} {bad : Bool} {H : Hd} {c0 c1 c2 u0 u1 u2 u3 u4 u5 u6 u7 : Value} (Z1 : Blk w6 (s + 1) 71 #[c0, c1, c2]) (Z2 : Blk w6 (s + 1 + 1) 28 #[u0, u1, u2, u3, u4, u5, u6, u7]) :
    SBlk (w8s (w3s w6 (s + 1) a n c i bad) (s + 1 + 1) H ak nk ck) (s + 1) a n c i bad ∧ Blk (w8s (w3s w6 (s + 1) a n c i bad) (s + 1 + 1) H ak nk ck) (s + 1 + 1) 28 #[.int .u8 H.k, .int .u8 H.op, .int .i64 H.pos, .int .i64 H.n, .string H.name, .string H.arg, .string H.exn, .slice ak nk ck] ∧
    ExtX (fun b => b = s + 1 ∨ b = s + 1 + 1) w6 (w8s (w3s w6 (s + 1) a n c i bad) (s + 1 + 1) H ak nk ck) :=
  ⟨Blk.extx (Blk.lay3 Z1) w8s_x (by show ¬ s + 1 = s + 1 + 1; omega), (Blk.extx Z2 w3s_x (by show ¬ s + 1 + 1 = s + 1; omega)).lay8, (w3s_x.mono fun b e => .inl e).trans (w8s_x.mono fun b e => .inr e)⟩
set_option maxRecDepth 60000 in
set_option maxHeartbeats 16000000 in
theorem ref5_unary (f : Nat) (hU : DoesS 119 #[] .unary f) (hE : DoesS 44 #[] .expr f) : DoesS 119 #[] .unary (f + 1) := by
  intro L a n c i l r w hL hA he hp
  obtain ⟨tk, l', b, o, rfl, rfl, htf, q0, q1, q2, hnx⟩ := hA.tok hL
  have hlb := World.block_lt_of_cell? _ _ q0
  have hz : (i : Int) < (n : Int) := by have := hA.2; omega
  have mm0 := fun (A B C : Obj) => ((((Ext.refl w).alloc A).alloc B).alloc C).cell q0
  have mm1 := fun (A B C : Obj) => ((((Ext.refl w).alloc A).alloc B).alloc C).cell q1
  have mm2 := fun (A B C : Obj) => ((((Ext.refl w).alloc A).alloc B).alloc C).cell q2
  have HL := hid hL
  have HA := hid hA
  have HEE := hid he
  have HU := hid hU
  have HEX := hid hE
  have HP := hid hp
  have HNX := hid hnx
  have HTF := hid htf
  have KX := hid fun W (h : Ext w W) => ref5_text L (some ⟨b, o, none⟩) n c i false (tk :: l') W (hL.ext h) hA
  have hnc := hL.le
  have hcM := hL.cap
  have hin := hA.2
  clear hL hA he hp hU hE hnx htf
  simp only [Array.append_empty]
  go_enter Tryz.func119, Tryz.ntmps119
  go_upto_region 6 with (go_at_call 41; refine (KX.out _ (by (exact eX))).mono ?_; rintro e w1 ⟨rfl, x1⟩)
  obtain ⟨hS1, hZ1, hZ2, hK1⟩ := blk4 x1
  have y1 : Ext w w1 := by (exact eX)
  have hrow := IsRow.new w1 9 (vstr kindsU)
  have y2 := y1.alloc (.cells (vstr kindsU).toArray 9)
  have S2 := hS1.alloc (.cells (vstr kindsU).toArray 9)
  have Z1 := hZ1.alloc (.cells (vstr kindsU).toArray 9)
  have Z2 := hZ2.alloc (.cells (vstr kindsU).toArray 9)
  have K2 := hK1.alloc (.cells (vstr kindsU).toArray 9)
  have hlt1 := hK1.lt
  have ea : (vstr kindsU).toArray = #[.string ⟨#[102, 115, 116]⟩, .string ⟨#[115, 110, 100]⟩, .string ⟨#[114, 101, 102]⟩, .string ⟨#[33]⟩] := rfl
  rw [ea] at hrow y2 S2 Z1 Z2 K2
  generalize w1.alloc (.cells #[.string ⟨#[102, 115, 116]⟩, .string ⟨#[115, 110, 100]⟩, .string ⟨#[114, 101, 102]⟩, .string ⟨#[33]⟩] 9) = W0 at *
  generalize w1.heap.size = b5 at *
  have HROW := hid hrow
  have HY0 := hid y2
  have HS0 : Hid (SBlk W0 w.heap.size (some ⟨b, o, none⟩) n c i false) := hid S2
  have HZ1 := hid Z1
  have HZ2 := hid Z2
  have HK0 := hid K2
  have hz0 := Below.size y2
  have hzk := K2.lt
  clear x1 y1 hrow y2 S2 Z1 Z2 K2 hS1 hZ1 hZ2 hK1 ea w1
  obtain ⟨tx, htx⟩ : ∃ tx, tx = txS (tk :: l') := ⟨_, rfl⟩
  rw [← htx]
  have HTX := hid htx
  clear htx
  go_wp2_with fail
  go_loopg [33] 4 (fun g ix wr => ∃ j : Nat, g = 4 - j ∧ ix = .int .i64 j ∧ j ≤ 4 ∧ (∀ y, y ∈ kindsU.take j → y ≠ tx) ∧ wr = W0)
  case atStart => exact ⟨0, rfl, rfl, by omega, by simp, rfl⟩
  case round =>
    obtain ⟨j, rfl, rfl, hj, hno, rfl⟩ := hrel
    have HNO := hid hno
    clear hno
    by_cases hlt : j < 4
    · obtain ⟨x, bb, oo, g, eb, qx⟩ := HROW.out.str (j := j) hlt
      cases eb
      rw [Nat.zero_add] at qx
      have hz4 : (j : Int) < 4 := by omega
      by_cases hq : x = tx
      · subst hq
        obtain ⟨hpk, -, -⟩ := pre_idx g
        have hi : isT [s_bang, w_ref, w_fst, w_snd] (tk :: l') = true := (isT_kindsU _).2 (by rw [← HTX.out]; exact List.mem_of_getElem? g)
        obtain ⟨r1, hr1, her1, hok1⟩ := unary_pre hi HP.out
        have htt := isT_tx hi
        rw [htt, ← HTX.out, hpk] at hok1
        obtain ⟨hE2, hlen2⟩ := HEE.out.is_ hi
        have hE2 : Ended l' := hE2
        have hne : l' ≠ [] := by intro h; rw [h] at hE2; exact hE2
        have hA2 := HNX.out hne
        have hi2 := hA2.2
        have KU : Hid (∀ W, Ext w W → Calls Tryz.prog 119 #[.agg #[.slice (some ⟨b, o, none⟩) n c, .int .i64 ((i : Int) + 1), .bool false]] W (RetE L (some ⟨b, o, none⟩) n c W r1)) := hid fun W h => HU.out L (some ⟨b, o, none⟩) n c (i + 1) l' r1 W (HL.out.ext h) hA2 hE2 hr1
        have hwi : IntKind.i64.wrap ((i : Int) + 1) = (i : Int) + 1 := IntWalk.i64_in _ ⟨by omega, by omega⟩
        have hwj : IntKind.i64.wrap (4 + (j : Int)) = 4 + (j : Int) := IntWalk.i64_in _ ⟨by omega, by omega⟩
        have hwu : IntKind.u8.wrap (4 + (j : Int)) = 4 + (j : Int) := u8_in _ (by omega) (by omega)
        have HER1 := hid her1
        have HOK1 := hid hok1
        have HHI := hid hi
        obtain ⟨p0, p1, p2, f0, f1, f2, l0⟩ := SBlk.open_ HS0.out
        clear hi hr1 her1 hok1 hE2 hne hA2 g htt
        go_upto_region 12 with (go_at_call 119; refine (KU.out _ (Ext.setCell HY0.out (by simp) _)).mono ?_; rintro e w3 ⟨x3, i3, bad3, z, az, nz, cz, rfl, hs3, hT3⟩)
        have XN : ExtX (· = w.heap.size) wr (wr.setCell ⟨w.heap.size, 1, none⟩ (.int .i64 ((i : Int) + 1))) := (ExtX.refl (A := (· = w.heap.size)) wr).setCell (p := ⟨w.heap.size, 1, none⟩) (.inl rfl) _
        have hs3z := (XN.then_ x3).size
        have XR := ((XN.then_ x3).alloc (.cells #[.slice (some ⟨b, o, none⟩) n c, .int .i64 (i3 : Nat), .bool bad3] 71)).alloc (.cells #[.int .u8 z.k, .int .u8 z.op, .int .i64 z.pos, .int .i64 z.n, .string z.name, .string z.arg, .string z.exn, .slice az nz cz] 28)
        have V4 : SBlk ((w3.alloc (.cells #[.slice (some ⟨b, o, none⟩) n c, .int .i64 (i3 : Nat), .bool bad3] 71)).alloc (.cells #[.int .u8 z.k, .int .u8 z.op, .int .i64 z.pos, .int .i64 z.n, .string z.name, .string z.arg, .string z.exn, .slice az nz cz] 28)) w3.heap.size (some ⟨b, o, none⟩) n c i3 bad3 := (Blk.new w3 71 #[.slice (some ⟨b, o, none⟩) n c, .int .i64 (i3 : Nat), .bool bad3]).alloc _
        have U4 := Blk.new (w3.alloc (.cells #[.slice (some ⟨b, o, none⟩) n c, .int .i64 (i3 : Nat), .bool bad3] 71)) 28 #[.int .u8 z.k, .int .u8 z.op, .int .i64 z.pos, .int .i64 z.n, .string z.name, .string z.arg, .string z.exn, .slice az nz cz]
        rw [World.size_alloc] at U4
        have HT4 : Hid (∀ tb l2, r1 = .ok (tb, l2) → tb.head = z ∧ z.Fits ∧ nz ≤ cz ∧ cz ≤ 9223372036854775807 ∧ IsTmsA (fun b => b < w.heap.size + 1 + 1 + 1) ((w3.alloc (.cells #[.slice (some ⟨b, o, none⟩) n c, .int .i64 (i3 : Nat), .bool bad3] 71)).alloc (.cells #[.int .u8 z.k, .int .u8 z.op, .int .i64 z.pos, .int .i64 z.n, .string z.name, .string z.arg, .string z.exn, .slice az nz cz] 28)) tb.kids az nz) := hid fun tb l2 h => by
          obtain ⟨e1, e2, e3, e4, e5⟩ := hT3 tb l2 h
          have hxs := XN.size
          exact ⟨e1, e2, e3, e4, ((e5.ext ((Ext.refl _).alloc _)).ext ((Ext.refl _).alloc _)).move (fun b _ (hb : b < w.heap.size + 1 + 1 + 1) => by show b < (wr.setCell ⟨w.heap.size, 1, none⟩ (.int .i64 ((i : Int) + 1))).heap.size; omega) (fun _ _ _ hu => hu)⟩
        generalize ((w3.alloc (.cells #[.slice (some ⟨b, o, none⟩) n c, .int .i64 (i3 : Nat), .bool bad3] 71)).alloc (.cells #[.int .u8 z.k, .int .u8 z.op, .int .i64 z.pos, .int .i64 z.n, .string z.name, .string z.arg, .string z.exn, .slice az nz cz] 28)) = W4 at *
        have HZ14 := hid (Blk.extx HZ1.out XR (show ¬ w.heap.size + 1 = w.heap.size by omega))
        have HZ24 := hid (Blk.extx HZ2.out XR (show ¬ w.heap.size + 1 + 1 = w.heap.size by omega))
        have HK4 := Blk.extx HK0.out XR (show ¬ w.heap.size + 1 + 1 + 1 = w.heap.size by omega)
        have HY4 := hid (ExtX.ext HY0.out XR (fun b (e : b = w.heap.size) => by omega))
        have vk := HK4.cell 2
        simp at vk
        obtain ⟨vs0, vs1, vs2, -, -, -, lvs⟩ := SBlk.open_ V4
        obtain ⟨d0, d1, d2, d3, d4, d5, d6, d7⟩ := U4.eight
        have HS3 := hid hs3
        have hz4' := XR.size
        have hz34 : w3.heap.size < W4.heap.size := lvs
        have nS0 := fun W (h : ExtX (fun b => b = w.heap.size + 1 ∨ b = w.heap.size + 1 + 1) W4 W) => h.cell (p := ⟨w3.heap.size, 0, none⟩) (show ¬ (w3.heap.size = w.heap.size + 1 ∨ w3.heap.size = w.heap.size + 1 + 1) by omega) vs0
        have nS1 := fun W (h : ExtX (fun b => b = w.heap.size + 1 ∨ b = w.heap.size + 1 + 1) W4 W) => h.cell (p := ⟨w3.heap.size, 1, none⟩) (show ¬ (w3.heap.size = w.heap.size + 1 ∨ w3.heap.size = w.heap.size + 1 + 1) by omega) vs1
        have nS2 := fun W (h : ExtX (fun b => b = w.heap.size + 1 ∨ b = w.heap.size + 1 + 1) W4 W) => h.cell (p := ⟨w3.heap.size, 2, none⟩) (show ¬ (w3.heap.size = w.heap.size + 1 ∨ w3.heap.size = w.heap.size + 1 + 1) by omega) vs2
        have nT0 := fun W (h : ExtX (fun b => b = w.heap.size + 1 ∨ b = w.heap.size + 1 + 1) W4 W) => h.cell (p := ⟨w3.heap.size + 1, 0, none⟩) (show ¬ (w3.heap.size + 1 = w.heap.size + 1 ∨ w3.heap.size + 1 = w.heap.size + 1 + 1) by omega) d0
        have nT1 := fun W (h : ExtX (fun b => b = w.heap.size + 1 ∨ b = w.heap.size + 1 + 1) W4 W) => h.cell (p := ⟨w3.heap.size + 1, 1, none⟩) (show ¬ (w3.heap.size + 1 = w.heap.size + 1 ∨ w3.heap.size + 1 = w.heap.size + 1 + 1) by omega) d1
        have nT2 := fun W (h : ExtX (fun b => b = w.heap.size + 1 ∨ b = w.heap.size + 1 + 1) W4 W) => h.cell (p := ⟨w3.heap.size + 1, 2, none⟩) (show ¬ (w3.heap.size + 1 = w.heap.size + 1 ∨ w3.heap.size + 1 = w.heap.size + 1 + 1) by omega) d2
        have nT3 := fun W (h : ExtX (fun b => b = w.heap.size + 1 ∨ b = w.heap.size + 1 + 1) W4 W) => h.cell (p := ⟨w3.heap.size + 1, 3, none⟩) (show ¬ (w3.heap.size + 1 = w.heap.size + 1 ∨ w3.heap.size + 1 = w.heap.size + 1 + 1) by omega) d3
        have nT4 := fun W (h : ExtX (fun b => b = w.heap.size + 1 ∨ b = w.heap.size + 1 + 1) W4 W) => h.cell (p := ⟨w3.heap.size + 1, 4, none⟩) (show ¬ (w3.heap.size + 1 = w.heap.size + 1 ∨ w3.heap.size + 1 = w.heap.size + 1 + 1) by omega) d4
        have nT5 := fun W (h : ExtX (fun b => b = w.heap.size + 1 ∨ b = w.heap.size + 1 + 1) W4 W) => h.cell (p := ⟨w3.heap.size + 1, 5, none⟩) (show ¬ (w3.heap.size + 1 = w.heap.size + 1 ∨ w3.heap.size + 1 = w.heap.size + 1 + 1) by omega) d5
        have nT6 := fun W (h : ExtX (fun b => b = w.heap.size + 1 ∨ b = w.heap.size + 1 + 1) W4 W) => h.cell (p := ⟨w3.heap.size + 1, 6, none⟩) (show ¬ (w3.heap.size + 1 = w.heap.size + 1 ∨ w3.heap.size + 1 = w.heap.size + 1 + 1) by omega) d6
        have nT7 := fun W (h : ExtX (fun b => b = w.heap.size + 1 ∨ b = w.heap.size + 1 + 1) W4 W) => h.cell (p := ⟨w3.heap.size + 1, 7, none⟩) (show ¬ (w3.heap.size + 1 = w.heap.size + 1 ∨ w3.heap.size + 1 = w.heap.size + 1 + 1) by omega) d7
        have nK := fun W (h : ExtX (fun b => b = w.heap.size + 1 ∨ b = w.heap.size + 1 + 1) W4 W) => h.cell (p := ⟨w.heap.size + 1 + 1 + 1, 2, none⟩) (show ¬ (w.heap.size + 1 + 1 + 1 = w.heap.size + 1 ∨ w.heap.size + 1 + 1 + 1 = w.heap.size + 1 + 1) by omega) vk
        clear XN XR V4 U4 x3 hs3 hT3 HK4
        refine wp_region_held_drew (S := fun w' => ExtX (fun b => b = w.heap.size + 1 ∨ b = w.heap.size + 1 + 1) W4 w') (by kernel_rfl) (by (try dsimp only); (exact xX)) (fun hHeld => ?_)
        refine tL 0 ?_;try simp only [Act.put,pA,pB,pC]
        refine tL 1 ?_;try simp only [Act.put,pA,pB,pC]
        refine tL 2 ?_;try simp only [Act.put,pA,pB,pC]
        refine tL 3 ?_;try simp only [Act.put,pA,pB,pC]
        refine tL 4 ?_;try simp only [Act.put,pA,pB,pC]
        refine tL 5 ?_;try simp only [Act.put,pA,pB,pC]
        refine tL 6 ?_;try simp only [Act.put,pA,pB,pC]
        refine dK 7 fun K hK => ?_; go_simp; refine hK.out _ _ (by (try dsimp only); (exact xX)) (fun hHeld => ?_); clear hK K; try simp only [Act.put,pA,pB,pC]
        refine dK 8 fun K hK => ?_; go_simp; (first | (go_at_call 121; refine (ref5_term _ _ _ _ _ _).mono ?_; rintro e w6 ⟨rfl, x6⟩; have y6 : Ext W4 w6 := (by (exact eX) : Ext W4 _).trans x6; have hG6 : Blk w6 W4.heap.size 28 #[.int .u8 z.k, .int .u8 z.op, .int .i64 z.pos, .int .i64 z.n, .string z.name, .string z.arg, .string z.exn, .slice az nz cz] := (by first | exact (Blk.new W4 _ _).drew.ext x6 | exact (Blk.new W4.drew _ _).ext x6 | exact (Blk.new W4 _ _).ext x6); have Z16 := HZ14.out.ext y6; have Z26 := HZ24.out.ext y6; obtain ⟨z0, z1, z2, z3, z4, z5, z6, z7⟩ := Z26.eight; obtain ⟨g0, g1, g2, g3, g4, g5, g6, g7⟩ := Z26.frozen8; have v0 := Z16.cell 0; have v1 := Z16.cell 1; have v2 := Z16.cell 2; simp at v0 v1 v2; have v3 := Z16.frozen 0; have v4 := Z16.frozen 1; have v5 := Z16.frozen 2; have lv := Z16.lt; have lz := Z26.lt; have ne2 : w.heap.size + 1 + 1 ≠ w.heap.size + 1 := by omega)); (try (focus (go_wp2_with fail))); refine hK.out _ _ (by (try dsimp only); (exact xX)) (fun hHeld => ?_); clear hK K; try simp only [Act.put,pA,pB,pC]
        refine dK 9 fun K hK => ?_; go_simp; refine hK.out _ _ (by (try dsimp only); (exact xX)) (fun hHeld => ?_); clear hK K; try simp only [Act.put,pA,pB,pC]
        refine dK 10 fun K hK => ?_; go_simp; refine hK.out _ _ (by (try dsimp only); (exact xX)) (fun hHeld => ?_); clear hK K; try simp only [Act.put,pA,pB,pC]
        refine wpAnyH_done (by kernel_rfl) ?_ _
        all_goals
          obtain ⟨B1, B2, X9⟩ := tail2 (a := some ⟨b, o, none⟩) (n := n) (c := c) (i := i3) (bad := bad3) (H := ⟨4 + (j : Int), 0, tk.pos, 0, ⟨#[]⟩, ⟨#[]⟩, ⟨#[]⟩⟩) (ak := some ⟨W4.heap.size, 0, none⟩) (nk := 1) (ck := 1) Z16 Z26
          have HR9 : Hid (RetE L (some ⟨b, o, none⟩) n c w r (.returned (.tuple #[.agg #[.slice (some ⟨b, o, none⟩) n c, .int .i64 (i3 : Nat), .bool bad3], .agg #[.int .u8 (4 + (j : Int)), .int .u8 0, .int .i64 tk.pos, .int .i64 0, .string ⟨#[]⟩, .string ⟨#[]⟩, .string ⟨#[]⟩, .slice (some ⟨W4.heap.size, 0, none⟩) 1 1]])) (w8s (w3s w6 (w.heap.size + 1) (some ⟨b, o, none⟩) n c i3 bad3) (w.heap.size + 1 + 1) ⟨4 + (j : Int), 0, tk.pos, 0, ⟨#[]⟩, ⟨#[]⟩, ⟨#[]⟩⟩ (some ⟨W4.heap.size, 0, none⟩) 1 1)) := hid (by
            refine ⟨ExtX.ext (HY4.out.trans y6) X9 (fun b e => by rcases e with e | e <;> omega), i3, bad3, ⟨4 + (j : Int), 0, tk.pos, 0, ⟨#[]⟩, ⟨#[]⟩, ⟨#[]⟩⟩, some ⟨W4.heap.size, 0, none⟩, 1, 1, rfl, ?_, fun t' l'' e => ?_⟩
            · have hs := HS3.out
              cases r1 with
              | error l2 => rw [HER1.out l2 rfl]; exact hs
              | ok p2 => obtain ⟨tb, l2⟩ := p2; rw [HOK1.out tb l2 rfl]; exact hs
            · cases r1 with
              | error l2 => rw [HER1.out l2 rfl] at e; cases e
              | ok p2 =>
                obtain ⟨tb, l2⟩ := p2
                rw [HOK1.out tb l2 rfl] at e
                cases e
                obtain ⟨rfl, g2, g3, g4, g5⟩ := HT4.out tb _ rfl
                have hp := one_row (A := fun b => b < w.heap.size + 1 + 1 + 1) (g := W4.heap.size) y6 g3 g4 g2 g5 (by show ¬ W4.heap.size < _; omega) hG6
                have e1 : Tm.mk tb.head tb.kids = tb := by cases tb; rfl
                rw [e1] at hp
                have htf := HTF.out
                exact ⟨rfl, ⟨by show (0 : Int) ≤ 4 + j; omega, by show (4 : Int) + j ≤ 255; omega, by show (0 : Int) ≤ 0; omega, by show (0 : Int) ≤ 255; omega, htf.p0, htf.p1, by show (-9223372036854775808 : Int) ≤ 0; omega, by show (0 : Int) ≤ 9223372036854775807; omega, by show (0 : Nat) ≤ 9223372036854775807; omega, by show (0 : Nat) ≤ 9223372036854775807; omega, by show (0 : Nat) ≤ 9223372036854775807; omega⟩, Nat.le_refl _, by omega, (hp.extx X9 (fun b e => by show b < _; rcases e with e | e <;> omega)).move (fun b _ (hb : b < w.heap.size) => by show b < _; omega) (fun _ _ _ hu => hu)⟩)
          obtain ⟨r0, r1', r2, -⟩ := SBlk.open_ B1
          obtain ⟨r3, r4, r5, r6, r7, r8, r9, ra⟩ := B2.eight
          unfold w8s w3s at r0 r1' r2 r3 r4 r5 r6 r7 r8 r9 ra HR9
          clear B1 B2 X9 Z16 Z26 hG6 y6 x6
          repeat (first | go_values | go_skip | go_guarded | go_step | go_upon)
          exact bodyPost_ret (v := .tuple #[.agg #[.slice (some ⟨b, o, none⟩) n c, .int .i64 (i3 : Nat), .bool bad3], .agg #[.int .u8 (4 + (j : Int)), .int .u8 0, .int .i64 tk.pos, .int .i64 0, .string ⟨#[]⟩, .string ⟨#[]⟩, .string ⟨#[]⟩, .slice (some ⟨W4.heap.size, 0, none⟩) 1 1]]) (by simp [results, Tryz.results119, go_sem, r0, r1', r2, r3, r4, r5, r6, r7, r8, r9, ra]) rfl HR9.out
      · have hb : (x.toList == tx.toList) = false := ne_beq hq
        have HN2 : Hid (∀ y, y ∈ kindsU.take (j + 1) → y ≠ tx) := hid fun y hy => by
          rw [List.take_add_one, g] at hy
          rcases List.mem_append.1 hy with hy | hy
          · exact HNO.out y hy
          · simp at hy
            subst hy
            exact hq
        clear hq g
        go_wp2_with fail
        go_roundg (4 - (j + 1))
        case rel => exact ⟨j + 1, rfl, by go_num, by omega, HN2.out, rfl⟩
        case measure => omega
    · obtain rfl : j = 4 := by omega
      have hz4 : ¬ (4 : Int) < 4 := by omega
      have hnm : tx ∉ kindsU := fun h => HNO.out tx (by simpa [kindsU] using h) rfl
      have hnp : isT [s_bang, w_ref, w_fst, w_snd] (tk :: l') = false := by
        cases h : isT [s_bang, w_ref, w_fst, w_snd] (tk :: l') with
        | false => rfl
        | true => exact absurd ((isT_kindsU _).1 h) (by rw [← HTX.out]; exact hnm)
      have er : (tx.toList == ([114, 97, 105, 115, 101] : List UInt8)) = decide (tx = w_raise) := by rw [← toList_beq, show w_raise.toList = [114, 97, 105, 115, 101] from by rw [ByteArray.toList_eq]; rfl]
      by_cases hra : tx = w_raise
      · have hra2 : isT [w_raise] (tk :: l') = true := (isT_raise _).2 (by rw [← HTX.out]; exact hra)
        rw [decide_eq_true hra] at er
        obtain ⟨r1, hr1, hre1, her1, hok1⟩ := unary_raise hnp hra2 HP.out
        have hr1 : ∀ x l1, getK 3 l' = .ok (x, l1) → parseF f .unary l1 = some r1 := hr1
        have hre1 : ∀ l1, getK 3 l' = .error l1 → r1 = .error l1 := hre1
        have hok1 : ∀ a l2, r1 = .ok (a, l2) → ∃ x l1, getK 3 l' = .ok (x, l1) ∧ r = .ok (.mk { hd0 15 tk.pos with exn := x } [a], l2) := hok1
        obtain ⟨hE2, -⟩ := HEE.out.is_ hra2
        have hE2 : Ended l' := hE2
        have hne : l' ≠ [] := by intro h; rw [h] at hE2; exact hE2
        have hA2 := HNX.out hne
        have hwi : IntKind.i64.wrap ((i : Int) + 1) = (i : Int) + 1 := IntWalk.i64_in _ ⟨by omega, by have := hA2.2; omega⟩
        have KG : Hid (∀ W, Ext w W → Calls Tryz.prog 42 #[.agg #[.slice (some ⟨b, o, none⟩) n c, .int .i64 ((i : Int) + 1), .bool false], .int .u8 3] W fun e w' => Ext W w' ∧ ∃ i' bad' tx, e = .returned (.tuple #[.agg #[.slice (some ⟨b, o, none⟩) n c, .int .i64 (i' : Nat), .bool bad'], .string tx]) ∧ StS L n i' bad' (getK 3 l') ∧ ∀ x l'', getK 3 l' = .ok (x, l'') → tx = x) := hid fun W h => ref5_getS (α := Unit) L (some ⟨b, o, none⟩) n c (i + 1) false (.ok ((), l')) 3 (by omega) W (HL.out.ext h) ⟨rfl, hA2, hE2⟩
        obtain ⟨p0, p1, p2, f0, f1, f2, l0⟩ := SBlk.open_ HS0.out
        have HFX : Hid (∀ x l1, getK 3 l' = .ok (x, l1) → x.size ≤ 9223372036854775807) := hid fun x l1 h => by
          obtain ⟨t2, l2, b2, o2, e2, -, ht2, -⟩ := hA2.tok (HL.out)
          rw [e2] at h
          unfold getK at h
          simp only at h
          split at h
          · cases h
            exact ht2.text1
          · cases h
        have HER1 := hid her1
        have HOK1 := hid hok1
        have XN : ExtX (· = w.heap.size) wr (wr.setCell ⟨w.heap.size, 1, none⟩ (.int .i64 ((i : Int) + 1))) := (ExtX.refl (A := (· = w.heap.size)) wr).setCell (p := ⟨w.heap.size, 1, none⟩) (.inl rfl) _
        have HXN := hid XN
        have HYN := hid (ExtX.ext HY0.out XN (fun b (e : b = w.heap.size) => by omega))
        have hxnz := XN.size
        clear her1 hok1 hE2 hne hA2 hnp hra2 XN hra
        go_upto_region 20 with (first | (go_at_call 42; refine (KG.out _ HYN.out).mono ?_; rintro e w2 ⟨x2, i2, bad2, tx2, rfl, hs2, htx2⟩; have kq := (Blk.extx HK0.out HXN.out (show ¬ w.heap.size + 1 + 1 + 1 = w.heap.size by omega)).ext x2; have kqz := kq.lt) | (go_at_call 119; refine (ref5_unaryS HU.out L (some ⟨b, o, none⟩) n c i2 bad2 (getK 3 l') r1 _ (HL.out.ext (Ext.alloc (HYN.out.trans x2) _)) hs2 hr1 hre1).mono ?_; rintro e w3 ⟨x3, i3, bad3, z, az, nz, cz, rfl, hs3, hT3⟩; have hS3 := (show SBlk _ w2.heap.size (some ⟨b, o, none⟩) n c i2 bad2 from Blk.new w2 _ _).ext x3; obtain ⟨m0, m1, m2, k0, k1, k2, ll0⟩ := SBlk.open_ hS3; have kq3 := (kq.alloc (.cells #[.slice (some ⟨b, o, none⟩) n c, .int .i64 (i2 : Nat), .bool bad2] 71)).ext x3; have kr2 := kq3.cell 2; simp at kr2; have kq3z := kq3.lt; have ne10 : w.heap.size + 1 + 1 + 1 ≠ w2.heap.size := by omega) | (go_at_call 121; refine (ref5_term _ _ _ _ _ _).mono ?_; rintro e w5 ⟨rfl, x5⟩))
        have hb10 : w.heap.size + 1 + 1 + 1 < w2.heap.size := kqz
        have X3 : ExtX (· = w.heap.size) wr w3 := ((HXN.out.then_ x2).alloc _).then_ x3
        have hwr2 : wr.heap.size ≤ w2.heap.size := (HXN.out.then_ x2).size
        have X3s : ExtX (· = w.heap.size) wr (w3s w3 w2.heap.size (some ⟨b, o, none⟩) n c i3 bad3) := X3.onto5 w3s_x (fun q (e : q = w2.heap.size) => .inr (by omega))
        have S3s : SBlk (w3s w3 w2.heap.size (some ⟨b, o, none⟩) n c i3 bad3) w2.heap.size (some ⟨b, o, none⟩) n c i3 bad3 := w3s_blk hS3
        have hG5 : Blk w5 (w3.heap.size + 1) 28 #[.int .u8 z.k, .int .u8 z.op, .int .i64 z.pos, .int .i64 z.n, .string z.name, .string z.arg, .string z.exn, .slice az nz cz] := by
          have h := Blk.new ((w3s w3 w2.heap.size (some ⟨b, o, none⟩) n c i3 bad3).alloc (.cells #[.int .u8 z.k, .int .u8 z.op, .int .i64 z.pos, .int .i64 z.n, .string z.name, .string z.arg, .string z.exn, .slice az nz cz] 28)) 28 #[.int .u8 z.k, .int .u8 z.op, .int .i64 z.pos, .int .i64 z.n, .string z.name, .string z.arg, .string z.exn, .slice az nz cz]
          rw [World.size_alloc, w3s_size] at h
          exact h.ext x5
        have X5 : ExtX (· = w.heap.size) wr w5 := ((X3s.alloc _).alloc _).then_ x5
        have hw23 : w2.heap.size < w3.heap.size := hS3.lt
        have hw35 := hG5.lt
        have HT5 : Hid (∀ tb l2, r1 = .ok (tb, l2) → tb.head = z ∧ z.Fits ∧ nz ≤ cz ∧ cz ≤ 9223372036854775807 ∧ IsTmsA (fun q => q < w.heap.size + 1 + 1 + 1) w5 tb.kids az nz) := hid fun tb l2 h => by
          obtain ⟨e1, e2, e3, e4, e5⟩ := hT3 tb l2 h
          have y35 : Ext (w3s w3 w2.heap.size (some ⟨b, o, none⟩) n c i3 bad3) w5 := Ext.trans (((Ext.refl _).alloc _).alloc _) x5
          have e6 := (e5.extx w3s_x (fun q (e : q = w2.heap.size) => by show q < (w2.alloc (.cells #[.slice (some ⟨b, o, none⟩) n c, .int .i64 (i2 : Nat), .bool bad2] 71)).heap.size; rw [World.size_alloc]; omega) : IsTmsA _ (w3s w3 w2.heap.size (some ⟨b, o, none⟩) n c i3 bad3) tb.kids az nz)
          exact ⟨e1, e2, e3, e4, (e6.ext y35).move (fun q _ (hb : q < w.heap.size + 1 + 1 + 1) => by show q < (w2.alloc (.cells #[.slice (some ⟨b, o, none⟩) n c, .int .i64 (i2 : Nat), .bool bad2] 71)).heap.size; rw [World.size_alloc]; omega) (fun _ _ _ hu => hu)⟩
        have V6 : SBlk (w5.alloc (.cells #[.int .u8 15, .int .u8 0, .int .i64 tk.pos, .int .i64 0, .string ⟨#[]⟩, .string ⟨#[]⟩, .string tx2, .slice (some ⟨w3.heap.size + 1, 0, none⟩) 1 1] 28)) w2.heap.size (some ⟨b, o, none⟩) n c i3 bad3 := (SBlk.ext ((S3s.alloc _).alloc _) x5).alloc _
        have T6 := Blk.new w5 28 #[.int .u8 15, .int .u8 0, .int .i64 tk.pos, .int .i64 0, .string ⟨#[]⟩, .string ⟨#[]⟩, .string tx2, .slice (some ⟨w3.heap.size + 1, 0, none⟩) 1 1]
        have X6 := X5.alloc (.cells #[.int .u8 15, .int .u8 0, .int .i64 tk.pos, .int .i64 0, .string ⟨#[]⟩, .string ⟨#[]⟩, .string tx2, .slice (some ⟨w3.heap.size + 1, 0, none⟩) 1 1] 28)
        have y56 : Ext w5 (w5.alloc (.cells #[.int .u8 15, .int .u8 0, .int .i64 tk.pos, .int .i64 0, .string ⟨#[]⟩, .string ⟨#[]⟩, .string tx2, .slice (some ⟨w3.heap.size + 1, 0, none⟩) 1 1] 28)) := (Ext.refl _).alloc _
        have hz56 : w5.heap.size < (w5.alloc (.cells #[.int .u8 15, .int .u8 0, .int .i64 tk.pos, .int .i64 0, .string ⟨#[]⟩, .string ⟨#[]⟩, .string tx2, .slice (some ⟨w3.heap.size + 1, 0, none⟩) 1 1] 28)).heap.size := T6.lt
        generalize w5.alloc (.cells #[.int .u8 15, .int .u8 0, .int .i64 tk.pos, .int .i64 0, .string ⟨#[]⟩, .string ⟨#[]⟩, .string tx2, .slice (some ⟨w3.heap.size + 1, 0, none⟩) 1 1] 28) = W6 at *
        have HZ18 := hid (Blk.extx HZ1.out X6 (show ¬ w.heap.size + 1 = w.heap.size by omega))
        have HZ28 := hid (Blk.extx HZ2.out X6 (show ¬ w.heap.size + 1 + 1 = w.heap.size by omega))
        have HY8 := hid (ExtX.ext HY0.out X6 (fun q (e : q = w.heap.size) => by omega))
        have HG6 := hid hG5
        have HS3 := hid hs3
        have HTX2 := hid htx2
        have HY56 := hid y56
        clear hT3 X3 X3s S3s X5 X6 hS3 x2 x3 x5 y56 hs2 hs3 htx2 hG5 kq kq3 kr2 m0 m1 m2 k0 k1 k2 ll0 KG hr1 hre1 p0 p1 p2 f0 f1 f2 l0
        obtain ⟨b10, hb10e⟩ : ∃ b10, b10 = w2.heap.size := ⟨_, rfl⟩
        obtain ⟨b13, hb13e⟩ : ∃ b13, b13 = w5.heap.size := ⟨_, rfl⟩
        obtain ⟨gk, hgk⟩ : ∃ gk, gk = w3.heap.size + 1 := ⟨_, rfl⟩
        rw [← hb10e] at hb10 hw23 V6 ne10 ⊢
        rw [← hb13e] at hw35 T6 hz56 ⊢
        rw [← hgk] at hw35 T6 HG6 ⊢
        obtain ⟨vs0, vs1, vs2, -, -, -, lvs⟩ := SBlk.open_ V6
        obtain ⟨d0, d1, d2, d3, d4, d5, d6, d7⟩ := T6.eight
        have nS0 := fun W (h : ExtX (fun b => b = w.heap.size + 1 ∨ b = w.heap.size + 1 + 1) W6 W) => h.cell (p := ⟨b10, 0, none⟩) (show ¬ (b10 = w.heap.size + 1 ∨ b10 = w.heap.size + 1 + 1) by omega) vs0
        have nS1 := fun W (h : ExtX (fun b => b = w.heap.size + 1 ∨ b = w.heap.size + 1 + 1) W6 W) => h.cell (p := ⟨b10, 1, none⟩) (show ¬ (b10 = w.heap.size + 1 ∨ b10 = w.heap.size + 1 + 1) by omega) vs1
        have nS2 := fun W (h : ExtX (fun b => b = w.heap.size + 1 ∨ b = w.heap.size + 1 + 1) W6 W) => h.cell (p := ⟨b10, 2, none⟩) (show ¬ (b10 = w.heap.size + 1 ∨ b10 = w.heap.size + 1 + 1) by omega) vs2
        have nT0 := fun W (h : ExtX (fun b => b = w.heap.size + 1 ∨ b = w.heap.size + 1 + 1) W6 W) => h.cell (p := ⟨b13, 0, none⟩) (show ¬ (b13 = w.heap.size + 1 ∨ b13 = w.heap.size + 1 + 1) by omega) d0
        have nT1 := fun W (h : ExtX (fun b => b = w.heap.size + 1 ∨ b = w.heap.size + 1 + 1) W6 W) => h.cell (p := ⟨b13, 1, none⟩) (show ¬ (b13 = w.heap.size + 1 ∨ b13 = w.heap.size + 1 + 1) by omega) d1
        have nT2 := fun W (h : ExtX (fun b => b = w.heap.size + 1 ∨ b = w.heap.size + 1 + 1) W6 W) => h.cell (p := ⟨b13, 2, none⟩) (show ¬ (b13 = w.heap.size + 1 ∨ b13 = w.heap.size + 1 + 1) by omega) d2
        have nT3 := fun W (h : ExtX (fun b => b = w.heap.size + 1 ∨ b = w.heap.size + 1 + 1) W6 W) => h.cell (p := ⟨b13, 3, none⟩) (show ¬ (b13 = w.heap.size + 1 ∨ b13 = w.heap.size + 1 + 1) by omega) d3
        have nT4 := fun W (h : ExtX (fun b => b = w.heap.size + 1 ∨ b = w.heap.size + 1 + 1) W6 W) => h.cell (p := ⟨b13, 4, none⟩) (show ¬ (b13 = w.heap.size + 1 ∨ b13 = w.heap.size + 1 + 1) by omega) d4
        have nT5 := fun W (h : ExtX (fun b => b = w.heap.size + 1 ∨ b = w.heap.size + 1 + 1) W6 W) => h.cell (p := ⟨b13, 5, none⟩) (show ¬ (b13 = w.heap.size + 1 ∨ b13 = w.heap.size + 1 + 1) by omega) d5
        have nT6 := fun W (h : ExtX (fun b => b = w.heap.size + 1 ∨ b = w.heap.size + 1 + 1) W6 W) => h.cell (p := ⟨b13, 6, none⟩) (show ¬ (b13 = w.heap.size + 1 ∨ b13 = w.heap.size + 1 + 1) by omega) d6
        have nT7 := fun W (h : ExtX (fun b => b = w.heap.size + 1 ∨ b = w.heap.size + 1 + 1) W6 W) => h.cell (p := ⟨b13, 7, none⟩) (show ¬ (b13 = w.heap.size + 1 ∨ b13 = w.heap.size + 1 + 1) by omega) d7
        obtain ⟨z0, z1, z2, z3, z4, z5, z6, z7⟩ := HZ28.out.eight
        obtain ⟨y0, y1, y2, y3, y4, y5, y6, y7⟩ := HZ28.out.frozen8
        have v0 := HZ18.out.cell 0
        have v1 := HZ18.out.cell 1
        have v2 := HZ18.out.cell 2
        simp at v0 v1 v2
        have v3 := HZ18.out.frozen 0
        have v4 := HZ18.out.frozen 1
        have v5 := HZ18.out.frozen 2
        have lv := HZ18.out.lt
        have lz := HZ28.out.lt
        have ne2 : w.heap.size + 1 + 1 ≠ w.heap.size + 1 := by omega
        have hgk2 : w.heap.size + 1 + 1 + 1 ≤ gk := by omega
        clear V6 T6 hgk hb10e hb13e
        refine wp_region_held_drew (S := fun w' => ExtX (fun b => b = w.heap.size + 1 ∨ b = w.heap.size + 1 + 1) W6 w') (by kernel_rfl) (by (try dsimp only); (exact xX)) (fun hHeld => ?_)
        refine tL 0 ?_;try simp only [Act.put,pA,pB,pC]
        refine tL 1 ?_;try simp only [Act.put,pA,pB,pC]
        refine dK 2 fun K hK => ?_; go_simp; refine hK.out _ _ (by (try dsimp only); (exact xX)) (fun hHeld => ?_); clear hK K; try simp only [Act.put,pA,pB,pC]
        refine dK 3 fun K hK => ?_; go_simp; refine hK.out _ _ (by (try dsimp only); (exact xX)) (fun hHeld => ?_); clear hK K; try simp only [Act.put,pA,pB,pC]
        refine wpAnyH_done (by kernel_rfl) ?_ _
        all_goals
          obtain ⟨B1, B2, X9⟩ := tail2 (a := some ⟨b, o, none⟩) (n := n) (c := c) (i := i3) (bad := bad3) (H := ⟨15, 0, tk.pos, 0, ⟨#[]⟩, ⟨#[]⟩, tx2⟩) (ak := some ⟨gk, 0, none⟩) (nk := 1) (ck := 1) HZ18.out HZ28.out
          have HR9 : Hid (RetE L (some ⟨b, o, none⟩) n c w r (.returned (.tuple #[.agg #[.slice (some ⟨b, o, none⟩) n c, .int .i64 (i3 : Nat), .bool bad3], .agg #[.int .u8 15, .int .u8 0, .int .i64 tk.pos, .int .i64 0, .string ⟨#[]⟩, .string ⟨#[]⟩, .string tx2, .slice (some ⟨gk, 0, none⟩) 1 1]])) (w8s (w3s W6 (w.heap.size + 1) (some ⟨b, o, none⟩) n c i3 bad3) (w.heap.size + 1 + 1) ⟨15, 0, tk.pos, 0, ⟨#[]⟩, ⟨#[]⟩, tx2⟩ (some ⟨gk, 0, none⟩) 1 1).drew) := hid (by
            have htf := HTF.out
            refine ⟨ExtX.ext HY8.out X9.drew (fun b e => by rcases e with e | e <;> omega), i3, bad3, ⟨15, 0, tk.pos, 0, ⟨#[]⟩, ⟨#[]⟩, tx2⟩, some ⟨gk, 0, none⟩, 1, 1, rfl, ?_, fun t' l'' e => ?_⟩
            · have hs := HS3.out
              cases r1 with
              | error l2 => rw [HER1.out l2 rfl]; exact hs
              | ok p2 =>
                obtain ⟨tb, l2⟩ := p2
                obtain ⟨x9, l9, -, hr9⟩ := HOK1.out tb l2 rfl
                rw [hr9]
                exact hs
            · cases r1 with
              | error l2 => rw [HER1.out l2 rfl] at e; cases e
              | ok p2 =>
                obtain ⟨tb, l2⟩ := p2
                obtain ⟨x9, l9, hg9, hr9⟩ := HOK1.out tb l2 rfl
                rw [hr9] at e
                cases e
                have htx := HTX2.out x9 l9 hg9
                subst htx
                obtain ⟨rfl, g2, g3, g4, g5⟩ := HT5.out tb _ rfl
                have hp := one_row (A := fun q => q < w.heap.size + 1 + 1 + 1) (g := gk) (Ext.refl _) g3 g4 g2 g5 (by show ¬ gk < _; omega) HG6.out
                have e1 : Tm.mk tb.head tb.kids = tb := by cases tb; rfl
                rw [e1] at hp
                exact ⟨rfl, ⟨by show (0 : Int) ≤ 15; omega, by show (15 : Int) ≤ 255; omega, by show (0 : Int) ≤ 0; omega, by show (0 : Int) ≤ 255; omega, htf.p0, htf.p1, by show (-9223372036854775808 : Int) ≤ 0; omega, by show (0 : Int) ≤ 9223372036854775807; omega, by show (0 : Nat) ≤ 9223372036854775807; omega, by show (0 : Nat) ≤ 9223372036854775807; omega, HFX.out _ _ hg9⟩, Nat.le_refl _, by omega, ((hp.ext HY56.out).extx X9.drew (fun b e => by show b < _; rcases e with e | e <;> omega)).move (fun b _ (hb : b < w.heap.size) => by show b < _; omega) (fun _ _ _ hu => hu)⟩)
          obtain ⟨r0, r1', r2, -⟩ := SBlk.open_ (show SBlk _ _ (some ⟨b, o, none⟩) n c i3 bad3 from Blk.drew B1)
          obtain ⟨r3, r4, r5, r6, r7, r8, r9, ra⟩ := B2.drew.eight
          unfold w8s w3s at r0 r1' r2 r3 r4 r5 r6 r7 r8 r9 ra HR9
          clear B1 B2 X9
          repeat (first | go_values | go_skip | go_guarded | go_step | go_upon)
          exact bodyPost_ret (v := (.tuple #[.agg #[.slice (some ⟨b, o, none⟩) n c, .int .i64 (i3 : Nat), .bool bad3], .agg #[.int .u8 15, .int .u8 0, .int .i64 tk.pos, .int .i64 0, .string ⟨#[]⟩, .string ⟨#[]⟩, .string tx2, .slice (some ⟨gk, 0, none⟩) 1 1]])) (by simp [results, Tryz.results119, go_sem, r0, r1', r2, r3, r4, r5, r6, r7, r8, r9, ra]) rfl HR9.out
      · have hnr : isT [w_raise] (tk :: l') = false := by
          cases h : isT [w_raise] (tk :: l') with
          | false => rfl
          | true => exact absurd ((isT_raise _).1 h) (by rw [← HTX.out]; exact hra)
        rw [decide_eq_false hra] at er
        by_cases hk1 : kindT (tk :: l') = 1
        · have _h0 := hk1
          have hr9 := unary_num hnp hnr hk1 HP.out
          have hr9 : r = .ok (.mk ⟨1, 0, tk.pos, numV tk.text, ⟨#[]⟩, ⟨#[]⟩, ⟨#[]⟩⟩ [], l') := hr9
          subst hr9
          have hk1' : tk.k = 1 := hk1
          have hne : l' ≠ [] := HEE.out.next (by omega)
          have hA2 := HNX.out hne
          have hE2 : Ended l' := (HEE.out.tail (by show tk.k ≠ 6; omega)).1
          have hwi : IntKind.i64.wrap ((i : Int) + 1) = (i : Int) + 1 := IntWalk.i64_in _ ⟨by omega, by have := hA2.2; omega⟩
          obtain ⟨p0, p1, p2, f0, f1, f2, l0⟩ := SBlk.open_ HS0.out
          have kk0 := HK0.out.cell 0
          have kk1 := HK0.out.cell 1
          have kk2 := HK0.out.cell 2
          simp at kk0 kk1 kk2
          rw [hk1'] at kk0
          have XN : ExtX (· = w.heap.size) wr ((wr.setCell ⟨w.heap.size, 1, none⟩ (.int .i64 ((i : Int) + 1))).alloc (.cells #[] 28)) := ((ExtX.refl (A := (· = w.heap.size)) wr).setCell (p := ⟨w.heap.size, 1, none⟩) (.inl rfl) _).alloc _
          have SN := SBlk.next HS0.out
          have HSN := hid SN
          have HXN := hid XN
          have HA2 := hid (And.intro hA2 hE2)
          clear hk1 XN SN hne hA2 hE2
          go_upto_region 25 with (first | (go_at_call 121; refine (ref5_term _ _ _ _ _ _).mono ?_; rintro e w5 ⟨rfl, x5⟩; have kq := (Blk.extx HK0.out HXN.out (show ¬ w.heap.size + 1 + 1 + 1 = w.heap.size by omega)).ext x5; have kr1 := kq.cell 1; simp at kr1; have klt := kq.lt) | (go_at_call 63; refine (ref_number tk.text _ HTF.out.text1).mono ?_; rintro e w7 ⟨rfl, x7⟩; have hb14 := (Blk.new w5 28 #[.int .u8 1, .int .u8 0, .int .i64 tk.pos, .int .i64 0, .string ⟨#[]⟩, .string ⟨#[]⟩, .string ⟨#[]⟩, .slice (some ⟨wr.heap.size, 0, none⟩) 0 0]).ext x7; obtain ⟨t0, t1, t2, t3, t4, t5, t6, t7⟩ := hb14.eight; obtain ⟨g0, g1, g2, g3, g4, g5, g6, g7⟩ := hb14.frozen8; have l14 := hb14.lt))
          have XR : ExtX (· = w.heap.size) wr (w7.setCell ⟨w5.heap.size, 3, none⟩ (.int .i64 (numV tk.text))) := (((HXN.out.then_ x5).alloc _).then_ x7).setCell (p := ⟨w5.heap.size, 3, none⟩) (.inr (by show wr.heap.size ≤ w5.heap.size; have := (HXN.out.then_ x5).size; exact this)) _
          have hlt5 : w.heap.size + 1 + 1 + 1 < w5.heap.size := klt
          have S8 : SBlk (w7.setCell ⟨w5.heap.size, 3, none⟩ (.int .i64 (numV tk.text))) w.heap.size (some ⟨b, o, none⟩) n c (i + 1) false := Blk.far (SBlk.ext ((SBlk.ext (Blk.alloc HSN.out _) x5).alloc _) x7) (p := ⟨w5.heap.size, 3, none⟩) (by show w.heap.size ≠ w5.heap.size; omega) _
          have T8 : Blk (w7.setCell ⟨w5.heap.size, 3, none⟩ (.int .i64 (numV tk.text))) w5.heap.size 28 #[.int .u8 1, .int .u8 0, .int .i64 tk.pos, .int .i64 (numV tk.text), .string ⟨#[]⟩, .string ⟨#[]⟩, .string ⟨#[]⟩, .slice (some ⟨wr.heap.size, 0, none⟩) 0 0] := by
            have h := hb14.set_ 3 (.int .i64 (numV tk.text))
            simp only [List.setIfInBounds_toArray, List.set_cons_succ, List.set_cons_zero] at h
            exact h
          have hb58 : w5.heap.size < (w7.setCell ⟨w5.heap.size, 3, none⟩ (.int .i64 (numV tk.text))).heap.size := T8.lt
          generalize (w7.setCell ⟨w5.heap.size, 3, none⟩ (.int .i64 (numV tk.text))) = W8 at *
          generalize w5.heap.size = b14 at *
          have HZ18 := hid (Blk.extx HZ1.out XR (show ¬ w.heap.size + 1 = w.heap.size by omega))
          have HZ28 := hid (Blk.extx HZ2.out XR (show ¬ w.heap.size + 1 + 1 = w.heap.size by omega))
          have HY8 := hid (ExtX.ext HY0.out XR (fun b (e : b = w.heap.size) => by omega))
          obtain ⟨vs0, vs1, vs2, -, -, -, lvs⟩ := SBlk.open_ S8
          obtain ⟨d0, d1, d2, d3, d4, d5, d6, d7⟩ := T8.eight
          have nS0 := fun W (h : ExtX (fun b => b = w.heap.size + 1 ∨ b = w.heap.size + 1 + 1) W8 W) => h.cell (p := ⟨w.heap.size, 0, none⟩) (show ¬ (w.heap.size = w.heap.size + 1 ∨ w.heap.size = w.heap.size + 1 + 1) by omega) vs0
          have nS1 := fun W (h : ExtX (fun b => b = w.heap.size + 1 ∨ b = w.heap.size + 1 + 1) W8 W) => h.cell (p := ⟨w.heap.size, 1, none⟩) (show ¬ (w.heap.size = w.heap.size + 1 ∨ w.heap.size = w.heap.size + 1 + 1) by omega) vs1
          have nS2 := fun W (h : ExtX (fun b => b = w.heap.size + 1 ∨ b = w.heap.size + 1 + 1) W8 W) => h.cell (p := ⟨w.heap.size, 2, none⟩) (show ¬ (w.heap.size = w.heap.size + 1 ∨ w.heap.size = w.heap.size + 1 + 1) by omega) vs2
          have nT0 := fun W (h : ExtX (fun b => b = w.heap.size + 1 ∨ b = w.heap.size + 1 + 1) W8 W) => h.cell (p := ⟨b14, 0, none⟩) (show ¬ (b14 = w.heap.size + 1 ∨ b14 = w.heap.size + 1 + 1) by omega) d0
          have nT1 := fun W (h : ExtX (fun b => b = w.heap.size + 1 ∨ b = w.heap.size + 1 + 1) W8 W) => h.cell (p := ⟨b14, 1, none⟩) (show ¬ (b14 = w.heap.size + 1 ∨ b14 = w.heap.size + 1 + 1) by omega) d1
          have nT2 := fun W (h : ExtX (fun b => b = w.heap.size + 1 ∨ b = w.heap.size + 1 + 1) W8 W) => h.cell (p := ⟨b14, 2, none⟩) (show ¬ (b14 = w.heap.size + 1 ∨ b14 = w.heap.size + 1 + 1) by omega) d2
          have nT3 := fun W (h : ExtX (fun b => b = w.heap.size + 1 ∨ b = w.heap.size + 1 + 1) W8 W) => h.cell (p := ⟨b14, 3, none⟩) (show ¬ (b14 = w.heap.size + 1 ∨ b14 = w.heap.size + 1 + 1) by omega) d3
          have nT4 := fun W (h : ExtX (fun b => b = w.heap.size + 1 ∨ b = w.heap.size + 1 + 1) W8 W) => h.cell (p := ⟨b14, 4, none⟩) (show ¬ (b14 = w.heap.size + 1 ∨ b14 = w.heap.size + 1 + 1) by omega) d4
          have nT5 := fun W (h : ExtX (fun b => b = w.heap.size + 1 ∨ b = w.heap.size + 1 + 1) W8 W) => h.cell (p := ⟨b14, 5, none⟩) (show ¬ (b14 = w.heap.size + 1 ∨ b14 = w.heap.size + 1 + 1) by omega) d5
          have nT6 := fun W (h : ExtX (fun b => b = w.heap.size + 1 ∨ b = w.heap.size + 1 + 1) W8 W) => h.cell (p := ⟨b14, 6, none⟩) (show ¬ (b14 = w.heap.size + 1 ∨ b14 = w.heap.size + 1 + 1) by omega) d6
          have nT7 := fun W (h : ExtX (fun b => b = w.heap.size + 1 ∨ b = w.heap.size + 1 + 1) W8 W) => h.cell (p := ⟨b14, 7, none⟩) (show ¬ (b14 = w.heap.size + 1 ∨ b14 = w.heap.size + 1 + 1) by omega) d7
          obtain ⟨z0, z1, z2, z3, z4, z5, z6, z7⟩ := HZ28.out.eight
          obtain ⟨y0, y1, y2, y3, y4, y5, y6, y7⟩ := HZ28.out.frozen8
          have v0 := HZ18.out.cell 0
          have v1 := HZ18.out.cell 1
          have v2 := HZ18.out.cell 2
          simp at v0 v1 v2
          have v3 := HZ18.out.frozen 0
          have v4 := HZ18.out.frozen 1
          have v5 := HZ18.out.frozen 2
          have lv := HZ18.out.lt
          have lz := HZ28.out.lt
          have ne2 : w.heap.size + 1 + 1 ≠ w.heap.size + 1 := by omega
          clear XR S8 T8 x5 x7 hb14 t0 t1 t2 t3 t4 t5 t6 t7 g0 g1 g2 g3 g4 g5 g6 g7 l14
          refine wp_region_held_drew (S := fun w' => ExtX (fun b => b = w.heap.size + 1 ∨ b = w.heap.size + 1 + 1) W8 w') (by kernel_rfl) (by (try dsimp only); (exact xX)) (fun hHeld => ?_)
          refine tL 0 ?_;try simp only [Act.put,pA,pB,pC]
          refine tL 1 ?_;try simp only [Act.put,pA,pB,pC]
          refine dK 2 fun K hK => ?_; go_simp; refine hK.out _ _ (by (try dsimp only); (exact xX)) (fun hHeld => ?_); clear hK K; try simp only [Act.put,pA,pB,pC]
          refine dK 3 fun K hK => ?_; go_simp; refine hK.out _ _ (by (try dsimp only); (exact xX)) (fun hHeld => ?_); clear hK K; try simp only [Act.put,pA,pB,pC]
          refine wpAnyH_done (by kernel_rfl) ?_ _
          all_goals
            obtain ⟨B1, B2, X9⟩ := tail2 (a := some ⟨b, o, none⟩) (n := n) (c := c) (i := i + 1) (bad := false) (H := ⟨1, 0, tk.pos, numV tk.text, ⟨#[]⟩, ⟨#[]⟩, ⟨#[]⟩⟩) (ak := some ⟨wr.heap.size, 0, none⟩) (nk := 0) (ck := 0) HZ18.out HZ28.out
            have HR9 : Hid (RetE L (some ⟨b, o, none⟩) n c w (.ok (.mk ⟨1, 0, tk.pos, numV tk.text, ⟨#[]⟩, ⟨#[]⟩, ⟨#[]⟩⟩ [], l')) (.returned (.tuple #[.agg #[.slice (some ⟨b, o, none⟩) n c, .int .i64 ((i : Int) + 1), .bool false], .agg #[.int .u8 1, .int .u8 0, .int .i64 tk.pos, .int .i64 (numV tk.text), .string ⟨#[]⟩, .string ⟨#[]⟩, .string ⟨#[]⟩, .slice (some ⟨wr.heap.size, 0, none⟩) 0 0]])) (w8s (w3s W8 (w.heap.size + 1) (some ⟨b, o, none⟩) n c (i + 1) false) (w.heap.size + 1 + 1) ⟨1, 0, tk.pos, numV tk.text, ⟨#[]⟩, ⟨#[]⟩, ⟨#[]⟩⟩ (some ⟨wr.heap.size, 0, none⟩) 0 0).drew) := hid (by
              have htf := HTF.out
              have hnv := numV_bound tk.text
              refine ⟨ExtX.ext HY8.out X9.drew (fun b e => by rcases e with e | e <;> omega), i + 1, false, ⟨1, 0, tk.pos, numV tk.text, ⟨#[]⟩, ⟨#[]⟩, ⟨#[]⟩⟩, some ⟨wr.heap.size, 0, none⟩, 0, 0, rfl, ⟨rfl, HA2.out.1, HA2.out.2⟩, fun t' l'' e => ?_⟩
              cases e
              exact ⟨rfl, ⟨by show (0 : Int) ≤ 1; omega, by show (1 : Int) ≤ 255; omega, by show (0 : Int) ≤ 0; omega, by show (0 : Int) ≤ 255; omega, htf.p0, htf.p1, by show (-9223372036854775808 : Int) ≤ numV tk.text; omega, by show numV tk.text ≤ 9223372036854775807; omega, by show (0 : Nat) ≤ 9223372036854775807; omega, by show (0 : Nat) ≤ 9223372036854775807; omega, by show (0 : Nat) ≤ 9223372036854775807; omega⟩, Nat.le_refl _, by omega, IsTmsA.nil _⟩)
            obtain ⟨r0, r1', r2, -⟩ := SBlk.open_ (show SBlk _ _ (some ⟨b, o, none⟩) n c (i + 1) false from Blk.drew B1)
            obtain ⟨r3, r4, r5, r6, r7, r8, r9, ra⟩ := B2.drew.eight
            unfold w8s w3s at r0 r1' r2 r3 r4 r5 r6 r7 r8 r9 ra HR9
            simp only [Int.natCast_add, Int.cast_ofNat_Int] at r0 r1' r2 r3 r4 r5 r6 r7 r8 r9 ra HR9
            clear B1 B2 X9
            repeat (first | go_values | go_skip | go_guarded | go_step | go_upon)
            exact bodyPost_ret (v := (.tuple #[.agg #[.slice (some ⟨b, o, none⟩) n c, .int .i64 ((i : Int) + 1), .bool false], .agg #[.int .u8 1, .int .u8 0, .int .i64 tk.pos, .int .i64 (numV tk.text), .string ⟨#[]⟩, .string ⟨#[]⟩, .string ⟨#[]⟩, .slice (some ⟨wr.heap.size, 0, none⟩) 0 0]])) (by simp [results, Tryz.results119, go_sem, r0, r1', r2, r3, r4, r5, r6, r7, r8, r9, ra]) rfl HR9.out
        · have hkn1 := hk1
          clear hk1
          by_cases hk1 : kindT (tk :: l') = 2
          · have _h0 := hk1
            have hr9 := unary_var2 hnp hnr hk1 HP.out
            have hr9 : r = .ok (.mk ⟨2, 0, tk.pos, 0, tk.text, ⟨#[]⟩, ⟨#[]⟩⟩ [], l') := hr9
            subst hr9
            have hk1' : tk.k = 2 := hk1
            have hne : l' ≠ [] := HEE.out.next (by omega)
            have hA2 := HNX.out hne
            have hE2 : Ended l' := (HEE.out.tail (by show tk.k ≠ 6; omega)).1
            have hwi : IntKind.i64.wrap ((i : Int) + 1) = (i : Int) + 1 := IntWalk.i64_in _ ⟨by omega, by have := hA2.2; omega⟩
            obtain ⟨p0, p1, p2, f0, f1, f2, l0⟩ := SBlk.open_ HS0.out
            have kk0 := HK0.out.cell 0
            have kk1 := HK0.out.cell 1
            have kk2 := HK0.out.cell 2
            simp at kk0 kk1 kk2
            rw [hk1'] at kk0
            have XN : ExtX (· = w.heap.size) wr ((wr.setCell ⟨w.heap.size, 1, none⟩ (.int .i64 ((i : Int) + 1))).alloc (.cells #[] 28)) := ((ExtX.refl (A := (· = w.heap.size)) wr).setCell (p := ⟨w.heap.size, 1, none⟩) (.inl rfl) _).alloc _
            have SN := SBlk.next HS0.out
            have HSN := hid SN
            have HXN := hid XN
            have HA2 := hid (And.intro hA2 hE2)
            clear hk1 XN SN hne hA2 hE2
            go_upto_region 30 with (go_at_call 121; refine (ref5_term _ _ _ _ _ _).mono ?_; rintro e w5 ⟨rfl, x5⟩; have kq := (Blk.extx HK0.out HXN.out (show ¬ w.heap.size + 1 + 1 + 1 = w.heap.size by omega)).ext x5; have kr1 := kq.cell 1; simp at kr1; have klt := kq.lt)
            have XR : ExtX (· = w.heap.size) wr (w5.alloc (.cells #[.int .u8 2, .int .u8 0, .int .i64 tk.pos, .int .i64 (0), .string tk.text, .string ⟨#[]⟩, .string ⟨#[]⟩, .slice (some ⟨wr.heap.size, 0, none⟩) 0 0] 28)) := (HXN.out.then_ x5).alloc _
            have hlt5 : w.heap.size + 1 + 1 + 1 < w5.heap.size := klt
            have S8 : SBlk (w5.alloc (.cells #[.int .u8 2, .int .u8 0, .int .i64 tk.pos, .int .i64 (0), .string tk.text, .string ⟨#[]⟩, .string ⟨#[]⟩, .slice (some ⟨wr.heap.size, 0, none⟩) 0 0] 28)) w.heap.size (some ⟨b, o, none⟩) n c (i + 1) false := (SBlk.ext (Blk.alloc HSN.out _) x5).alloc _
            have T8 : Blk (w5.alloc (.cells #[.int .u8 2, .int .u8 0, .int .i64 tk.pos, .int .i64 (0), .string tk.text, .string ⟨#[]⟩, .string ⟨#[]⟩, .slice (some ⟨wr.heap.size, 0, none⟩) 0 0] 28)) w5.heap.size 28 #[.int .u8 2, .int .u8 0, .int .i64 tk.pos, .int .i64 (0), .string tk.text, .string ⟨#[]⟩, .string ⟨#[]⟩, .slice (some ⟨wr.heap.size, 0, none⟩) 0 0] := Blk.new _ _ _
            have hb58 : w5.heap.size < (w5.alloc (.cells #[.int .u8 2, .int .u8 0, .int .i64 tk.pos, .int .i64 (0), .string tk.text, .string ⟨#[]⟩, .string ⟨#[]⟩, .slice (some ⟨wr.heap.size, 0, none⟩) 0 0] 28)).heap.size := T8.lt
            generalize (w5.alloc (.cells #[.int .u8 2, .int .u8 0, .int .i64 tk.pos, .int .i64 (0), .string tk.text, .string ⟨#[]⟩, .string ⟨#[]⟩, .slice (some ⟨wr.heap.size, 0, none⟩) 0 0] 28)) = W8 at *
            generalize w5.heap.size = b14 at *
            have HZ18 := hid (Blk.extx HZ1.out XR (show ¬ w.heap.size + 1 = w.heap.size by omega))
            have HZ28 := hid (Blk.extx HZ2.out XR (show ¬ w.heap.size + 1 + 1 = w.heap.size by omega))
            have HY8 := hid (ExtX.ext HY0.out XR (fun b (e : b = w.heap.size) => by omega))
            obtain ⟨vs0, vs1, vs2, -, -, -, lvs⟩ := SBlk.open_ S8
            obtain ⟨d0, d1, d2, d3, d4, d5, d6, d7⟩ := T8.eight
            have nS0 := fun W (h : ExtX (fun b => b = w.heap.size + 1 ∨ b = w.heap.size + 1 + 1) W8 W) => h.cell (p := ⟨w.heap.size, 0, none⟩) (show ¬ (w.heap.size = w.heap.size + 1 ∨ w.heap.size = w.heap.size + 1 + 1) by omega) vs0
            have nS1 := fun W (h : ExtX (fun b => b = w.heap.size + 1 ∨ b = w.heap.size + 1 + 1) W8 W) => h.cell (p := ⟨w.heap.size, 1, none⟩) (show ¬ (w.heap.size = w.heap.size + 1 ∨ w.heap.size = w.heap.size + 1 + 1) by omega) vs1
            have nS2 := fun W (h : ExtX (fun b => b = w.heap.size + 1 ∨ b = w.heap.size + 1 + 1) W8 W) => h.cell (p := ⟨w.heap.size, 2, none⟩) (show ¬ (w.heap.size = w.heap.size + 1 ∨ w.heap.size = w.heap.size + 1 + 1) by omega) vs2
            have nT0 := fun W (h : ExtX (fun b => b = w.heap.size + 1 ∨ b = w.heap.size + 1 + 1) W8 W) => h.cell (p := ⟨b14, 0, none⟩) (show ¬ (b14 = w.heap.size + 1 ∨ b14 = w.heap.size + 1 + 1) by omega) d0
            have nT1 := fun W (h : ExtX (fun b => b = w.heap.size + 1 ∨ b = w.heap.size + 1 + 1) W8 W) => h.cell (p := ⟨b14, 1, none⟩) (show ¬ (b14 = w.heap.size + 1 ∨ b14 = w.heap.size + 1 + 1) by omega) d1
            have nT2 := fun W (h : ExtX (fun b => b = w.heap.size + 1 ∨ b = w.heap.size + 1 + 1) W8 W) => h.cell (p := ⟨b14, 2, none⟩) (show ¬ (b14 = w.heap.size + 1 ∨ b14 = w.heap.size + 1 + 1) by omega) d2
            have nT3 := fun W (h : ExtX (fun b => b = w.heap.size + 1 ∨ b = w.heap.size + 1 + 1) W8 W) => h.cell (p := ⟨b14, 3, none⟩) (show ¬ (b14 = w.heap.size + 1 ∨ b14 = w.heap.size + 1 + 1) by omega) d3
            have nT4 := fun W (h : ExtX (fun b => b = w.heap.size + 1 ∨ b = w.heap.size + 1 + 1) W8 W) => h.cell (p := ⟨b14, 4, none⟩) (show ¬ (b14 = w.heap.size + 1 ∨ b14 = w.heap.size + 1 + 1) by omega) d4
            have nT5 := fun W (h : ExtX (fun b => b = w.heap.size + 1 ∨ b = w.heap.size + 1 + 1) W8 W) => h.cell (p := ⟨b14, 5, none⟩) (show ¬ (b14 = w.heap.size + 1 ∨ b14 = w.heap.size + 1 + 1) by omega) d5
            have nT6 := fun W (h : ExtX (fun b => b = w.heap.size + 1 ∨ b = w.heap.size + 1 + 1) W8 W) => h.cell (p := ⟨b14, 6, none⟩) (show ¬ (b14 = w.heap.size + 1 ∨ b14 = w.heap.size + 1 + 1) by omega) d6
            have nT7 := fun W (h : ExtX (fun b => b = w.heap.size + 1 ∨ b = w.heap.size + 1 + 1) W8 W) => h.cell (p := ⟨b14, 7, none⟩) (show ¬ (b14 = w.heap.size + 1 ∨ b14 = w.heap.size + 1 + 1) by omega) d7
            obtain ⟨z0, z1, z2, z3, z4, z5, z6, z7⟩ := HZ28.out.eight
            obtain ⟨y0, y1, y2, y3, y4, y5, y6, y7⟩ := HZ28.out.frozen8
            have v0 := HZ18.out.cell 0
            have v1 := HZ18.out.cell 1
            have v2 := HZ18.out.cell 2
            simp at v0 v1 v2
            have v3 := HZ18.out.frozen 0
            have v4 := HZ18.out.frozen 1
            have v5 := HZ18.out.frozen 2
            have lv := HZ18.out.lt
            have lz := HZ28.out.lt
            have ne2 : w.heap.size + 1 + 1 ≠ w.heap.size + 1 := by omega
            clear XR S8 T8 x5
            refine wp_region_held_drew (S := fun w' => ExtX (fun b => b = w.heap.size + 1 ∨ b = w.heap.size + 1 + 1) W8 w') (by kernel_rfl) (by (try dsimp only); (exact xX)) (fun hHeld => ?_)
            refine tL 0 ?_;try simp only [Act.put,pA,pB,pC]
            refine tL 1 ?_;try simp only [Act.put,pA,pB,pC]
            refine dK 2 fun K hK => ?_; go_simp; refine hK.out _ _ (by (try dsimp only); (exact xX)) (fun hHeld => ?_); clear hK K; try simp only [Act.put,pA,pB,pC]
            refine dK 3 fun K hK => ?_; go_simp; refine hK.out _ _ (by (try dsimp only); (exact xX)) (fun hHeld => ?_); clear hK K; try simp only [Act.put,pA,pB,pC]
            refine wpAnyH_done (by kernel_rfl) ?_ _
            all_goals
              obtain ⟨B1, B2, X9⟩ := tail2 (a := some ⟨b, o, none⟩) (n := n) (c := c) (i := i + 1) (bad := false) (H := ⟨2, 0, tk.pos, 0, tk.text, ⟨#[]⟩, ⟨#[]⟩⟩) (ak := some ⟨wr.heap.size, 0, none⟩) (nk := 0) (ck := 0) HZ18.out HZ28.out
              have HR9 : Hid (RetE L (some ⟨b, o, none⟩) n c w (.ok (.mk ⟨2, 0, tk.pos, 0, tk.text, ⟨#[]⟩, ⟨#[]⟩⟩ [], l')) (.returned (.tuple #[.agg #[.slice (some ⟨b, o, none⟩) n c, .int .i64 ((i : Int) + 1), .bool false], .agg #[.int .u8 2, .int .u8 0, .int .i64 tk.pos, .int .i64 (0), .string tk.text, .string ⟨#[]⟩, .string ⟨#[]⟩, .slice (some ⟨wr.heap.size, 0, none⟩) 0 0]])) (w8s (w3s W8 (w.heap.size + 1) (some ⟨b, o, none⟩) n c (i + 1) false) (w.heap.size + 1 + 1) ⟨2, 0, tk.pos, 0, tk.text, ⟨#[]⟩, ⟨#[]⟩⟩ (some ⟨wr.heap.size, 0, none⟩) 0 0).drew) := hid (by
                have htf := HTF.out
                have hnv := numV_bound tk.text
                refine ⟨ExtX.ext HY8.out X9.drew (fun b e => by rcases e with e | e <;> omega), i + 1, false, ⟨2, 0, tk.pos, 0, tk.text, ⟨#[]⟩, ⟨#[]⟩⟩, some ⟨wr.heap.size, 0, none⟩, 0, 0, rfl, ⟨rfl, HA2.out.1, HA2.out.2⟩, fun t' l'' e => ?_⟩
                cases e
                exact ⟨rfl, ⟨by show (0 : Int) ≤ 2; omega, by show (2 : Int) ≤ 255; omega, by show (0 : Int) ≤ 0; omega, by show (0 : Int) ≤ 255; omega, htf.p0, htf.p1, by show (-9223372036854775808 : Int) ≤ 0; omega, by show (0 : Int) ≤ 9223372036854775807; omega, htf.text1, by show (0 : Nat) ≤ 9223372036854775807; omega, by show (0 : Nat) ≤ 9223372036854775807; omega⟩, Nat.le_refl _, by omega, IsTmsA.nil _⟩)
              obtain ⟨r0, r1', r2, -⟩ := SBlk.open_ (show SBlk _ _ (some ⟨b, o, none⟩) n c (i + 1) false from Blk.drew B1)
              obtain ⟨r3, r4, r5, r6, r7, r8, r9, ra⟩ := B2.drew.eight
              unfold w8s w3s at r0 r1' r2 r3 r4 r5 r6 r7 r8 r9 ra HR9
              simp only [Int.natCast_add, Int.cast_ofNat_Int] at r0 r1' r2 r3 r4 r5 r6 r7 r8 r9 ra HR9
              clear B1 B2 X9
              repeat (first | go_values | go_skip | go_guarded | go_step | go_upon)
              exact bodyPost_ret (v := (.tuple #[.agg #[.slice (some ⟨b, o, none⟩) n c, .int .i64 ((i : Int) + 1), .bool false], .agg #[.int .u8 2, .int .u8 0, .int .i64 tk.pos, .int .i64 (0), .string tk.text, .string ⟨#[]⟩, .string ⟨#[]⟩, .slice (some ⟨wr.heap.size, 0, none⟩) 0 0]])) (by simp [results, Tryz.results119, go_sem, r0, r1', r2, r3, r4, r5, r6, r7, r8, r9, ra]) rfl HR9.out
          · have hkn2 := hk1
            clear hk1
            obtain ⟨r1, hr1, hre1, her1, hokA, hokB⟩ := unary_open hnp hnr hkn1 hkn2 HP.out
            have KW : Hid (∀ W, Ext w W → Calls Tryz.prog 43 #[.agg #[.slice (some ⟨b, o, none⟩) n c, .int .i64 (i : Nat), .bool false], .string ⟨#[40]⟩] W fun e w' => Ext W w' ∧ ∃ i' bad', e = .returned (.agg #[.slice (some ⟨b, o, none⟩) n c, .int .i64 (i' : Nat), .bool bad']) ∧ StS L n i' bad' (getW s_open (tk :: l'))) := hid fun W h => ref5_wantS (α := Unit) L (some ⟨b, o, none⟩) n c i false (.ok ((), tk :: l')) s_open (by decide +kernel) W (HL.out.ext h) ⟨rfl, HA.out, HEE.out⟩
            have n1 : (tk.k == 1) = false := by simpa [kindT] using hkn1
            have n2 : (tk.k == 2) = false := by simpa [kindT] using hkn2
            obtain ⟨p0, p1, p2, f0, f1, f2, l0⟩ := SBlk.open_ HS0.out
            have kk0 := HK0.out.cell 0
            simp at kk0
            have HER1 := hid her1
            have HOKA := hid hokA
            have HOKB := hid hokB
            clear her1 hokA hokB hnp hnr hkn1 hkn2 hra
            go_upto_region 33 with (first | (go_at_call 43; refine (KW.out _ HY0.out).mono ?_; rintro e w2 ⟨x2, i2, bad2, rfl, hs2⟩; obtain ⟨m0, m1, m2, k0, k1, k2, ll0⟩ := SBlk.open_ (SBlk.ext HS0.out x2)) | (go_at_call 44; refine (ref5_exprS HEX.out L (some ⟨b, o, none⟩) n c i2 bad2 (getW s_open (tk :: l')) r1 _ (HL.out.ext (Ext.setCell (Ext.setCell (Ext.setCell (HY0.out.trans x2) (by simp) _) (by simp) _) (by simp) _)) hs2 hr1 hre1).mono ?_; rintro e w3 ⟨x3, i3, bad3, z, az, nz, cz, rfl, hs3, hT3⟩; obtain ⟨m0, m1, m2, k0, k1, k2, ll0⟩ := SBlk.open_ (SBlk.ext (show SBlk _ w.heap.size (some ⟨b, o, none⟩) n c i2 bad2 from Blk.lay3 (SBlk.ext HS0.out x2)) x3)))
            have S2s : SBlk (w3s w2 w.heap.size (some ⟨b, o, none⟩) n c i2 bad2) w.heap.size (some ⟨b, o, none⟩) n c i2 bad2 := w3s_blk (SBlk.ext HS0.out x2)
            have X2s : ExtX (· = w.heap.size) wr (w3s w2 w.heap.size (some ⟨b, o, none⟩) n c i2 bad2) := (ExtX.of x2).trans w3s_x
            have x3' : Ext (w3s w2 w.heap.size (some ⟨b, o, none⟩) n c i2 bad2) w3 := x3
            have hsz2 := X2s.size
            have hsz3 := Below.size x3'
            have HT3 : Hid (∀ t l, r1 = .ok (t, l) → t.head = z ∧ z.Fits ∧ nz ≤ cz ∧ cz ≤ 9223372036854775807 ∧ IsTmsA (fun q => q < w.heap.size + 1 + 1 + 1) ((w3s w3 w.heap.size (some ⟨b, o, none⟩) n c i3 bad3).alloc (.cells #[.int .u8 z.k, .int .u8 z.op, .int .i64 z.pos, .int .i64 z.n, .string z.name, .string z.arg, .string z.exn, .slice az nz cz] 28)) t.kids az nz) := hid fun t l h => by
              obtain ⟨e1, e2, e3, e4, e5⟩ := hT3 t l h
              have e5 : IsTmsA (fun q => q < (w3s w2 w.heap.size (some ⟨b, o, none⟩) n c i2 bad2).heap.size) w3 t.kids az nz := e5
              exact ⟨e1, e2, e3, e4, (((e5.move (A' := fun q => q < w.heap.size + 1 + 1 + 1) (fun q _ (hb : q < w.heap.size + 1 + 1 + 1) => by show q < _; omega) (fun _ _ _ hu => hu)).extx w3s_x (fun q (e : q = w.heap.size) => by show q < _; omega))).ext ((Ext.refl _).alloc _)⟩
            have S4X : SBlk ((w3s w3 w.heap.size (some ⟨b, o, none⟩) n c i3 bad3).alloc (.cells #[.int .u8 z.k, .int .u8 z.op, .int .i64 z.pos, .int .i64 z.n, .string z.name, .string z.arg, .string z.exn, .slice az nz cz] 28)) w.heap.size (some ⟨b, o, none⟩) n c i3 bad3 := (w3s_blk (SBlk.ext S2s x3')).alloc _
            have X4 : ExtX (· = w.heap.size) wr ((w3s w3 w.heap.size (some ⟨b, o, none⟩) n c i3 bad3).alloc (.cells #[.int .u8 z.k, .int .u8 z.op, .int .i64 z.pos, .int .i64 z.n, .string z.name, .string z.arg, .string z.exn, .slice az nz cz] 28)) := ((X2s.then_ x3').trans w3s_x).alloc _
            have T4X := Blk.new (w3s w3 w.heap.size (some ⟨b, o, none⟩) n c i3 bad3) 28 #[.int .u8 z.k, .int .u8 z.op, .int .i64 z.pos, .int .i64 z.n, .string z.name, .string z.arg, .string z.exn, .slice az nz cz]
            rw [w3s_size] at T4X
            have hb16 : w.heap.size + 1 + 1 + 1 < w3.heap.size := by omega
            unfold w3s at HT3 S4X X4 T4X
            generalize ((((w3.setCell ⟨w.heap.size, 0, none⟩ (.slice (some ⟨b, o, none⟩) n c)).setCell ⟨w.heap.size, 1, none⟩ (.int .i64 (i3 : Nat))).setCell ⟨w.heap.size, 2, none⟩ (.bool bad3)).alloc (.cells #[.int .u8 z.k, .int .u8 z.op, .int .i64 z.pos, .int .i64 z.n, .string z.name, .string z.arg, .string z.exn, .slice az nz cz] 28)) = W4 at *
            generalize w3.heap.size = b16 at *
            have HZ14X := Blk.extx HZ1.out X4 (show ¬ w.heap.size + 1 = w.heap.size by omega)
            have HZ24X := Blk.extx HZ2.out X4 (show ¬ w.heap.size + 1 + 1 = w.heap.size by omega)
            have HY4 := hid (ExtX.ext HY0.out X4 (fun q (e : q = w.heap.size) => by omega))
            have HK4 := hid (Blk.extx HK0.out X4 (show ¬ w.heap.size + 1 + 1 + 1 = w.heap.size by omega))
            clear S2s X2s x3' x2 x3 hT3 X4 m0 m1 m2 k0 k1 k2 ll0 hs2 hr1 hre1 KW p0 p1 p2 f0 f1 f2 l0
            cases r1 with
            | error l2 =>
              have hbad : bad3 = true := hs3.1
              subst hbad
              have HS3 := hid hs3
              have HFIN : Hid (∀ i6 bad6, StS L n i6 bad6 (thenR (.error l2 : Res Tm) (getW s_shut)) → StS L n i6 bad6 r) := hid fun i6 bad6 h => by rw [HER1.out l2 rfl]; exact h
              have HVAL : Hid (∀ t' l'', r = .ok (t', l'') → t'.head = z ∧ z.Fits ∧ nz ≤ cz ∧ cz ≤ 9223372036854775807 ∧ IsTmsA (fun q => q < w.heap.size + 1 + 1 + 1) W4 t'.kids az nz) := hid fun t' l'' e => by rw [HER1.out l2 rfl] at e; cases e
              have HYX := HY4
              clear hs3
              obtain ⟨q0', q1', q2', -⟩ := SBlk.open_ S4X
              have HZ1X := hid HZ14X
              have HZ2X := hid HZ24X
              have KW3 : Hid (∀ W, Ext W4 W → Calls Tryz.prog 43 #[.agg #[.slice (some ⟨b, o, none⟩) n c, .int .i64 (i3 : Nat), .bool true], .string ⟨#[41]⟩] W fun e w' => Ext W w' ∧ ∃ i' bad', e = .returned (.agg #[.slice (some ⟨b, o, none⟩) n c, .int .i64 (i' : Nat), .bool bad']) ∧ StS L n i' bad' (thenR (.error l2 : Res Tm) (getW s_shut))) := hid fun W h => ref5_wantS L (some ⟨b, o, none⟩) n c i3 true (.error l2 : Res Tm) s_shut (by decide +kernel) W (HL.out.ext (HYX.out.trans h)) HS3.out
              obtain ⟨vs0, vs1, vs2, -, -, -, lvs⟩ := SBlk.open_ S4X
              obtain ⟨d0, d1, d2, d3, d4, d5, d6, d7⟩ := T4X.eight
              have nS0 := fun W (h : ExtX (fun b => b = w.heap.size + 1 ∨ b = w.heap.size + 1 + 1) W4 W) => h.cell (p := ⟨w.heap.size, 0, none⟩) (show ¬ (w.heap.size = w.heap.size + 1 ∨ w.heap.size = w.heap.size + 1 + 1) by omega) vs0
              have nS1 := fun W (h : ExtX (fun b => b = w.heap.size + 1 ∨ b = w.heap.size + 1 + 1) W4 W) => h.cell (p := ⟨w.heap.size, 1, none⟩) (show ¬ (w.heap.size = w.heap.size + 1 ∨ w.heap.size = w.heap.size + 1 + 1) by omega) vs1
              have nS2 := fun W (h : ExtX (fun b => b = w.heap.size + 1 ∨ b = w.heap.size + 1 + 1) W4 W) => h.cell (p := ⟨w.heap.size, 2, none⟩) (show ¬ (w.heap.size = w.heap.size + 1 ∨ w.heap.size = w.heap.size + 1 + 1) by omega) vs2
              have nT0 := fun W (h : ExtX (fun b => b = w.heap.size + 1 ∨ b = w.heap.size + 1 + 1) W4 W) => h.cell (p := ⟨b16, 0, none⟩) (show ¬ (b16 = w.heap.size + 1 ∨ b16 = w.heap.size + 1 + 1) by omega) d0
              have nT1 := fun W (h : ExtX (fun b => b = w.heap.size + 1 ∨ b = w.heap.size + 1 + 1) W4 W) => h.cell (p := ⟨b16, 1, none⟩) (show ¬ (b16 = w.heap.size + 1 ∨ b16 = w.heap.size + 1 + 1) by omega) d1
              have nT2 := fun W (h : ExtX (fun b => b = w.heap.size + 1 ∨ b = w.heap.size + 1 + 1) W4 W) => h.cell (p := ⟨b16, 2, none⟩) (show ¬ (b16 = w.heap.size + 1 ∨ b16 = w.heap.size + 1 + 1) by omega) d2
              have nT3 := fun W (h : ExtX (fun b => b = w.heap.size + 1 ∨ b = w.heap.size + 1 + 1) W4 W) => h.cell (p := ⟨b16, 3, none⟩) (show ¬ (b16 = w.heap.size + 1 ∨ b16 = w.heap.size + 1 + 1) by omega) d3
              have nT4 := fun W (h : ExtX (fun b => b = w.heap.size + 1 ∨ b = w.heap.size + 1 + 1) W4 W) => h.cell (p := ⟨b16, 4, none⟩) (show ¬ (b16 = w.heap.size + 1 ∨ b16 = w.heap.size + 1 + 1) by omega) d4
              have nT5 := fun W (h : ExtX (fun b => b = w.heap.size + 1 ∨ b = w.heap.size + 1 + 1) W4 W) => h.cell (p := ⟨b16, 5, none⟩) (show ¬ (b16 = w.heap.size + 1 ∨ b16 = w.heap.size + 1 + 1) by omega) d5
              have nT6 := fun W (h : ExtX (fun b => b = w.heap.size + 1 ∨ b = w.heap.size + 1 + 1) W4 W) => h.cell (p := ⟨b16, 6, none⟩) (show ¬ (b16 = w.heap.size + 1 ∨ b16 = w.heap.size + 1 + 1) by omega) d6
              have nT7 := fun W (h : ExtX (fun b => b = w.heap.size + 1 ∨ b = w.heap.size + 1 + 1) W4 W) => h.cell (p := ⟨b16, 7, none⟩) (show ¬ (b16 = w.heap.size + 1 ∨ b16 = w.heap.size + 1 + 1) by omega) d7
              clear S4X T4X HZ14X HZ24X
              go_upto_region 34 with fail
              refine wp_region_held_drew (S := fun w' => ExtX (fun b => b = w.heap.size + 1 ∨ b = w.heap.size + 1 + 1) W4 w') (by kernel_rfl) (by (try dsimp only); (exact xX)) (fun hHeld => ?_)
              refine tL 0 ?_;try simp only [Act.put,pA,pB,pC]
              refine tL 2 ?_;try simp only [Act.put,pA,pB,pC]
              refine dK 1 fun K hK => ?_; go_simp; (first | (refine (KW3.out _ (by (exact eX))).mono ?_; rintro e w6 ⟨x6, i6, bad6, rfl, hs6⟩; have y6 : Ext W4 w6 := (by (exact eX) : Ext W4 _).trans x6; have Z16 := HZ1X.out.ext y6; have Z26 := HZ2X.out.ext y6; obtain ⟨z0, z1, z2, z3, z4, z5, z6, z7⟩ := Z26.eight; obtain ⟨g0, g1, g2, g3, g4, g5, g6, g7⟩ := Z26.frozen8; have v0 := Z16.cell 0; have v1 := Z16.cell 1; have v2 := Z16.cell 2; simp at v0 v1 v2; have v3 := Z16.frozen 0; have v4 := Z16.frozen 1; have v5 := Z16.frozen 2; have lv := Z16.lt; have lz := Z26.lt; have ne2 : w.heap.size + 1 + 1 ≠ w.heap.size + 1 := by omega)); (try (focus (go_wp2_with fail))); refine hK.out _ _ (by (try dsimp only); (exact xX)) (fun hHeld => ?_); clear hK K; try simp only [Act.put,pA,pB,pC]
              refine dK 3 fun K hK => ?_; go_simp; refine hK.out _ _ (by (try dsimp only); (exact xX)) (fun hHeld => ?_); clear hK K; try simp only [Act.put,pA,pB,pC]
              refine dK 4 fun K hK => ?_; go_simp; refine hK.out _ _ (by (try dsimp only); (exact xX)) (fun hHeld => ?_); clear hK K; try simp only [Act.put,pA,pB,pC]
              refine wpAnyH_done (by kernel_rfl) ?_ _
              all_goals
                obtain ⟨B1, B2, X9⟩ := tail2 (a := some ⟨b, o, none⟩) (n := n) (c := c) (i := i6) (bad := bad6) (H := z) (ak := az) (nk := nz) (ck := cz) Z16 Z26
                have HR9 : Hid (RetE L (some ⟨b, o, none⟩) n c w r (.returned (.tuple #[.agg #[.slice (some ⟨b, o, none⟩) n c, .int .i64 (i6 : Nat), .bool bad6], .agg #[.int .u8 z.k, .int .u8 z.op, .int .i64 z.pos, .int .i64 z.n, .string z.name, .string z.arg, .string z.exn, .slice az nz cz]])) (w8s (w3s w6 (w.heap.size + 1) (some ⟨b, o, none⟩) n c i6 bad6) (w.heap.size + 1 + 1) z az nz cz)) := hid (by
                  refine ⟨ExtX.ext (HYX.out.trans y6) X9 (fun b e => by rcases e with e | e <;> omega), i6, bad6, z, az, nz, cz, rfl, HFIN.out _ _ hs6, fun t' l'' e => ?_⟩
                  obtain ⟨e1, e2, e3, e4, e5⟩ := HVAL.out t' l'' e
                  exact ⟨e1, e2, e3, e4, ((e5.ext y6).extx X9 (fun b e => by show b < _; rcases e with e | e <;> omega)).move (fun b _ (hb : b < w.heap.size) => by show b < _; omega) (fun _ _ _ hu => hu)⟩)
                obtain ⟨r0, r1', r2, -⟩ := SBlk.open_ B1
                obtain ⟨r3, r4, r5, r6, r7, r8, r9, ra⟩ := B2.eight
                unfold w8s w3s at r0 r1' r2 r3 r4 r5 r6 r7 r8 r9 ra HR9
                clear B1 B2 X9 Z16 Z26 y6 x6 hs6
                repeat (first | go_values | go_skip | go_guarded | go_step | go_upon)
                exact bodyPost_ret (v := (.tuple #[.agg #[.slice (some ⟨b, o, none⟩) n c, .int .i64 (i6 : Nat), .bool bad6], .agg #[.int .u8 z.k, .int .u8 z.op, .int .i64 z.pos, .int .i64 z.n, .string z.name, .string z.arg, .string z.exn, .slice az nz cz]])) (by simp [results, Tryz.results119, go_sem, r0, r1', r2, r3, r4, r5, r6, r7, r8, r9, ra]) rfl HR9.out
            | ok p =>
              obtain ⟨a1, l2⟩ := p
              obtain ⟨hbad, hA3, hE3⟩ := hs3
              subst hbad
              have KX3 := hid fun W (h : Ext w W) => ref5_text L (some ⟨b, o, none⟩) n c i3 false l2 W (HL.out.ext h) hA3
              have ec : ((txS l2).toList == ([44] : List UInt8)) = decide (txS l2 = s_comma) := by rw [← toList_beq, show s_comma.toList = [44] from by rw [ByteArray.toList_eq]; rfl]
              obtain ⟨q0', q1', q2', -⟩ := SBlk.open_ S4X
              have HS3 : Hid (StS L n i3 false (.ok (a1, l2) : Res Tm)) := hid ⟨rfl, hA3, hE3⟩
              cases hc : isT [s_comma] l2 with
              | false =>
                have hcn : txS l2 ≠ s_comma := fun e => by
                  have h := (txS_is (xs := [s_comma]) (by decide +kernel) l2)
                  rw [hc, e] at h
                  exact absurd h (by decide +kernel)
                rw [decide_eq_false hcn] at ec
                have HOK := hid (HOKA.out a1 l2 rfl hc)
                have HFIN : Hid (∀ i6 bad6, StS L n i6 bad6 (thenR (.ok (a1, l2) : Res Tm) (getW s_shut)) → StS L n i6 bad6 r) := hid fun i6 bad6 h => by
                  have h : StS L n i6 bad6 (getW s_shut l2) := h
                  cases hg : getW s_shut l2 with
                  | error l3 => rw [hg] at h; rw [HOK.out.1 l3 hg]; exact h
                  | ok p3 =>
                    obtain ⟨u3, l3⟩ := p3
                    rw [hg] at h
                    rw [HOK.out.2 u3 l3 hg]
                    exact h
                have HV4 : Hid (∀ t' l'', r = .ok (t', l'') → t'.head = z ∧ z.Fits ∧ nz ≤ cz ∧ cz ≤ 9223372036854775807 ∧ IsTmsA (fun q => q < w.heap.size + 1 + 1 + 1) W4 t'.kids az nz) := hid fun t' l'' e => by
                  cases hg : getW s_shut l2 with
                  | error l3 => rw [HOK.out.1 l3 hg] at e; cases e
                  | ok p3 =>
                    obtain ⟨u3, l3⟩ := p3
                    rw [HOK.out.2 u3 l3 hg] at e
                    cases e
                    exact HT3.out a1 l2 rfl
                clear hcn hc
                go_upto_region 34 with (go_at_call 41; refine (KX3.out _ HY4.out).mono ?_; rintro e w5 ⟨rfl, x5⟩)
                have HVAL : Hid (∀ t' l'', r = .ok (t', l'') → t'.head = z ∧ z.Fits ∧ nz ≤ cz ∧ cz ≤ 9223372036854775807 ∧ IsTmsA (fun q => q < w.heap.size + 1 + 1 + 1) w5 t'.kids az nz) := hid fun t' l'' e => by
                  obtain ⟨e1, e2, e3, e4, e5⟩ := HV4.out t' l'' e
                  exact ⟨e1, e2, e3, e4, e5.ext x5⟩
                have HYX := hid (HY4.out.trans x5)
                have S5X := SBlk.ext S4X x5
                have T5X := T4X.ext x5
                have HZ15X := HZ14X.ext x5
                have HZ25X := HZ24X.ext x5
                clear S4X T4X HZ14X HZ24X x5 q0' q1' q2'
                have HZ1X := hid HZ15X
                have HZ2X := hid HZ25X
                have KW3 : Hid (∀ W, Ext w5 W → Calls Tryz.prog 43 #[.agg #[.slice (some ⟨b, o, none⟩) n c, .int .i64 (i3 : Nat), .bool false], .string ⟨#[41]⟩] W fun e w' => Ext W w' ∧ ∃ i' bad', e = .returned (.agg #[.slice (some ⟨b, o, none⟩) n c, .int .i64 (i' : Nat), .bool bad']) ∧ StS L n i' bad' (thenR (.ok (a1, l2) : Res Tm) (getW s_shut))) := hid fun W h => ref5_wantS L (some ⟨b, o, none⟩) n c i3 false (.ok (a1, l2) : Res Tm) s_shut (by decide +kernel) W (HL.out.ext (HYX.out.trans h)) HS3.out
                obtain ⟨vs0, vs1, vs2, -, -, -, lvs⟩ := SBlk.open_ S5X
                obtain ⟨d0, d1, d2, d3, d4, d5, d6, d7⟩ := T5X.eight
                have nS0 := fun W (h : ExtX (fun b => b = w.heap.size + 1 ∨ b = w.heap.size + 1 + 1) w5 W) => h.cell (p := ⟨w.heap.size, 0, none⟩) (show ¬ (w.heap.size = w.heap.size + 1 ∨ w.heap.size = w.heap.size + 1 + 1) by omega) vs0
                have nS1 := fun W (h : ExtX (fun b => b = w.heap.size + 1 ∨ b = w.heap.size + 1 + 1) w5 W) => h.cell (p := ⟨w.heap.size, 1, none⟩) (show ¬ (w.heap.size = w.heap.size + 1 ∨ w.heap.size = w.heap.size + 1 + 1) by omega) vs1
                have nS2 := fun W (h : ExtX (fun b => b = w.heap.size + 1 ∨ b = w.heap.size + 1 + 1) w5 W) => h.cell (p := ⟨w.heap.size, 2, none⟩) (show ¬ (w.heap.size = w.heap.size + 1 ∨ w.heap.size = w.heap.size + 1 + 1) by omega) vs2
                have nT0 := fun W (h : ExtX (fun b => b = w.heap.size + 1 ∨ b = w.heap.size + 1 + 1) w5 W) => h.cell (p := ⟨b16, 0, none⟩) (show ¬ (b16 = w.heap.size + 1 ∨ b16 = w.heap.size + 1 + 1) by omega) d0
                have nT1 := fun W (h : ExtX (fun b => b = w.heap.size + 1 ∨ b = w.heap.size + 1 + 1) w5 W) => h.cell (p := ⟨b16, 1, none⟩) (show ¬ (b16 = w.heap.size + 1 ∨ b16 = w.heap.size + 1 + 1) by omega) d1
                have nT2 := fun W (h : ExtX (fun b => b = w.heap.size + 1 ∨ b = w.heap.size + 1 + 1) w5 W) => h.cell (p := ⟨b16, 2, none⟩) (show ¬ (b16 = w.heap.size + 1 ∨ b16 = w.heap.size + 1 + 1) by omega) d2
                have nT3 := fun W (h : ExtX (fun b => b = w.heap.size + 1 ∨ b = w.heap.size + 1 + 1) w5 W) => h.cell (p := ⟨b16, 3, none⟩) (show ¬ (b16 = w.heap.size + 1 ∨ b16 = w.heap.size + 1 + 1) by omega) d3
                have nT4 := fun W (h : ExtX (fun b => b = w.heap.size + 1 ∨ b = w.heap.size + 1 + 1) w5 W) => h.cell (p := ⟨b16, 4, none⟩) (show ¬ (b16 = w.heap.size + 1 ∨ b16 = w.heap.size + 1 + 1) by omega) d4
                have nT5 := fun W (h : ExtX (fun b => b = w.heap.size + 1 ∨ b = w.heap.size + 1 + 1) w5 W) => h.cell (p := ⟨b16, 5, none⟩) (show ¬ (b16 = w.heap.size + 1 ∨ b16 = w.heap.size + 1 + 1) by omega) d5
                have nT6 := fun W (h : ExtX (fun b => b = w.heap.size + 1 ∨ b = w.heap.size + 1 + 1) w5 W) => h.cell (p := ⟨b16, 6, none⟩) (show ¬ (b16 = w.heap.size + 1 ∨ b16 = w.heap.size + 1 + 1) by omega) d6
                have nT7 := fun W (h : ExtX (fun b => b = w.heap.size + 1 ∨ b = w.heap.size + 1 + 1) w5 W) => h.cell (p := ⟨b16, 7, none⟩) (show ¬ (b16 = w.heap.size + 1 ∨ b16 = w.heap.size + 1 + 1) by omega) d7
                clear S5X T5X HZ15X HZ25X
                skip
                refine wp_region_held_drew (S := fun w' => ExtX (fun b => b = w.heap.size + 1 ∨ b = w.heap.size + 1 + 1) w5 w') (by kernel_rfl) (by (try dsimp only); (exact xX)) (fun hHeld => ?_)
                refine tL 0 ?_;try simp only [Act.put,pA,pB,pC]
                refine tL 2 ?_;try simp only [Act.put,pA,pB,pC]
                refine dK 1 fun K hK => ?_; go_simp; (first | (refine (KW3.out _ (by (exact eX))).mono ?_; rintro e w6 ⟨x6, i6, bad6, rfl, hs6⟩; have y6 : Ext w5 w6 := (by (exact eX) : Ext w5 _).trans x6; have Z16 := HZ1X.out.ext y6; have Z26 := HZ2X.out.ext y6; obtain ⟨z0, z1, z2, z3, z4, z5, z6, z7⟩ := Z26.eight; obtain ⟨g0, g1, g2, g3, g4, g5, g6, g7⟩ := Z26.frozen8; have v0 := Z16.cell 0; have v1 := Z16.cell 1; have v2 := Z16.cell 2; simp at v0 v1 v2; have v3 := Z16.frozen 0; have v4 := Z16.frozen 1; have v5 := Z16.frozen 2; have lv := Z16.lt; have lz := Z26.lt; have ne2 : w.heap.size + 1 + 1 ≠ w.heap.size + 1 := by omega)); (try (focus (go_wp2_with fail))); refine hK.out _ _ (by (try dsimp only); (exact xX)) (fun hHeld => ?_); clear hK K; try simp only [Act.put,pA,pB,pC]
                refine dK 3 fun K hK => ?_; go_simp; refine hK.out _ _ (by (try dsimp only); (exact xX)) (fun hHeld => ?_); clear hK K; try simp only [Act.put,pA,pB,pC]
                refine dK 4 fun K hK => ?_; go_simp; refine hK.out _ _ (by (try dsimp only); (exact xX)) (fun hHeld => ?_); clear hK K; try simp only [Act.put,pA,pB,pC]
                refine wpAnyH_done (by kernel_rfl) ?_ _
                all_goals
                  obtain ⟨B1, B2, X9⟩ := tail2 (a := some ⟨b, o, none⟩) (n := n) (c := c) (i := i6) (bad := bad6) (H := z) (ak := az) (nk := nz) (ck := cz) Z16 Z26
                  have HR9 : Hid (RetE L (some ⟨b, o, none⟩) n c w r (.returned (.tuple #[.agg #[.slice (some ⟨b, o, none⟩) n c, .int .i64 (i6 : Nat), .bool bad6], .agg #[.int .u8 z.k, .int .u8 z.op, .int .i64 z.pos, .int .i64 z.n, .string z.name, .string z.arg, .string z.exn, .slice az nz cz]])) (w8s (w3s w6 (w.heap.size + 1) (some ⟨b, o, none⟩) n c i6 bad6) (w.heap.size + 1 + 1) z az nz cz)) := hid (by
                    refine ⟨ExtX.ext (HYX.out.trans y6) X9 (fun b e => by rcases e with e | e <;> omega), i6, bad6, z, az, nz, cz, rfl, HFIN.out _ _ hs6, fun t' l'' e => ?_⟩
                    obtain ⟨e1, e2, e3, e4, e5⟩ := HVAL.out t' l'' e
                    exact ⟨e1, e2, e3, e4, ((e5.ext y6).extx X9 (fun b e => by show b < _; rcases e with e | e <;> omega)).move (fun b _ (hb : b < w.heap.size) => by show b < _; omega) (fun _ _ _ hu => hu)⟩)
                  obtain ⟨r0, r1', r2, -⟩ := SBlk.open_ B1
                  obtain ⟨r3, r4, r5, r6, r7, r8, r9, ra⟩ := B2.eight
                  unfold w8s w3s at r0 r1' r2 r3 r4 r5 r6 r7 r8 r9 ra HR9
                  clear B1 B2 X9 Z16 Z26 y6 x6 hs6
                  repeat (first | go_values | go_skip | go_guarded | go_step | go_upon)
                  exact bodyPost_ret (v := (.tuple #[.agg #[.slice (some ⟨b, o, none⟩) n c, .int .i64 (i6 : Nat), .bool bad6], .agg #[.int .u8 z.k, .int .u8 z.op, .int .i64 z.pos, .int .i64 z.n, .string z.name, .string z.arg, .string z.exn, .slice az nz cz]])) (by simp [results, Tryz.results119, go_sem, r0, r1', r2, r3, r4, r5, r6, r7, r8, r9, ra]) rfl HR9.out
              | true =>
                have hce : txS l2 = s_comma := by
                  have h := (txS_is (xs := [s_comma]) (by decide +kernel) l2)
                  rw [hc] at h
                  simpa using (inB_iff _ _).1 h
                rw [decide_eq_true hce] at ec
                obtain ⟨r2, hr2, her2, hok2⟩ := HOKB.out a1 l2 rfl hc
                obtain ⟨hE4, -⟩ := hE3.is_ hc
                obtain ⟨tk2, l2', bb, oo, hl2, -, -, -, -, -, hnx2⟩ := hA3.tok HL.out
                have hne4 : l2.tail ≠ [] := by intro h; rw [h] at hE4; exact hE4
                have hA4 : AtS L n (i3 + 1) l2.tail := by
                  rw [hl2] at hne4 ⊢
                  exact hnx2 hne4
                have hi4 := hA4.2
                have hwi3 : IntKind.i64.wrap ((i3 : Int) + 1) = (i3 : Int) + 1 := IntWalk.i64_in _ ⟨by omega, by omega⟩
                have KE2 : Hid (∀ W, Ext w W → Calls Tryz.prog 44 #[.agg #[.slice (some ⟨b, o, none⟩) n c, .int .i64 ((i3 : Int) + 1), .bool false]] W (RetE L (some ⟨b, o, none⟩) n c W r2)) := hid fun W h => HEX.out L (some ⟨b, o, none⟩) n c (i3 + 1) l2.tail r2 W (HL.out.ext h) hA4 hE4 hr2
                have HER2 := hid her2
                have HOK2 := hid hok2
                clear hce hE4 hl2 hnx2 hne4 hA4 hr2 her2 hok2 hc hA3 hE3
                go_upto_region 37 with (first | (go_at_call 41; refine (KX3.out _ HY4.out).mono ?_; rintro e w5 ⟨rfl, x5⟩; obtain ⟨m0, m1, m2, k0, k1, k2, ll0⟩ := SBlk.open_ (SBlk.ext S4X x5)) | (go_at_call 44; refine (KE2.out _ (Ext.setCell (HY4.out.trans x5) (by simp) _)).mono ?_; rintro e w7 ⟨x7, i7, bad7, y, ay, ny, cy, rfl, hs7, hT7⟩; obtain ⟨m0, m1, m2, k0, k1, k2, ll0⟩ := SBlk.open_ (SBlk.ext (SBlk.next (SBlk.ext S4X x5)) x7)))
                have X57 : ExtX (· = w.heap.size) W4 (w5.setCell ⟨w.heap.size, 1, none⟩ (.int .i64 ((i3 : Int) + 1))) := (ExtX.of (A := (· = w.heap.size)) x5).setCell (p := ⟨w.heap.size, 1, none⟩) (.inl rfl) _
                have hsz57 := X57.size
                have hsz7 := Below.size x7
                have S7 := SBlk.ext (SBlk.next (SBlk.ext S4X x5)) x7
                have X8 : ExtX (· = w.heap.size) W4 ((w3s w7 w.heap.size (some ⟨b, o, none⟩) n c i7 bad7).alloc (.cells #[.int .u8 y.k, .int .u8 y.op, .int .i64 y.pos, .int .i64 y.n, .string y.name, .string y.arg, .string y.exn, .slice ay ny cy] 28)) := ((X57.then_ x7).trans w3s_x).alloc _
                have S8X : SBlk ((w3s w7 w.heap.size (some ⟨b, o, none⟩) n c i7 bad7).alloc (.cells #[.int .u8 y.k, .int .u8 y.op, .int .i64 y.pos, .int .i64 y.n, .string y.name, .string y.arg, .string y.exn, .slice ay ny cy] 28)) w.heap.size (some ⟨b, o, none⟩) n c i7 bad7 := (w3s_blk S7).alloc _
                have T8X := Blk.new (w3s w7 w.heap.size (some ⟨b, o, none⟩) n c i7 bad7) 28 #[.int .u8 y.k, .int .u8 y.op, .int .i64 y.pos, .int .i64 y.n, .string y.name, .string y.arg, .string y.exn, .slice ay ny cy]
                rw [w3s_size] at T8X
                have hlt16 := T4X.lt
                have HT7 : Hid (∀ t l, r2 = .ok (t, l) → t.head = y ∧ y.Fits ∧ ny ≤ cy ∧ cy ≤ 9223372036854775807 ∧ IsTmsA (fun q => q < w.heap.size + 1 + 1 + 1) ((w3s w7 w.heap.size (some ⟨b, o, none⟩) n c i7 bad7).alloc (.cells #[.int .u8 y.k, .int .u8 y.op, .int .i64 y.pos, .int .i64 y.n, .string y.name, .string y.arg, .string y.exn, .slice ay ny cy] 28)) t.kids ay ny) := hid fun t l h => by
                  obtain ⟨e1, e2, e3, e4, e5⟩ := hT7 t l h
                  have e5 : IsTmsA (fun q => q < (w5.setCell ⟨w.heap.size, 1, none⟩ (.int .i64 ((i3 : Int) + 1))).heap.size) w7 t.kids ay ny := e5
                  exact ⟨e1, e2, e3, e4, (((e5.move (A' := fun q => q < w.heap.size + 1 + 1 + 1) (fun q _ (hb : q < w.heap.size + 1 + 1 + 1) => by show q < _; omega) (fun _ _ _ hu => hu)).extx w3s_x (fun q (e : q = w.heap.size) => by show q < _; omega))).ext ((Ext.refl _).alloc _)⟩
                have HTA8 : Hid (a1.head = z ∧ z.Fits ∧ nz ≤ cz ∧ cz ≤ 9223372036854775807 ∧ IsTmsA (fun q => q < w.heap.size + 1 + 1 + 1) ((w3s w7 w.heap.size (some ⟨b, o, none⟩) n c i7 bad7).alloc (.cells #[.int .u8 y.k, .int .u8 y.op, .int .i64 y.pos, .int .i64 y.n, .string y.name, .string y.arg, .string y.exn, .slice ay ny cy] 28)) a1.kids az nz) := hid (by
                  obtain ⟨e1, e2, e3, e4, e5⟩ := HT3.out a1 l2 rfl
                  exact ⟨e1, e2, e3, e4, e5.extx X8 (fun q (e : q = w.heap.size) => by show q < _; omega)⟩)
                have hb17 : b16 < w7.heap.size := by omega
                unfold w3s at X8 S8X T8X HT7 HTA8
                generalize ((((w7.setCell ⟨w.heap.size, 0, none⟩ (.slice (some ⟨b, o, none⟩) n c)).setCell ⟨w.heap.size, 1, none⟩ (.int .i64 (i7 : Nat))).setCell ⟨w.heap.size, 2, none⟩ (.bool bad7)).alloc (.cells #[.int .u8 y.k, .int .u8 y.op, .int .i64 y.pos, .int .i64 y.n, .string y.name, .string y.arg, .string y.exn, .slice ay ny cy] 28)) = W8 at *
                generalize w7.heap.size = b17 at *
                have HZ18X := Blk.extx HZ14X X8 (show ¬ w.heap.size + 1 = w.heap.size by omega)
                have HZ28X := Blk.extx HZ24X X8 (show ¬ w.heap.size + 1 + 1 = w.heap.size by omega)
                have HK8 := Blk.extx HK4.out X8 (show ¬ w.heap.size + 1 + 1 + 1 = w.heap.size by omega)
                have T16X := Blk.extx T4X X8 (show ¬ b16 = w.heap.size by omega)
                have HY8 := hid (ExtX.ext HY4.out X8 (fun q (e : q = w.heap.size) => by omega))
                have HS7 := hid hs7
                have KW7 : Hid (∀ W, Ext W8 W → Calls Tryz.prog 43 #[.agg #[.slice (some ⟨b, o, none⟩) n c, .int .i64 (i7 : Nat), .bool bad7], .string ⟨#[41]⟩] W fun e w' => Ext W w' ∧ ∃ i' bad', e = .returned (.agg #[.slice (some ⟨b, o, none⟩) n c, .int .i64 (i' : Nat), .bool bad']) ∧ StS L n i' bad' (thenR r2 (getW s_shut))) := hid fun W h => ref5_wantS L (some ⟨b, o, none⟩) n c i7 bad7 r2 s_shut (by decide +kernel) W (HL.out.ext (HY8.out.trans h)) HS7.out
                obtain ⟨vs0, vs1, vs2, -, -, -, lvs⟩ := SBlk.open_ S8X
                obtain ⟨d0, d1, d2, d3, d4, d5, d6, d7⟩ := T16X.eight
                obtain ⟨e0, e1, e2, e3, e4, e5, e6, e7⟩ := T8X.eight
                have vk := HK8.cell 2
                simp at vk
                have nS0 := fun W (h : ExtX (fun b => b = w.heap.size + 1 ∨ b = w.heap.size + 1 + 1) W8 W) => h.cell (p := ⟨w.heap.size, 0, none⟩) (show ¬ (w.heap.size = w.heap.size + 1 ∨ w.heap.size = w.heap.size + 1 + 1) by omega) vs0
                have nS1 := fun W (h : ExtX (fun b => b = w.heap.size + 1 ∨ b = w.heap.size + 1 + 1) W8 W) => h.cell (p := ⟨w.heap.size, 1, none⟩) (show ¬ (w.heap.size = w.heap.size + 1 ∨ w.heap.size = w.heap.size + 1 + 1) by omega) vs1
                have nS2 := fun W (h : ExtX (fun b => b = w.heap.size + 1 ∨ b = w.heap.size + 1 + 1) W8 W) => h.cell (p := ⟨w.heap.size, 2, none⟩) (show ¬ (w.heap.size = w.heap.size + 1 ∨ w.heap.size = w.heap.size + 1 + 1) by omega) vs2
                have nT0 := fun W (h : ExtX (fun b => b = w.heap.size + 1 ∨ b = w.heap.size + 1 + 1) W8 W) => h.cell (p := ⟨b16, 0, none⟩) (show ¬ (b16 = w.heap.size + 1 ∨ b16 = w.heap.size + 1 + 1) by omega) d0
                have nU0 := fun W (h : ExtX (fun b => b = w.heap.size + 1 ∨ b = w.heap.size + 1 + 1) W8 W) => h.cell (p := ⟨b17, 0, none⟩) (show ¬ (b17 = w.heap.size + 1 ∨ b17 = w.heap.size + 1 + 1) by omega) e0
                have nT1 := fun W (h : ExtX (fun b => b = w.heap.size + 1 ∨ b = w.heap.size + 1 + 1) W8 W) => h.cell (p := ⟨b16, 1, none⟩) (show ¬ (b16 = w.heap.size + 1 ∨ b16 = w.heap.size + 1 + 1) by omega) d1
                have nU1 := fun W (h : ExtX (fun b => b = w.heap.size + 1 ∨ b = w.heap.size + 1 + 1) W8 W) => h.cell (p := ⟨b17, 1, none⟩) (show ¬ (b17 = w.heap.size + 1 ∨ b17 = w.heap.size + 1 + 1) by omega) e1
                have nT2 := fun W (h : ExtX (fun b => b = w.heap.size + 1 ∨ b = w.heap.size + 1 + 1) W8 W) => h.cell (p := ⟨b16, 2, none⟩) (show ¬ (b16 = w.heap.size + 1 ∨ b16 = w.heap.size + 1 + 1) by omega) d2
                have nU2 := fun W (h : ExtX (fun b => b = w.heap.size + 1 ∨ b = w.heap.size + 1 + 1) W8 W) => h.cell (p := ⟨b17, 2, none⟩) (show ¬ (b17 = w.heap.size + 1 ∨ b17 = w.heap.size + 1 + 1) by omega) e2
                have nT3 := fun W (h : ExtX (fun b => b = w.heap.size + 1 ∨ b = w.heap.size + 1 + 1) W8 W) => h.cell (p := ⟨b16, 3, none⟩) (show ¬ (b16 = w.heap.size + 1 ∨ b16 = w.heap.size + 1 + 1) by omega) d3
                have nU3 := fun W (h : ExtX (fun b => b = w.heap.size + 1 ∨ b = w.heap.size + 1 + 1) W8 W) => h.cell (p := ⟨b17, 3, none⟩) (show ¬ (b17 = w.heap.size + 1 ∨ b17 = w.heap.size + 1 + 1) by omega) e3
                have nT4 := fun W (h : ExtX (fun b => b = w.heap.size + 1 ∨ b = w.heap.size + 1 + 1) W8 W) => h.cell (p := ⟨b16, 4, none⟩) (show ¬ (b16 = w.heap.size + 1 ∨ b16 = w.heap.size + 1 + 1) by omega) d4
                have nU4 := fun W (h : ExtX (fun b => b = w.heap.size + 1 ∨ b = w.heap.size + 1 + 1) W8 W) => h.cell (p := ⟨b17, 4, none⟩) (show ¬ (b17 = w.heap.size + 1 ∨ b17 = w.heap.size + 1 + 1) by omega) e4
                have nT5 := fun W (h : ExtX (fun b => b = w.heap.size + 1 ∨ b = w.heap.size + 1 + 1) W8 W) => h.cell (p := ⟨b16, 5, none⟩) (show ¬ (b16 = w.heap.size + 1 ∨ b16 = w.heap.size + 1 + 1) by omega) d5
                have nU5 := fun W (h : ExtX (fun b => b = w.heap.size + 1 ∨ b = w.heap.size + 1 + 1) W8 W) => h.cell (p := ⟨b17, 5, none⟩) (show ¬ (b17 = w.heap.size + 1 ∨ b17 = w.heap.size + 1 + 1) by omega) e5
                have nT6 := fun W (h : ExtX (fun b => b = w.heap.size + 1 ∨ b = w.heap.size + 1 + 1) W8 W) => h.cell (p := ⟨b16, 6, none⟩) (show ¬ (b16 = w.heap.size + 1 ∨ b16 = w.heap.size + 1 + 1) by omega) d6
                have nU6 := fun W (h : ExtX (fun b => b = w.heap.size + 1 ∨ b = w.heap.size + 1 + 1) W8 W) => h.cell (p := ⟨b17, 6, none⟩) (show ¬ (b17 = w.heap.size + 1 ∨ b17 = w.heap.size + 1 + 1) by omega) e6
                have nT7 := fun W (h : ExtX (fun b => b = w.heap.size + 1 ∨ b = w.heap.size + 1 + 1) W8 W) => h.cell (p := ⟨b16, 7, none⟩) (show ¬ (b16 = w.heap.size + 1 ∨ b16 = w.heap.size + 1 + 1) by omega) d7
                have nU7 := fun W (h : ExtX (fun b => b = w.heap.size + 1 ∨ b = w.heap.size + 1 + 1) W8 W) => h.cell (p := ⟨b17, 7, none⟩) (show ¬ (b17 = w.heap.size + 1 ∨ b17 = w.heap.size + 1 + 1) by omega) e7
                have nK := fun W (h : ExtX (fun b => b = w.heap.size + 1 ∨ b = w.heap.size + 1 + 1) W8 W) => h.cell (p := ⟨w.heap.size + 1 + 1 + 1, 2, none⟩) (show ¬ (w.heap.size + 1 + 1 + 1 = w.heap.size + 1 ∨ w.heap.size + 1 + 1 + 1 = w.heap.size + 1 + 1) by omega) vk
                have HZ1Y := hid HZ18X
                have hz8 : w.heap.size + 1 + 1 + 1 < W8.heap.size := HK8.lt
                have HZ2Y := hid HZ28X
                clear S8X T8X T16X HK8 HZ18X HZ28X S7 X57 X8 x5 x7 hs7 hT7 S4X T4X HZ14X HZ24X m0 m1 m2 k0 k1 k2 ll0 q0' q1' q2'
                refine wp_region_held_drew (S := fun w' => ExtX (fun b => b = w.heap.size + 1 ∨ b = w.heap.size + 1 + 1) W8 w') (by kernel_rfl) (by (try dsimp only); (exact xX)) (fun hHeld => ?_)
                refine tL 0 ?_;try simp only [Act.put,pA,pB,pC]
                refine tL 2 ?_;try simp only [Act.put,pA,pB,pC]
                refine tL 3 ?_;try simp only [Act.put,pA,pB,pC]
                refine tL 4 ?_;try simp only [Act.put,pA,pB,pC]
                refine tL 5 ?_;try simp only [Act.put,pA,pB,pC]
                refine wpAnyH_ready (rs := [1, 6]) (by kernel_rfl) (by simp) ?_
                refine held_cons 1 rfl (by rfl) (fun K hK => ?_) (held_cons 6 rfl (by rfl) (fun K hK => ?_) AllReadyH.nil)
                go_simp; (first | (go_at_call 43; refine (KW7.out _ (by (exact eX))).mono ?_; rintro e w9 ⟨x9, i9, bad9, rfl, hs9⟩)); (try (focus (go_wp2_with fail))); refine hK.out _ _ (by (try dsimp only); (exact xX)) (fun hHeld => ?_); clear hK K; try simp only [Act.put,pA,pB,pC]
                refine dK 6 fun K hK => ?_; go_simp; refine hK.out _ _ (by (try dsimp only); (exact xX)) (fun hHeld => ?_); clear hK K; try simp only [Act.put,pA,pB,pC]
                refine dK 7 fun K hK => ?_; go_simp; (first | (go_at_call 121; refine (ref5_term _ _ _ _ _ _).mono ?_; rintro e wa ⟨rfl, xa⟩; have ya : Ext W8 wa := (by (exact eX) : Ext W8 _).trans xa; have Z16 := HZ1Y.out.ext ya; have Z26 := HZ2Y.out.ext ya; obtain ⟨z0, z1, z2, z3, z4, z5, z6, z7⟩ := Z26.eight; obtain ⟨g0, g1, g2, g3, g4, g5, g6, g7⟩ := Z26.frozen8; have v0 := Z16.cell 0; have v1 := Z16.cell 1; have v2 := Z16.cell 2; simp at v0 v1 v2; have v3 := Z16.frozen 0; have v4 := Z16.frozen 1; have v5 := Z16.frozen 2; have lv := Z16.lt; have lz := Z26.lt; have ne2 : w.heap.size + 1 + 1 ≠ w.heap.size + 1 := by omega)); (try (focus (go_wp2_with fail))); refine hK.out _ _ (by (try dsimp only); (exact xX)) (fun hHeld => ?_); clear hK K; try simp only [Act.put,pA,pB,pC]
                refine dK 8 fun K hK => ?_; go_simp; refine hK.out _ _ (by (try dsimp only); (exact xX)) (fun hHeld => ?_); clear hK K; try simp only [Act.put,pA,pB,pC]
                refine dK 9 fun K hK => ?_; go_simp; refine hK.out _ _ (by (try dsimp only); (exact xX)) (fun hHeld => ?_); clear hK K; try simp only [Act.put,pA,pB,pC]
                refine wpAnyH_done (by kernel_rfl) ?_ _
                rotate_left 1
                go_simp; refine hK.out _ _ (by (try dsimp only); (exact xX)) (fun hHeld => ?_); clear hK K; try simp only [Act.put,pA,pB,pC]
                refine dK 1 fun K hK => ?_; go_simp; (first | (go_at_call 43; refine (KW7.out _ (by (exact eX))).mono ?_; rintro e w9 ⟨x9, i9, bad9, rfl, hs9⟩)); (try (focus (go_wp2_with fail))); refine hK.out _ _ (by (try dsimp only); (exact xX)) (fun hHeld => ?_); clear hK K; try simp only [Act.put,pA,pB,pC]
                refine dK 7 fun K hK => ?_; go_simp; (first | (go_at_call 121; refine (ref5_term _ _ _ _ _ _).mono ?_; rintro e wa ⟨rfl, xa⟩; have ya : Ext W8 wa := (by (exact eX) : Ext W8 _).trans xa; have Z16 := HZ1Y.out.ext ya; have Z26 := HZ2Y.out.ext ya; obtain ⟨z0, z1, z2, z3, z4, z5, z6, z7⟩ := Z26.eight; obtain ⟨g0, g1, g2, g3, g4, g5, g6, g7⟩ := Z26.frozen8; have v0 := Z16.cell 0; have v1 := Z16.cell 1; have v2 := Z16.cell 2; simp at v0 v1 v2; have v3 := Z16.frozen 0; have v4 := Z16.frozen 1; have v5 := Z16.frozen 2; have lv := Z16.lt; have lz := Z26.lt; have ne2 : w.heap.size + 1 + 1 ≠ w.heap.size + 1 := by omega)); (try (focus (go_wp2_with fail))); refine hK.out _ _ (by (try dsimp only); (exact xX)) (fun hHeld => ?_); clear hK K; try simp only [Act.put,pA,pB,pC]
                refine dK 8 fun K hK => ?_; go_simp; refine hK.out _ _ (by (try dsimp only); (exact xX)) (fun hHeld => ?_); clear hK K; try simp only [Act.put,pA,pB,pC]
                refine dK 9 fun K hK => ?_; go_simp; refine hK.out _ _ (by (try dsimp only); (exact xX)) (fun hHeld => ?_); clear hK K; try simp only [Act.put,pA,pB,pC]
                refine wpAnyH_done (by kernel_rfl) ?_ _
                rotate_left 1
                · have hG : Blk wa w9.heap.size 28 #[.int .u8 z.k, .int .u8 z.op, .int .i64 z.pos, .int .i64 z.n, .string z.name, .string z.arg, .string z.exn, .slice az nz cz, .int .u8 y.k, .int .u8 y.op, .int .i64 y.pos, .int .i64 y.n, .string y.name, .string y.arg, .string y.exn, .slice ay ny cy] := (by first | exact (Blk.new w9 _ _).ext xa | exact (Blk.new w9 _ _).drew.ext xa)
                  have hgle : w.heap.size + 1 + 1 + 1 ≤ w9.heap.size := (by have := Below.size x9; have h2 : W8.heap.size ≤ w9.heap.size := this; omega)
                  obtain ⟨B1, B2, X9⟩ := tail2 (a := some ⟨b, o, none⟩) (n := n) (c := c) (i := i9) (bad := bad9) (H := ⟨3, 0, tk.pos, 0, ⟨#[]⟩, ⟨#[]⟩, ⟨#[]⟩⟩) (ak := some ⟨w9.heap.size, 0, none⟩) (nk := 2) (ck := 2) Z16 Z26
                  have HR9 : Hid (RetE L (some ⟨b, o, none⟩) n c w r (.returned (.tuple #[.agg #[.slice (some ⟨b, o, none⟩) n c, .int .i64 (i9 : Nat), .bool bad9], .agg #[.int .u8 3, .int .u8 0, .int .i64 tk.pos, .int .i64 0, .string ⟨#[]⟩, .string ⟨#[]⟩, .string ⟨#[]⟩, .slice (some ⟨w9.heap.size, 0, none⟩) 2 2]])) (w8s (w3s wa (w.heap.size + 1) (some ⟨b, o, none⟩) n c i9 bad9) (w.heap.size + 1 + 1) ⟨3, 0, tk.pos, 0, ⟨#[]⟩, ⟨#[]⟩, ⟨#[]⟩⟩ (some ⟨w9.heap.size, 0, none⟩) 2 2)) := hid (by
                    have htf := HTF.out
                    refine ⟨ExtX.ext (HY8.out.trans ya) X9 (fun b e => by rcases e with e | e <;> omega), i9, bad9, ⟨3, 0, tk.pos, 0, ⟨#[]⟩, ⟨#[]⟩, ⟨#[]⟩⟩, some ⟨w9.heap.size, 0, none⟩, 2, 2, rfl, ?_, fun t' l'' e => ?_⟩
                    · cases r2 with
                      | error l3 => rw [HER2.out l3 rfl]; exact hs9
                      | ok p3 =>
                        obtain ⟨tb, l3⟩ := p3
                        have h : StS L n i9 bad9 (getW s_shut l3) := hs9
                        cases hg : getW s_shut l3 with
                        | error l4 => rw [hg] at h; rw [(HOK2.out tb l3 rfl).1 l4 hg]; exact h
                        | ok p4 =>
                          obtain ⟨u4, l4⟩ := p4
                          rw [hg] at h
                          rw [(HOK2.out tb l3 rfl).2 u4 l4 hg]
                          exact h
                    · cases r2 with
                      | error l3 => rw [HER2.out l3 rfl] at e; cases e
                      | ok p3 =>
                        obtain ⟨tb, l3⟩ := p3
                        cases hg : getW s_shut l3 with
                        | error l4 => rw [(HOK2.out tb l3 rfl).1 l4 hg] at e; cases e
                        | ok p4 =>
                          obtain ⟨u4, l4⟩ := p4
                          rw [(HOK2.out tb l3 rfl).2 u4 l4 hg] at e
                          cases e
                          obtain ⟨f1, f2, f3, f4, f5⟩ := HTA8.out
                          obtain ⟨g1, g2, g3, g4, g5⟩ := HT7.out tb l3 rfl
                          have hp := pair_row (A := fun q => q < w.heap.size + 1 + 1 + 1) (g := w9.heap.size) ya f3 f4 g3 g4 f2 g2 f5 g5 (by show ¬ w9.heap.size < _; omega) hG
                          have e1 : Tm.mk z a1.kids = a1 := by rw [← f1]; cases a1; rfl
                          have e2 : Tm.mk y tb.kids = tb := by rw [← g1]; cases tb; rfl
                          rw [e1, e2] at hp
                          exact ⟨rfl, ⟨by show (0 : Int) ≤ 3; omega, by show (3 : Int) ≤ 255; omega, by show (0 : Int) ≤ 0; omega, by show (0 : Int) ≤ 255; omega, htf.p0, htf.p1, by show (-9223372036854775808 : Int) ≤ 0; omega, by show (0 : Int) ≤ 9223372036854775807; omega, by show (0 : Nat) ≤ 9223372036854775807; omega, by show (0 : Nat) ≤ 9223372036854775807; omega, by show (0 : Nat) ≤ 9223372036854775807; omega⟩, Nat.le_refl _, by omega, (hp.extx X9 (fun b e => by show b < _; rcases e with e | e <;> omega)).move (fun b _ (hb : b < w.heap.size) => by show b < _; omega) (fun _ _ _ hu => hu)⟩)
                  obtain ⟨r0, r1', r2', -⟩ := SBlk.open_ B1
                  obtain ⟨r3, r4, r5, r6, r7, r8, r9, ra⟩ := B2.eight
                  unfold w8s w3s at r0 r1' r2' r3 r4 r5 r6 r7 r8 r9 ra HR9
                  clear B1 B2 X9 Z16 Z26 hG ya xa x9 hs9
                  repeat (first | go_values | go_skip | go_guarded | go_step | go_upon)
                  exact bodyPost_ret (v := (.tuple #[.agg #[.slice (some ⟨b, o, none⟩) n c, .int .i64 (i9 : Nat), .bool bad9], .agg #[.int .u8 3, .int .u8 0, .int .i64 tk.pos, .int .i64 0, .string ⟨#[]⟩, .string ⟨#[]⟩, .string ⟨#[]⟩, .slice (some ⟨w9.heap.size, 0, none⟩) 2 2]])) (by simp [results, Tryz.results119, go_sem, r0, r1', r2', r3, r4, r5, r6, r7, r8, r9, ra]) rfl HR9.out
                · have hG : Blk wa W8.heap.size 28 #[.int .u8 z.k, .int .u8 z.op, .int .i64 z.pos, .int .i64 z.n, .string z.name, .string z.arg, .string z.exn, .slice az nz cz, .int .u8 y.k, .int .u8 y.op, .int .i64 y.pos, .int .i64 y.n, .string y.name, .string y.arg, .string y.exn, .slice ay ny cy] := (by first | exact ((Blk.new W8 _ _).drew.ext x9).ext xa | exact ((Blk.new W8.drew _ _).ext x9).ext xa | exact ((Blk.new W8 _ _).ext x9).ext xa)
                  have hgle : w.heap.size + 1 + 1 + 1 ≤ W8.heap.size := (by omega)
                  obtain ⟨B1, B2, X9⟩ := tail2 (a := some ⟨b, o, none⟩) (n := n) (c := c) (i := i9) (bad := bad9) (H := ⟨3, 0, tk.pos, 0, ⟨#[]⟩, ⟨#[]⟩, ⟨#[]⟩⟩) (ak := some ⟨W8.heap.size, 0, none⟩) (nk := 2) (ck := 2) Z16 Z26
                  have HR9 : Hid (RetE L (some ⟨b, o, none⟩) n c w r (.returned (.tuple #[.agg #[.slice (some ⟨b, o, none⟩) n c, .int .i64 (i9 : Nat), .bool bad9], .agg #[.int .u8 3, .int .u8 0, .int .i64 tk.pos, .int .i64 0, .string ⟨#[]⟩, .string ⟨#[]⟩, .string ⟨#[]⟩, .slice (some ⟨W8.heap.size, 0, none⟩) 2 2]])) (w8s (w3s wa (w.heap.size + 1) (some ⟨b, o, none⟩) n c i9 bad9) (w.heap.size + 1 + 1) ⟨3, 0, tk.pos, 0, ⟨#[]⟩, ⟨#[]⟩, ⟨#[]⟩⟩ (some ⟨W8.heap.size, 0, none⟩) 2 2)) := hid (by
                    have htf := HTF.out
                    refine ⟨ExtX.ext (HY8.out.trans ya) X9 (fun b e => by rcases e with e | e <;> omega), i9, bad9, ⟨3, 0, tk.pos, 0, ⟨#[]⟩, ⟨#[]⟩, ⟨#[]⟩⟩, some ⟨W8.heap.size, 0, none⟩, 2, 2, rfl, ?_, fun t' l'' e => ?_⟩
                    · cases r2 with
                      | error l3 => rw [HER2.out l3 rfl]; exact hs9
                      | ok p3 =>
                        obtain ⟨tb, l3⟩ := p3
                        have h : StS L n i9 bad9 (getW s_shut l3) := hs9
                        cases hg : getW s_shut l3 with
                        | error l4 => rw [hg] at h; rw [(HOK2.out tb l3 rfl).1 l4 hg]; exact h
                        | ok p4 =>
                          obtain ⟨u4, l4⟩ := p4
                          rw [hg] at h
                          rw [(HOK2.out tb l3 rfl).2 u4 l4 hg]
                          exact h
                    · cases r2 with
                      | error l3 => rw [HER2.out l3 rfl] at e; cases e
                      | ok p3 =>
                        obtain ⟨tb, l3⟩ := p3
                        cases hg : getW s_shut l3 with
                        | error l4 => rw [(HOK2.out tb l3 rfl).1 l4 hg] at e; cases e
                        | ok p4 =>
                          obtain ⟨u4, l4⟩ := p4
                          rw [(HOK2.out tb l3 rfl).2 u4 l4 hg] at e
                          cases e
                          obtain ⟨f1, f2, f3, f4, f5⟩ := HTA8.out
                          obtain ⟨g1, g2, g3, g4, g5⟩ := HT7.out tb l3 rfl
                          have hp := pair_row (A := fun q => q < w.heap.size + 1 + 1 + 1) (g := W8.heap.size) ya f3 f4 g3 g4 f2 g2 f5 g5 (by show ¬ W8.heap.size < _; omega) hG
                          have e1 : Tm.mk z a1.kids = a1 := by rw [← f1]; cases a1; rfl
                          have e2 : Tm.mk y tb.kids = tb := by rw [← g1]; cases tb; rfl
                          rw [e1, e2] at hp
                          exact ⟨rfl, ⟨by show (0 : Int) ≤ 3; omega, by show (3 : Int) ≤ 255; omega, by show (0 : Int) ≤ 0; omega, by show (0 : Int) ≤ 255; omega, htf.p0, htf.p1, by show (-9223372036854775808 : Int) ≤ 0; omega, by show (0 : Int) ≤ 9223372036854775807; omega, by show (0 : Nat) ≤ 9223372036854775807; omega, by show (0 : Nat) ≤ 9223372036854775807; omega, by show (0 : Nat) ≤ 9223372036854775807; omega⟩, Nat.le_refl _, by omega, (hp.extx X9 (fun b e => by show b < _; rcases e with e | e <;> omega)).move (fun b _ (hb : b < w.heap.size) => by show b < _; omega) (fun _ _ _ hu => hu)⟩)
                  obtain ⟨r0, r1', r2', -⟩ := SBlk.open_ B1
                  obtain ⟨r3, r4, r5, r6, r7, r8, r9, ra⟩ := B2.eight
                  unfold w8s w3s at r0 r1' r2' r3 r4 r5 r6 r7 r8 r9 ra HR9
                  clear B1 B2 X9 Z16 Z26 hG ya xa x9 hs9
                  repeat (first | go_values | go_skip | go_guarded | go_step | go_upon)
                  exact bodyPost_ret (v := (.tuple #[.agg #[.slice (some ⟨b, o, none⟩) n c, .int .i64 (i9 : Nat), .bool bad9], .agg #[.int .u8 3, .int .u8 0, .int .i64 tk.pos, .int .i64 0, .string ⟨#[]⟩, .string ⟨#[]⟩, .string ⟨#[]⟩, .slice (some ⟨W8.heap.size, 0, none⟩) 2 2]])) (by simp [results, Tryz.results119, go_sem, r0, r1', r2', r3, r4, r5, r6, r7, r8, r9, ra]) rfl HR9.out
structure XS5 (a : Option Addr) (n c : Nat) (w : World) (g7 i : Nat) (bad : Bool) (x : Hd) (W : World) : Prop where
  s : SBlk W w.heap.size a n c i bad
  z1 : Blk W (w.heap.size + 1) 71 #[.slice none 0 0, .int .i64 0, .bool false]
  z2 : Blk W (w.heap.size + 1 + 1) 28 zeroT
  t : Blk W g7 28 #[.int .u8 x.k, .int .u8 x.op, .int .i64 x.pos, .int .i64 x.n, .string x.name, .string x.arg, .string x.exn, .slice none 0 0]
  lt7 : w.heap.size + 1 + 1 < g7
  x : Ext w W
theorem XS5.ext {a : Option Addr} {n c : Nat} {w : World} {g7 i : Nat} {bad : Bool} {x : Hd} {W W' : World} (h : XS5 a n c w g7 i bad x W) (hx : Ext W W') : XS5 a n c w g7 i bad x W' := ⟨SBlk.ext h.s hx, h.z1.ext hx, h.z2.ext hx, h.t.ext hx, h.lt7, h.x.trans hx⟩
theorem XS5.call {a : Option Addr} {n c : Nat} {w : World} {g7 i : Nat} {bad : Bool} {x : Hd} {W w2 : World} (h : XS5 a n c w g7 i bad x W) (hx : Ext W w2) (i' : Nat) (bad' : Bool) : XS5 a n c w g7 i' bad' x (w3s w2 w.heap.size a n c i' bad') := by
  have h2 := h.ext hx
  have hl := h.lt7
  exact ⟨w3s_blk h2.s, h2.z1.extx w3s_x (by show ¬ w.heap.size + 1 = w.heap.size; omega), h2.z2.extx w3s_x (by show ¬ w.heap.size + 1 + 1 = w.heap.size; omega), h2.t.extx w3s_x (by show ¬ g7 = w.heap.size; omega), h.lt7, ExtX.ext h2.x w3s_x (fun b (e : b = w.heap.size) => by omega)⟩
theorem XS5.put {a : Option Addr} {n c : Nat} {w : World} {g7 i : Nat} {bad : Bool} {x : Hd} {W : World} (h : XS5 a n c w g7 i bad x W) (k : Nat) (u : Value) (y : Hd) (hy : (#[.int .u8 x.k, .int .u8 x.op, .int .i64 x.pos, .int .i64 x.n, .string x.name, .string x.arg, .string x.exn, .slice none 0 0] : Array Value).setIfInBounds k u = #[.int .u8 y.k, .int .u8 y.op, .int .i64 y.pos, .int .i64 y.n, .string y.name, .string y.arg, .string y.exn, .slice none 0 0]) : XS5 a n c w g7 i bad y (W.setCell ⟨g7, k, none⟩ u) := by
  have hl := h.lt7
  have X : ExtX (· = g7) W (W.setCell ⟨g7, k, none⟩ u) := (ExtX.refl (A := (· = g7)) W).setCell (p := ⟨g7, k, none⟩) (.inl rfl) u
  exact ⟨Blk.extx h.s X (by show ¬ w.heap.size = g7; omega), h.z1.extx X (by show ¬ w.heap.size + 1 = g7; omega), h.z2.extx X (by show ¬ w.heap.size + 1 + 1 = g7; omega), hy ▸ h.t.set_ k u, h.lt7, ExtX.ext h.x X (fun b (e : b = g7) => by omega)⟩
theorem XS5.name {a : Option Addr} {n c : Nat} {w : World} {g7 i : Nat} {bad : Bool} {x : Hd} {W : World} (h : XS5 a n c w g7 i bad x W) (tx : ByteArray) : XS5 a n c w g7 i bad { x with name := tx } (W.setCell ⟨g7, 4, none⟩ (.string tx)) := h.put 4 _ _ rfl
theorem XS5.arg {a : Option Addr} {n c : Nat} {w : World} {g7 i : Nat} {bad : Bool} {x : Hd} {W : World} (h : XS5 a n c w g7 i bad x W) (tx : ByteArray) : XS5 a n c w g7 i bad { x with arg := tx } (W.setCell ⟨g7, 5, none⟩ (.string tx)) := h.put 5 _ _ rfl
theorem XS5.exn {a : Option Addr} {n c : Nat} {w : World} {g7 i : Nat} {bad : Bool} {x : Hd} {W : World} (h : XS5 a n c w g7 i bad x W) (tx : ByteArray) : XS5 a n c w g7 i bad { x with exn := tx } (W.setCell ⟨g7, 6, none⟩ (.string tx)) := h.put 6 _ _ rfl
theorem XS5.kind {a : Option Addr} {n c : Nat} {w : World} {g7 i : Nat} {bad : Bool} {x : Hd} {W : World} (h : XS5 a n c w g7 i bad x W) (k : Int) : XS5 a n c w g7 i bad { x with k := k } (W.setCell ⟨g7, 0, none⟩ (.int .u8 k)) := h.put 0 _ _ rfl
theorem XS5.pos {a : Option Addr} {n c : Nat} {w : World} {g7 i : Nat} {bad : Bool} {x : Hd} {W : World} (h : XS5 a n c w g7 i bad x W) (k : Int) : XS5 a n c w g7 i bad { x with pos := k } (W.setCell ⟨g7, 2, none⟩ (.int .i64 k)) := h.put 2 _ _ rfl
theorem StS.cast {α β : Type} {L : List Tk} {n i : Nat} {bad : Bool} {q : Res α} {r : Res β} (h : StS L n i bad q) (her : ∀ l, q = .error l → r = .error l) (hok : ∀ u l, q = .ok (u, l) → ∃ v, r = .ok (v, l)) : StS L n i bad r := by
  cases q with
  | error l => rw [her l rfl]; exact h
  | ok p =>
    obtain ⟨u, l⟩ := p
    obtain ⟨v, e⟩ := hok u l rfl
    rw [e]
    exact h
theorem XS5.last {L : List Tk} {a : Option Addr} {n c : Nat} {w : World} {g7 i : Nat} {bad : Bool} {x : Hd} {W : World} {ak : Option Addr} {nk ck : Nat} {r : Res Tm} (h : XS5 a n c w g7 i bad x W) (hs : StS L n i bad r) (hk : ∀ t l, r = .ok (t, l) → t.head = x ∧ x.Fits ∧ nk ≤ ck ∧ ck ≤ 9223372036854775807 ∧ IsTmsA (fun b => b < w.heap.size ∨ b = g7 ∨ b = w.heap.size + 1 ∨ b = w.heap.size + 1 + 1) W t.kids ak nk) :
    SBlk (W.setCell ⟨g7, 7, none⟩ (.slice ak nk ck)) w.heap.size a n c i bad ∧ Blk (W.setCell ⟨g7, 7, none⟩ (.slice ak nk ck)) (w.heap.size + 1) 71 #[.slice none 0 0, .int .i64 0, .bool false] ∧ Blk (W.setCell ⟨g7, 7, none⟩ (.slice ak nk ck)) (w.heap.size + 1 + 1) 28 zeroT ∧ Blk (W.setCell ⟨g7, 7, none⟩ (.slice ak nk ck)) g7 28 #[.int .u8 x.k, .int .u8 x.op, .int .i64 x.pos, .int .i64 x.n, .string x.name, .string x.arg, .string x.exn, .slice ak nk ck] ∧
    (∀ W', ExtX (fun b => b = w.heap.size + 1 ∨ b = w.heap.size + 1 + 1) (W.setCell ⟨g7, 7, none⟩ (.slice ak nk ck)) W' → RetE L a n c w r (.returned (.tuple #[.agg #[.slice a n c, .int .i64 (i : Nat), .bool bad], .agg #[.int .u8 x.k, .int .u8 x.op, .int .i64 x.pos, .int .i64 x.n, .string x.name, .string x.arg, .string x.exn, .slice ak nk ck]])) W') := by
  have hl := h.lt7
  have X : ExtX (· = g7) W (W.setCell ⟨g7, 7, none⟩ (.slice ak nk ck)) := (ExtX.refl (A := (· = g7)) W).setCell (p := ⟨g7, 7, none⟩) (.inl rfl) _
  refine ⟨Blk.extx h.s X (by show ¬ w.heap.size = g7; omega), h.z1.extx X (by show ¬ w.heap.size + 1 = g7; omega), h.z2.extx X (by show ¬ w.heap.size + 1 + 1 = g7; omega), h.t.set_ 7 _, fun W' hx => ?_⟩
  refine ⟨ExtX.ext (ExtX.ext h.x X (fun b (e : b = g7) => by omega)) hx (fun b e => by rcases e with e | e <;> omega), i, bad, x, ak, nk, ck, rfl, hs, fun t l e => ?_⟩
  obtain ⟨e1, e2, e3, e4, e5⟩ := hk t l e
  exact ⟨e1, e2, e3, e4, ((e5.extx X (fun b (e : b = g7) => .inr (.inl e))).extx hx (fun b e => .inr (.inr e))).move (fun b _ (hb : b < w.heap.size) => .inl hb) (fun _ _ _ hu => hu)⟩
theorem kids_of {W : World} {base m : Nat} {v : Value} {xs : List Value} {A A' : Nat → Prop} {ts : List Tm} (ho : W.ownsRow base 28 8 v m xs) (hf : FlatA A W ts xs) (hm : m = ts.length) (hA : ∀ b, A' b → A b) (hA' : ∀ b, A' b → b < base) :
    ∃ ak ck, v = .slice ak m ck ∧ m ≤ ck ∧ ck ≤ 9223372036854775807 ∧ IsTmsA A' W ts ak m := by
  rcases Nat.eq_zero_or_pos m with h0 | hpos
  · subst h0
    have : ts = [] := by cases ts; rfl; simp at hm
    subst this
    rcases ho.2 with ⟨rfl, -⟩ | ⟨g, cap, cur, rfl, -, -, h1, h2, -⟩
    · exact ⟨none, 0, rfl, Nat.le_refl _, by omega, IsTmsA.nil _⟩
    · exact ⟨_, cap, rfl, h1, h2, IsTmsA.nil _⟩
  · obtain ⟨g, cap, rfl, hg, hlt, h1, h2, hc⟩ := owns_open ho hpos
    refine ⟨_, cap, rfl, h1, h2, ?_⟩
    subst hm
    exact hf.tms hA g 0 (fun e => by have := hA' g e; omega) (fun j u hu => by rw [Nat.zero_add]; exact hc j u hu)
theorem owns_slice5 {W : World} {base m : Nat} {v : Value} {xs : List Value} (ho : W.ownsRow base 28 8 v m xs) : ∃ ak ck, v = .slice ak m ck := by
  rcases ho.2 with ⟨rfl, rfl⟩ | ⟨g, cap, cur, rfl, -⟩
  · exact ⟨none, 0, rfl⟩
  · exact ⟨_, cap, rfl⟩
theorem XS5.kids {w W w3 : World} {base m g7 : Nat} {v : Value} {xs : List Value} {ts : List Tm} {X : Nat → Prop} (hX : ∀ b, X b → b = w.heap.size ∨ b = g7 ∨ b = w.heap.size + 1 ∨ b = w.heap.size + 1 + 1) (hb : w.heap.size + 1 + 1 < base) (h7 : g7 < base) (hx : ExtX X w3 W) (ho : w3.ownsRow base 28 8 v m xs) (hf : FlatA (fun b => b < base ∨ v.ownBlock = some b) w3 ts xs) (hm : m = ts.length) :
    ∃ ak ck, v = .slice ak m ck ∧ m ≤ ck ∧ ck ≤ 9223372036854775807 ∧ IsTmsA (fun b => b < w.heap.size ∨ b = g7 ∨ b = w.heap.size + 1 ∨ b = w.heap.size + 1 + 1) W ts ak m := by
  have hX2 : ∀ b, X b → b < base := fun b e => by rcases hX b e with h | h | h | h <;> omega
  obtain ⟨ak, ck, e, h1, h2, h3⟩ := kids_of (A' := fun b => b < base) ho hf hm (fun b e => .inl e) (fun b e => e)
  exact ⟨ak, ck, e, h1, h2, (h3.extx hx hX2).move (fun b _ hb => by show b < base; rcases hb with h | h | h | h <;> omega) (fun _ _ _ hu => hu)⟩
theorem inv_one {α : Type} {f : Nat} {ws : List ByteArray} {σ : Res α} {g : α → List Tm → Tm} {r : Res Tm} (h : andThen (some σ) (fun x l1 => andThen (partsF f ws [] l1) fun ts l2 => some (.ok (g x ts, l2))) = some r) :
    ∃ r' : Res (List Tm), (∀ x l1, σ = .ok (x, l1) → partsF f ws [] l1 = some r') ∧ (∀ l1, σ = .error l1 → r' = .error l1) ∧ (∀ l2, r' = .error l2 → r = .error l2) ∧ ∀ ts l2, r' = .ok (ts, l2) → ∃ x l1, σ = .ok (x, l1) ∧ r = .ok (g x ts, l2) := by
  cases σ with
  | error l =>
    have h : some (.error l) = some r := h
    cases h
    exact ⟨.error l, fun x l1 e => (by cases e), fun l1 e => (by cases e; rfl), fun l2 e => (by cases e; rfl), fun ts l2 e => (by cases e)⟩
  | ok p =>
    obtain ⟨x, l1⟩ := p
    have h : andThen (partsF f ws [] l1) (fun ts l2 => some (.ok (g x ts, l2))) = some r := h
    cases hp : partsF f ws [] l1 with
    | none => rw [hp] at h; cases h
    | some r' =>
      rw [hp] at h
      refine ⟨r', fun x' l' e => by cases e; exact hp, fun l' e => (by cases e), ?_, ?_⟩
      · rintro l2 rfl
        exact (Option.some.inj h).symm
      · rintro ts l2 rfl
        exact ⟨x, l1, rfl, (Option.some.inj h).symm⟩
theorem partsF_len {f : Nat} : ∀ (ws : List ByteArray) (acc : List Tm) (l : List Tk) (ts : List Tm) (l2 : List Tk), partsF f ws acc l = some (.ok (ts, l2)) → ts.length = acc.length + ws.length := by
  intro ws
  induction ws with
  | nil => intro acc l ts l2 h; cases h; rfl
  | cons x ws ih =>
    intro acc l ts l2 h
    unfold partsF at h
    generalize (if x = ByteArray.empty then (.ok ((), l) : Res Unit) else getW x l) = g at h
    cases g with
    | error l1 => cases h
    | ok p1 =>
      obtain ⟨u1, l1⟩ := p1
      have h : andThen (parseF f .expr l1) (fun t l2 => partsF f ws (acc ++ [t]) l2) = some (.ok (ts, l2)) := h
      cases hx : parseF f .expr l1 with
      | none => rw [hx] at h; cases h
      | some r1 =>
        rw [hx] at h
        cases r1 with
        | error l2 => cases h
        | ok p2 =>
          obtain ⟨t, l3⟩ := p2
          have := ih _ _ _ _ h
          simp at this ⊢
          omega
theorem getW_is {x : ByteArray} {l : List Tk} (h : isT [x] l = true) : getW x l = .ok ((), l.tail) := by unfold getW; rw [if_pos h]
theorem partsF2 (f : Nat) (x y : ByteArray) (hx : x ≠ ByteArray.empty) (hy : y ≠ ByteArray.empty) (l : List Tk) (k : List Tm → List Tk → Option (Res Tm)) : andThen (partsF f [x, y] [] l) k = andThen (some (getW x l)) fun _ l2 => andThen (parseF f .expr l2) fun a l3 => andThen (some (getW y l3)) fun _ l4 => andThen (parseF f .expr l4) fun b l5 => k [a, b] l5 := by
  simp only [partsF, if_neg hx, if_neg hy, andThen_assoc, andThen_ok, List.nil_append, List.cons_append]
theorem partsF1 (f : Nat) (x : ByteArray) (hx : x ≠ ByteArray.empty) (l : List Tk) (k : List Tm → List Tk → Option (Res Tm)) : andThen (partsF f [x] [] l) k = andThen (some (getW x l)) fun _ l2 => andThen (parseF f .expr l2) fun a l3 => k [a] l3 := by
  simp only [partsF, if_neg hx, andThen_assoc, andThen_ok, List.nil_append, List.cons_append]
theorem partsF3 (f : Nat) (y z : ByteArray) (hy : y ≠ ByteArray.empty) (hz : z ≠ ByteArray.empty) (l : List Tk) (k : List Tm → List Tk → Option (Res Tm)) : andThen (partsF f [ByteArray.empty, y, z] [] l) k = andThen (parseF f .expr l) fun a l1 => andThen (some (getW y l1)) fun _ l2 => andThen (parseF f .expr l2) fun b l3 => andThen (some (getW z l3)) fun _ l4 => andThen (parseF f .expr l4) fun c l5 => k [a, b, c] l5 := by
  simp only [partsF, if_neg hy, if_neg hz, andThen_assoc, andThen_ok, List.nil_append, List.cons_append, if_pos]
theorem expr_let {f : Nat} {l : List Tk} {r : Res Tm} (hi : isT [w_let] l = true) (h : parseF (f + 1) .expr l = some r) :
    ∃ r' : Res (List Tm), (∀ x l1, getK 2 l.tail = .ok (x, l1) → partsF f [s_eq, w_in] [] l1 = some r') ∧ (∀ l1, getK 2 l.tail = .error l1 → r' = .error l1) ∧ (∀ l2, r' = .error l2 → r = .error l2) ∧ ∀ ts l2, r' = .ok (ts, l2) → ∃ x l1, getK 2 l.tail = .ok (x, l1) ∧ r = .ok (.mk { hd0 12 (posT l) with name := x } ts, l2) := by
  unfold parseF at h
  rw [if_pos hi] at h
  refine inv_one (g := fun x ts => .mk { hd0 12 (posT l) with name := x } ts) ?_
  rw [← h]
  congr 1
  funext x l1
  exact partsF2 f s_eq w_in (by decide +kernel) (by decide +kernel) l1 _
theorem getS_fits {α : Type} {w : World} {L : List Tk} {a : Option Addr} {n c i : Nat} {bad : Bool} {s : Res α} (hL : IsL w L a n c) (hs : StS L n i bad s) {k : Int} {x : ByteArray} {l' : List Tk} (h : thenR s (getK k) = .ok (x, l')) : x.size ≤ 9223372036854775807 := by
  cases s with
  | error l => cases h
  | ok p =>
    obtain ⟨u, l⟩ := p
    obtain ⟨-, hA, -⟩ := hs
    obtain ⟨t, l1, b, o, rfl, -, hf, -⟩ := hA.tok hL
    have h : getK k (t :: l1) = .ok (x, l') := h
    simp only [getK] at h
    split at h
    · cases h; exact hf.text1
    · cases h
theorem fits5 {k pos : Int} {x y z : ByteArray} (h0 : 0 ≤ k) (h1 : k ≤ 255) (hp : -9223372036854775808 ≤ pos ∧ pos ≤ 9223372036854775807) (hx : x.size ≤ 9223372036854775807) (hy : y.size ≤ 9223372036854775807) (hz : z.size ≤ 9223372036854775807) : (⟨k, 0, pos, 0, x, y, z⟩ : Hd).Fits :=
  ⟨h0, h1, by show (0 : Int) ≤ 0; omega, by show (0 : Int) ≤ 255; omega, hp.1, hp.2, by show (-9223372036854775808 : Int) ≤ 0; omega, by show (0 : Int) ≤ 9223372036854775807; omega, hx, hy, hz⟩
structure EQ5 (L : List Tk) (a : Option Addr) (n c : Nat) (w : World) (r : Res Tm) (g7 i : Nat) (bad : Bool) (x : Hd) (ak : Option Addr) (nk ck : Nat) (W : World) : Prop where
  s : SBlk W w.heap.size a n c i bad
  z1 : Blk W (w.heap.size + 1) 71 #[.slice none 0 0, .int .i64 0, .bool false]
  z2 : Blk W (w.heap.size + 1 + 1) 28 zeroT
  t : Blk W g7 28 #[.int .u8 x.k, .int .u8 x.op, .int .i64 x.pos, .int .i64 x.n, .string x.name, .string x.arg, .string x.exn, .slice ak nk ck]
  lt7 : w.heap.size + 1 + 1 < g7
  ret : ∀ W', ExtX (fun b => b = w.heap.size + 1 ∨ b = w.heap.size + 1 + 1) W W' → RetE L a n c w r (.returned (.tuple #[.agg #[.slice a n c, .int .i64 (i : Nat), .bool bad], .agg #[.int .u8 x.k, .int .u8 x.op, .int .i64 x.pos, .int .i64 x.n, .string x.name, .string x.arg, .string x.exn, .slice ak nk ck]])) W'
theorem EQ5.out1 {L : List Tk} {a : Option Addr} {n c : Nat} {w : World} {r : Res Tm} {g7 i : Nat} {bad : Bool} {x : Hd} {ak : Option Addr} {nk ck : Nat} {W : World} (h : EQ5 L a n c w r g7 i bad x ak nk ck W) :
    SBlk (w8s (w3s W (w.heap.size + 1) a n c i bad) (w.heap.size + 1 + 1) x ak nk ck) (w.heap.size + 1) a n c i bad ∧ Blk (w8s (w3s W (w.heap.size + 1) a n c i bad) (w.heap.size + 1 + 1) x ak nk ck) (w.heap.size + 1 + 1) 28 #[.int .u8 x.k, .int .u8 x.op, .int .i64 x.pos, .int .i64 x.n, .string x.name, .string x.arg, .string x.exn, .slice ak nk ck] ∧
    ExtX (fun b => b = w.heap.size + 1 ∨ b = w.heap.size + 1 + 1) W (w8s (w3s W (w.heap.size + 1) a n c i bad) (w.heap.size + 1 + 1) x ak nk ck) :=
  ⟨Blk.extx (Blk.lay3 h.z1) w8s_x (by show ¬ w.heap.size + 1 = w.heap.size + 1 + 1; omega), (Blk.extx h.z2 w3s_x (by show ¬ w.heap.size + 1 + 1 = w.heap.size + 1; omega)).lay8, (w3s_x.mono fun b e => .inl e).trans (w8s_x.mono fun b e => .inr e)⟩
theorem XS5.fin {L : List Tk} {a : Option Addr} {n c : Nat} {w : World} {g7 i : Nat} {bad : Bool} {x : Hd} {W : World} {ak : Option Addr} {nk ck : Nat} {r : Res Tm} (h : XS5 a n c w g7 i bad x W) (hs : StS L n i bad r) (hk : ∀ t l, r = .ok (t, l) → t.head = x ∧ x.Fits ∧ nk ≤ ck ∧ ck ≤ 9223372036854775807 ∧ IsTmsA (fun b => b < w.heap.size ∨ b = g7 ∨ b = w.heap.size + 1 ∨ b = w.heap.size + 1 + 1) W t.kids ak nk) :
    EQ5 L a n c w r g7 i bad x ak nk ck (W.setCell ⟨g7, 7, none⟩ (.slice ak nk ck)) := by
  obtain ⟨h1, h2, h3, h4, h5⟩ := h.last hs hk
  exact ⟨h1, h2, h3, h4, h.lt7, h5⟩
theorem not_words {l : List Tk} {x : ByteArray} (hi : isT [x] l = true) (y : ByteArray) (hxy : x ≠ y) : ¬ isT [y] l = true := by
  intro h
  cases l with
  | nil => cases hi
  | cons t l =>
    simp only [isT, Bool.and_eq_true] at hi h
    have h1 := (inB_iff _ _).1 hi.2
    have h2 := (inB_iff _ _).1 h.2
    simp at h1 h2
    exact hxy (h1.symm.trans h2)
theorem expr_letrec {f : Nat} {l : List Tk} {r : Res Tm} (hi : isT [w_letrec] l = true) (h : parseF (f + 1) .expr l = some r) :
    ∃ r' : Res (List Tm), (∀ y l1, thenR (getK 2 l.tail) (getK 2) = .ok (y, l1) → partsF f [s_eq, w_in] [] l1 = some r') ∧ (∀ l1, thenR (getK 2 l.tail) (getK 2) = .error l1 → r' = .error l1) ∧ (∀ l2, r' = .error l2 → r = .error l2) ∧ ∀ ts l2, r' = .ok (ts, l2) → ∃ x l0 y l1, getK 2 l.tail = .ok (x, l0) ∧ getK 2 l0 = .ok (y, l1) ∧ r = .ok (.mk { hd0 13 (posT l) with name := x, arg := y } ts, l2) := by
  unfold parseF at h
  rw [if_neg (not_words hi _ (by decide +kernel)), if_pos hi] at h
  cases hg : getK 2 l.tail with
  | error l0 =>
    rw [hg] at h
    cases h
    exact ⟨.error l0, fun y l1 e => (by cases e), fun l1 e => (by cases e; rfl), fun l2 e => (by cases e; rfl), fun ts l2 e => (by cases e)⟩
  | ok p =>
    obtain ⟨x, l0⟩ := p
    rw [hg, andThen_ok] at h
    obtain ⟨r', h1, h2, h3, h4⟩ := inv_one (σ := getK 2 l0) (g := fun y ts => .mk { hd0 13 (posT l) with name := x, arg := y } ts) (f := f) (ws := [s_eq, w_in]) (r := r) (by
      rw [← h]
      congr 1
      funext y l1
      exact partsF2 f s_eq w_in (by decide +kernel) (by decide +kernel) l1 _)
    refine ⟨r', h1, h2, h3, fun ts l2 e => ?_⟩
    obtain ⟨y, l1, e1, e2⟩ := h4 ts l2 e
    exact ⟨x, l0, y, l1, rfl, e1, e2⟩
theorem expr_fn {f : Nat} {l : List Tk} {r : Res Tm} (hi : isT [w_fn] l = true) (h : parseF (f + 1) .expr l = some r) :
    ∃ r' : Res (List Tm), (∀ x l1, getK 2 l.tail = .ok (x, l1) → partsF f [s_to] [] l1 = some r') ∧ (∀ l1, getK 2 l.tail = .error l1 → r' = .error l1) ∧ (∀ l2, r' = .error l2 → r = .error l2) ∧ ∀ ts l2, r' = .ok (ts, l2) → ∃ x l1, getK 2 l.tail = .ok (x, l1) ∧ r = .ok (.mk { hd0 11 (posT l) with arg := x } ts, l2) := by
  unfold parseF at h
  rw [if_neg (not_words hi _ (by decide +kernel)), if_neg (not_words hi _ (by decide +kernel)), if_pos hi] at h
  refine inv_one (g := fun x ts => .mk { hd0 11 (posT l) with arg := x } ts) ?_
  rw [← h]
  congr 1
  funext x l1
  exact partsF1 f s_to (by decide +kernel) l1 _
theorem expr_if {f : Nat} {l : List Tk} {r : Res Tm} (hi : isT [w_if] l = true) (h : parseF (f + 1) .expr l = some r) :
    ∃ r' : Res (List Tm), (∀ (u : Unit) l1, (.ok ((), l.tail) : Res Unit) = .ok (u, l1) → partsF f [ByteArray.empty, w_then, w_else] [] l1 = some r') ∧ (∀ l1, (.ok ((), l.tail) : Res Unit) = .error l1 → r' = .error l1) ∧ (∀ l2, r' = .error l2 → r = .error l2) ∧ ∀ ts l2, r' = .ok (ts, l2) → (∃ l1, (.ok ((), l.tail) : Res Unit) = .ok ((), l1)) ∧ r = .ok (.mk (hd0 14 (posT l)) ts, l2) := by
  unfold parseF at h
  rw [if_neg (not_words hi _ (by decide +kernel)), if_neg (not_words hi _ (by decide +kernel)), if_neg (not_words hi _ (by decide +kernel)), if_pos hi] at h
  obtain ⟨r', h1, h2, h3, h4⟩ := inv_one (σ := (.ok ((), l.tail) : Res Unit)) (g := fun _ ts => .mk (hd0 14 (posT l)) ts) (f := f) (ws := [ByteArray.empty, w_then, w_else]) (r := r) (by
    rw [← h]
    exact partsF3 f w_then w_else (by decide +kernel) (by decide +kernel) l.tail _)
  refine ⟨r', h1, h2, h3, fun ts l2 e => ?_⟩
  obtain ⟨x, l1, e1, e2⟩ := h4 ts l2 e
  exact ⟨⟨l1, e1⟩, e2⟩
theorem expr_try {f : Nat} {l : List Tk} {r : Res Tm} (hi : isT [w_try] l = true) (h : parseF (f + 1) .expr l = some r) :
    ∃ r1 r2 : Res (List Tm), partsF f [ByteArray.empty] [] l.tail = some r1 ∧
      (∀ y l4, thenR (thenR (thenR r1 (getW w_with)) (getK 3)) (getK 2) = .ok (y, l4) → partsF f [s_to] [] l4 = some r2) ∧ (∀ l4, thenR (thenR (thenR r1 (getW w_with)) (getK 3)) (getK 2) = .error l4 → r2 = .error l4) ∧
      (∀ l2, r2 = .error l2 → r = .error l2) ∧ ∀ ts2 l6, r2 = .ok (ts2, l6) → ∃ ts1 l1 l2 x l3 y l4, r1 = .ok (ts1, l1) ∧ thenR r1 (getW w_with) = .ok ((), l2) ∧ thenR (thenR r1 (getW w_with)) (getK 3) = .ok (x, l3) ∧ thenR (thenR (thenR r1 (getW w_with)) (getK 3)) (getK 2) = .ok (y, l4) ∧ r = .ok (.mk { hd0 16 (posT l) with exn := x, arg := y } (ts1 ++ ts2), l6) := by
  unfold parseF at h
  rw [if_neg (not_words hi _ (by decide +kernel)), if_neg (not_words hi _ (by decide +kernel)), if_neg (not_words hi _ (by decide +kernel)), if_neg (not_words hi _ (by decide +kernel)), if_pos hi] at h
  have hp1 : partsF f [ByteArray.empty] [] l.tail = andThen (parseF f .expr l.tail) fun a l3 => some (.ok ([a], l3)) := by
    simp only [partsF, andThen_ok, List.nil_append, if_pos]
  rw [hp1]
  cases hx : parseF f .expr l.tail with
  | none => rw [hx] at h; cases h
  | some ra =>
    rw [hx] at h
    cases ra with
    | error l1 =>
      cases h
      exact ⟨.error l1, .error l1, rfl, fun y l4 e => (by cases e), fun l4 e => (by cases e; rfl), fun l2 e => (by cases e; rfl), fun ts l2 e => (by cases e)⟩
    | ok p =>
      obtain ⟨a, l1⟩ := p
      rw [andThen_ok] at h
      show ∃ r1 r2 : Res (List Tm), some (.ok ([a], l1)) = some r1 ∧ _
      refine ⟨.ok ([a], l1), ?_⟩
      show ∃ r2 : Res (List Tm), _ ∧ (∀ y l4, thenR (thenR (getW w_with l1) (getK 3)) (getK 2) = .ok (y, l4) → _) ∧ (∀ l4, thenR (thenR (getW w_with l1) (getK 3)) (getK 2) = .error l4 → _) ∧ _ ∧ ∀ ts2 l6, _ → ∃ ts1 l1' l2 x l3 y l4, _ ∧ getW w_with l1 = _ ∧ thenR (getW w_with l1) (getK 3) = _ ∧ thenR (thenR (getW w_with l1) (getK 3)) (getK 2) = _ ∧ _
      cases hw : getW w_with l1 with
      | error l2 =>
        rw [hw] at h
        cases h
        exact ⟨.error l2, rfl, fun y l4 e => (by cases e), fun l4 e => (by cases e; rfl), fun l2 e => (by cases e; rfl), fun ts l2 e => (by cases e)⟩
      | ok p =>
        obtain ⟨u, l2⟩ := p
        rw [hw, andThen_ok] at h
        show ∃ r2 : Res (List Tm), _ ∧ (∀ y l4, thenR (getK 3 l2) (getK 2) = .ok (y, l4) → _) ∧ (∀ l4, thenR (getK 3 l2) (getK 2) = .error l4 → _) ∧ _ ∧ ∀ ts2 l6, _ → ∃ ts1 l1' l2' x l3 y l4, _ ∧ _ ∧ getK 3 l2 = _ ∧ thenR (getK 3 l2) (getK 2) = _ ∧ _
        cases hk : getK 3 l2 with
        | error l3 =>
          rw [hk] at h
          cases h
          exact ⟨.error l3, rfl, fun y l4 e => (by cases e), fun l4 e => (by cases e; rfl), fun l2 e => (by cases e; rfl), fun ts l2 e => (by cases e)⟩
        | ok p =>
          obtain ⟨x, l3⟩ := p
          rw [hk, andThen_ok] at h
          obtain ⟨r', h1, h2, h3, h4⟩ := inv_one (σ := getK 2 l3) (g := fun y ts => .mk { hd0 16 (posT l) with exn := x, arg := y } (a :: ts)) (f := f) (ws := [s_to]) (r := r) (by
            rw [← h]
            congr 1
            funext y l4
            exact partsF1 f s_to (by decide +kernel) l4 _)
          refine ⟨r', rfl, h1, h2, h3, fun ts l6 e => ?_⟩
          obtain ⟨y, l4, e1, e2⟩ := h4 ts l6 e
          exact ⟨[a], l1, l2, x, l3, y, l4, rfl, rfl, rfl, e1, e2⟩
set_option maxRecDepth 60000 in
set_option maxHeartbeats 8000000 in
theorem ref5_let (f : Nat) (hE : DoesS 44 #[] .expr f) (L : List Tk) (a : Option Addr) (n c i : Nat) (l : List Tk) (r : Res Tm) (w : World) (hL : IsL w L a n c) (hA : AtS L n i l) (he : Ended l) (hi : isT [w_let] l = true) (hp : parseF (f + 1) .expr l = some r) : Calls Tryz.prog 44 #[.agg #[.slice a n c, .int .i64 (i : Nat), .bool false]] w (RetE L a n c w r) := by
  obtain ⟨tk, l', b, o, rfl, rfl, htf, q0, q1, q2, hnx⟩ := hA.tok hL
  have hlb := World.block_lt_of_cell? _ _ q0
  have hz : (i : Int) < (n : Int) := by have := hA.2; omega
  have mm2 := fun (A B C : Obj) => ((((Ext.refl w).alloc A).alloc B).alloc C).cell q2
  have HL := hid hL
  have HE := hid hE
  have HTF := hid htf
  have htx : txS (tk :: l') = w_let := by
    have h1 := txS_is (xs := [w_let]) (by decide +kernel) (tk :: l')
    rw [hi] at h1
    have h2 := (inB_iff _ _).1 h1
    simpa using h2
  have KX := hid fun W (h : Ext w W) => ref5_text L (some ⟨b, o, none⟩) n c i false (tk :: l') W (hL.ext h) hA
  rw [htx] at KX
  have hs0 : StS L n i false (.ok ((), tk :: l') : Res Unit) := ⟨rfl, hA, he⟩
  have KW := hid fun W (h : Ext w W) => ref5_wantS L (some ⟨b, o, none⟩) n c i false (.ok ((), tk :: l') : Res Unit) w_let (by decide +kernel) W (hL.ext h) hs0
  have ew : thenR (.ok ((), tk :: l') : Res Unit) (getW w_let) = .ok ((), l') := getW_is hi
  rw [ew] at KW
  obtain ⟨r', hp', her', her2, hok2⟩ := expr_let hi hp
  have HP' := hid hp'
  have HER' := hid her'
  have HER2 := hid her2
  have HOK2 := hid hok2
  have hw_let : (w_let.toList == ([108, 101, 116] : List UInt8)) = true := by decide +kernel
  clear hL hA he hp hE hnx htf htx hi hs0 ew hp' her' her2 hok2 q0 q1
  go_enter Tryz.func44, Tryz.ntmps44
  go_upto_region 10 with (go_at_call 41; refine (KX.out _ (by (exact eX))).mono ?_; rintro e w1 ⟨rfl, x1⟩)
  obtain ⟨hS1, hZ1, hZ2⟩ := blk3 x1
  have hg7 : w.heap.size + 1 + 1 < w1.heap.size := hZ2.lt
  have HX0 : Hid (XS5 (some ⟨b, o, none⟩) n c w (w1.heap.size + 1) i false ⟨0, 0, 0, 0, ⟨#[]⟩, ⟨#[]⟩, ⟨#[]⟩⟩ ((w1.alloc (.cells #[] 28)).alloc (.cells zeroT 28))) := hid ⟨(Blk.alloc hS1 _).alloc _, (Blk.alloc hZ1 _).alloc _, (Blk.alloc hZ2 _).alloc _, (by have h := Blk.new (w1.alloc (.cells #[] 28)) 28 zeroT; rw [World.size_alloc] at h; exact h), by omega, by (exact eX)⟩
  unfold zeroT at HX0
  generalize ((w1.alloc (.cells #[] 28)).alloc (.cells #[.int .u8 0, .int .u8 0, .int .i64 0, .int .i64 0, .string ⟨#[]⟩, .string ⟨#[]⟩, .string ⟨#[]⟩, .slice none 0 0] 28)) = W0 at *
  generalize w1.heap.size = b6 at *
  clear hS1 hZ1 hZ2 x1 w1 KX hw_let
  obtain ⟨p0, p1, p2, f0, f1, f2, l0⟩ := SBlk.open_ HX0.out.s
  go_upto_region 11 with (go_at_call 43; refine (KW.out _ HX0.out.x).mono ?_; rintro e w2 ⟨x2, i1, bad1, rfl, hs1⟩; obtain ⟨m0, m1, m2, k0, k1, k2, ll0⟩ := SBlk.open_ (SBlk.ext HX0.out.s x2))
  have HX1 := hid (HX0.out.call x2 i1 bad1)
  unfold w3s at HX1
  clear p0 p1 p2 f0 f1 f2 l0 m0 m1 m2 k0 k1 k2 ll0 x2
  generalize ((w2.setCell ⟨w.heap.size, 0, none⟩ (.slice (some ⟨b, o, none⟩) n c)).setCell ⟨w.heap.size, 1, none⟩ (.int .i64 (i1 : Nat))).setCell ⟨w.heap.size, 2, none⟩ (.bool bad1) = W1 at *
  have HS1 := hid hs1
  clear hs1 HX0 w2 W0 KW
  have ne7 : b6 + 1 ≠ w.heap.size := by have := HX1.out.lt7; omega
  have KG := hid (ref5_getS L (some ⟨b, o, none⟩) n c i1 bad1 (.ok ((), l') : Res Unit) 2 (by omega) W1 (HL.out.ext HX1.out.x) HS1.out)
  obtain ⟨p0, p1, p2, f0, f1, f2, l0⟩ := SBlk.open_ HX1.out.s
  have hl7 := HX1.out.lt7
  go_upto_region 12 with (go_at_call 42; refine (KG.out).mono ?_; rintro e w2 ⟨x2, i2, bad2, tx1, rfl, hs2, ht1⟩; obtain ⟨m0, m1, m2, k0, k1, k2, ll0⟩ := SBlk.open_ (SBlk.ext HX1.out.s x2); obtain ⟨z0, z1, z2, z3, z4, z5, z6, z7⟩ := (HX1.out.t.ext x2).eight; obtain ⟨g0, g1, g2, g3, g4, g5, g6, g7⟩ := (HX1.out.t.ext x2).frozen8; have lz := (HX1.out.t.ext x2).lt)
  have HX2 := hid ((HX1.out.call x2 i2 bad2).name tx1)
  unfold w3s at HX2
  have HM1 : Hid (tx1.size ≤ 9223372036854775807 ∨ ∀ x l1, thenR (.ok ((), l') : Res Unit) (getK 2) ≠ .ok (x, l1)) := hid (by
    cases e : thenR (.ok ((), l') : Res Unit) (getK 2) with
    | error l1 => exact .inr (fun x l1 e => by cases e)
    | ok p =>
      obtain ⟨x, l1⟩ := p
      obtain rfl := ht1 x l1 e
      exact .inl (getS_fits HL.out HS1.out e))
  clear hl7 p0 p1 p2 f0 f1 f2 l0 m0 m1 m2 k0 k1 k2 ll0 x2 z0 z1 z2 z3 z4 z5 z6 z7 g0 g1 g2 g3 g4 g5 g6 g7 lz
  generalize (((w2.setCell ⟨w.heap.size, 0, none⟩ (.slice (some ⟨b, o, none⟩) n c)).setCell ⟨w.heap.size, 1, none⟩ (.int .i64 (i2 : Nat))).setCell ⟨w.heap.size, 2, none⟩ (.bool bad2)).setCell ⟨b6 + 1, 4, none⟩ (.string tx1) = W2 at *
  have HS2 := hid hs2
  have HT1 := hid ht1
  clear hs2 ht1 HX1 HS1 w2 W1 KG
  have hrow := IsRow.new W2 9 (vstr [s_eq, w_in])
  have ea : (vstr [s_eq, w_in]).toArray = #[.string ⟨#[61]⟩, .string ⟨#[105, 110]⟩] := rfl
  rw [ea] at hrow
  have KP := hid (ref5_parts HE.out [s_eq, w_in] (by decide) L (some ⟨b, o, none⟩) n c i2 bad2 (thenR (.ok ((), l') : Res Unit) (getK 2)) r' _ _ hrow (HL.out.ext (HX2.out.x.alloc _)) HS2.out HP'.out HER'.out)
  clear hrow ea
  simp only [List.length_cons, List.length_nil, Nat.zero_add, Nat.reduceAdd] at KP
  obtain ⟨p0, p1, p2, f0, f1, f2, l0⟩ := SBlk.open_ HX2.out.s
  go_upto_region 13 with (go_at_call 71; refine (KP.out).mono ?_; rintro e w2 ⟨x2, i3, bad3, v, xs, rfl, hs3, ho3, h13, hf3⟩; obtain ⟨ak, ck, rfl⟩ := owns_slice5 ho3; obtain ⟨m0, m1, m2, k0, k1, k2, ll0⟩ := SBlk.open_ (SBlk.ext HX2.out.s ((Ext.refl _).alloc _ |>.trans x2)))
  have HX3 := hid ((HX2.out.call ((Ext.refl _).alloc _ |>.trans x2) i3 bad3))
  have ho3b : W2.heap.size + 1 = (W2.alloc (.cells #[.string ⟨#[61]⟩, .string ⟨#[105, 110]⟩] 9)).heap.size := by simp
  rw [← ho3b] at ho3 hf3
  have X3 : ExtX (· = w.heap.size) w2 (w3s w2 w.heap.size (some ⟨b, o, none⟩) n c i3 bad3) := w3s_x
  unfold w3s at HX3 X3
  have HB := hid HX2.out.t.lt
  clear p0 p1 p2 f0 f1 f2 l0 m0 m1 m2 k0 k1 k2 ll0 x2
  generalize ((w2.setCell ⟨w.heap.size, 0, none⟩ (.slice (some ⟨b, o, none⟩) n c)).setCell ⟨w.heap.size, 1, none⟩ (.int .i64 (i3 : Nat))).setCell ⟨w.heap.size, 2, none⟩ (.bool bad3) = W3 at *
  have HS3 := hid hs3
  have HO3 := hid ho3
  have HF3 := hid hf3
  have HX23 := hid X3
  have HB7 := hid HX2.out.lt7
  clear hs3 ho3 hf3 h13 X3 KP HS2 ho3b
  have H4 : XS5 (some ⟨b, o, none⟩) n c w (b6 + 1) i3 bad3 ⟨12, 0, tk.pos, 0, tx1, ⟨#[]⟩, ⟨#[]⟩⟩ ((W3.setCell ⟨b6 + 1, 0, none⟩ (.int .u8 12)).setCell ⟨b6 + 1, 2, none⟩ (.int .i64 tk.pos)) := (HX3.out.kind 12).pos tk.pos
  have X24 : ExtX (fun q => q = w.heap.size ∨ q = b6 + 1) w2 ((W3.setCell ⟨b6 + 1, 0, none⟩ (.int .u8 12)).setCell ⟨b6 + 1, 2, none⟩ (.int .i64 tk.pos)) := ((HX23.out.mono fun _ e => .inl e).setCell (p := ⟨b6 + 1, 0, none⟩) (.inl (.inr rfl)) _).setCell (p := ⟨b6 + 1, 2, none⟩) (.inl (.inr rfl)) _
  have HEQ : Hid (EQ5 L (some ⟨b, o, none⟩) n c w r (b6 + 1) i3 bad3 ⟨12, 0, tk.pos, 0, tx1, ⟨#[]⟩, ⟨#[]⟩⟩ ak 2 ck _) := hid (H4.fin (HS3.out.cast (fun l e => HER2.out l e) (fun ts l e => by obtain ⟨x, l1, -, e2⟩ := HOK2.out ts l e; exact ⟨_, e2⟩)) (fun t l e => by
    cases r' with
    | error l2 => rw [HER2.out l2 rfl] at e; cases e
    | ok p =>
      obtain ⟨ts, l2⟩ := p
      obtain ⟨x, l1, e1, e2⟩ := HOK2.out ts l2 rfl
      have hm1 := HM1.out.resolve_right (fun h => h x l1 e1)
      rw [e2] at e
      cases e
      obtain rfl := HT1.out x l1 e1
      obtain ⟨ak', ck', ev, k1, k2, k3⟩ := XS5.kids (w := w) (g7 := b6 + 1) (fun q e => by rcases e with e | e; exact .inl e; exact .inr (.inl e)) (by have := HB.out; have := HB7.out; omega) (by have := HB.out; omega) X24 HO3.out (HF3.out ts l rfl) (by have h := partsF_len _ _ _ _ _ (HP'.out _ _ e1); simp at h; omega)
      cases ev
      exact ⟨rfl, fits5 (by omega) (by omega) ⟨HTF.out.p0, HTF.out.p1⟩ hm1 (by decide) (by decide), k1, k2, k3⟩))
  obtain ⟨z0, z1, z2, z3, z4, z5, z6, z7⟩ := HX3.out.t.eight
  obtain ⟨g0, g1, g2, g3, g4, g5, g6, g7⟩ := HX3.out.t.frozen8
  have lz := HX3.out.t.lt
  go_upto_region 41 with fail
  clear z0 z1 z2 z3 z4 z5 z6 z7 g0 g1 g2 g3 g4 g5 g6 g7 lz H4 X24
  generalize ((W3.setCell ⟨b6 + 1, 0, none⟩ (.int .u8 12)).setCell ⟨b6 + 1, 2, none⟩ (.int .i64 tk.pos)).setCell ⟨b6 + 1, 7, none⟩ (.slice ak 2 ck) = WX at *
  generalize b6 + 1 = g at *
  clear HX3 HX23 HF3 HO3 HS3 HX2
  obtain ⟨p0, p1, p2, f0, f1, f2, l0⟩ := SBlk.open_ HEQ.out.s
  obtain ⟨c0, c1, c2, c3, c4, c5, c6, c7⟩ := HEQ.out.t.eight
  obtain ⟨z0, z1, z2, z3, z4, z5, z6, z7⟩ := HEQ.out.z2.eight
  obtain ⟨g0, g1, g2, g3, g4, g5, g6, g7⟩ := HEQ.out.z2.frozen8
  have v0 := HEQ.out.z1.cell 0
  have v1 := HEQ.out.z1.cell 1
  have v2 := HEQ.out.z1.cell 2
  simp at v0 v1 v2
  have v3 := HEQ.out.z1.frozen 0
  have v4 := HEQ.out.z1.frozen 1
  have v5 := HEQ.out.z1.frozen 2
  have lv := HEQ.out.z1.lt
  have lz := HEQ.out.z2.lt
  have hl7 := HEQ.out.lt7
  have ne1 : w.heap.size + 1 ≠ w.heap.size + 1 + 1 := by omega
  have ne2 : w.heap.size + 1 + 1 ≠ w.heap.size + 1 := by omega
  have ns0 := fun W (h : ExtX (fun b => b = w.heap.size + 1 ∨ b = w.heap.size + 1 + 1) WX W) => h.cell (p := ⟨w.heap.size, 0, none⟩) (show ¬ (w.heap.size = w.heap.size + 1 ∨ w.heap.size = w.heap.size + 1 + 1) by omega) p0
  have ns1 := fun W (h : ExtX (fun b => b = w.heap.size + 1 ∨ b = w.heap.size + 1 + 1) WX W) => h.cell (p := ⟨w.heap.size, 1, none⟩) (show ¬ (w.heap.size = w.heap.size + 1 ∨ w.heap.size = w.heap.size + 1 + 1) by omega) p1
  have ns2 := fun W (h : ExtX (fun b => b = w.heap.size + 1 ∨ b = w.heap.size + 1 + 1) WX W) => h.cell (p := ⟨w.heap.size, 2, none⟩) (show ¬ (w.heap.size = w.heap.size + 1 ∨ w.heap.size = w.heap.size + 1 + 1) by omega) p2
  have nc0 := fun W (h : ExtX (fun b => b = w.heap.size + 1 ∨ b = w.heap.size + 1 + 1) WX W) => h.cell (p := ⟨g, 0, none⟩) (show ¬ (g = w.heap.size + 1 ∨ g = w.heap.size + 1 + 1) by omega) c0
  have nc1 := fun W (h : ExtX (fun b => b = w.heap.size + 1 ∨ b = w.heap.size + 1 + 1) WX W) => h.cell (p := ⟨g, 1, none⟩) (show ¬ (g = w.heap.size + 1 ∨ g = w.heap.size + 1 + 1) by omega) c1
  have nc2 := fun W (h : ExtX (fun b => b = w.heap.size + 1 ∨ b = w.heap.size + 1 + 1) WX W) => h.cell (p := ⟨g, 2, none⟩) (show ¬ (g = w.heap.size + 1 ∨ g = w.heap.size + 1 + 1) by omega) c2
  have nc3 := fun W (h : ExtX (fun b => b = w.heap.size + 1 ∨ b = w.heap.size + 1 + 1) WX W) => h.cell (p := ⟨g, 3, none⟩) (show ¬ (g = w.heap.size + 1 ∨ g = w.heap.size + 1 + 1) by omega) c3
  have nc4 := fun W (h : ExtX (fun b => b = w.heap.size + 1 ∨ b = w.heap.size + 1 + 1) WX W) => h.cell (p := ⟨g, 4, none⟩) (show ¬ (g = w.heap.size + 1 ∨ g = w.heap.size + 1 + 1) by omega) c4
  have nc5 := fun W (h : ExtX (fun b => b = w.heap.size + 1 ∨ b = w.heap.size + 1 + 1) WX W) => h.cell (p := ⟨g, 5, none⟩) (show ¬ (g = w.heap.size + 1 ∨ g = w.heap.size + 1 + 1) by omega) c5
  have nc6 := fun W (h : ExtX (fun b => b = w.heap.size + 1 ∨ b = w.heap.size + 1 + 1) WX W) => h.cell (p := ⟨g, 6, none⟩) (show ¬ (g = w.heap.size + 1 ∨ g = w.heap.size + 1 + 1) by omega) c6
  have nc7 := fun W (h : ExtX (fun b => b = w.heap.size + 1 ∨ b = w.heap.size + 1 + 1) WX W) => h.cell (p := ⟨g, 7, none⟩) (show ¬ (g = w.heap.size + 1 ∨ g = w.heap.size + 1 + 1) by omega) c7
  refine wp_region_held_drew (S := fun w' => ExtX (fun b => b = w.heap.size + 1 ∨ b = w.heap.size + 1 + 1) WX w') (by kernel_rfl) (by (try dsimp only); (exact xX)) (fun hHeld => ?_)
  refine tL 0 ?_;try simp only [Act.put,pA,pB,pC]
  refine tL 1 ?_;try simp only [Act.put,pA,pB,pC]
  refine dK 2 fun K hK => ?_; go_simp; refine hK.out _ _ (by (try dsimp only); (exact xX)) (fun hHeld => ?_); clear hK K; try simp only [Act.put,pA,pB,pC]
  refine dK 3 fun K hK => ?_; go_simp; refine hK.out _ _ (by (try dsimp only); (exact xX)) (fun hHeld => ?_); clear hK K; try simp only [Act.put,pA,pB,pC]
  refine wpAnyH_done (by kernel_rfl) ?_ _
  repeat (first | go_values | go_skip | go_guarded | go_step | go_upon)
  obtain ⟨hs, ht, hx9⟩ := HEQ.out.out1
  obtain ⟨r0, r1, r2, -⟩ := SBlk.open_ (show SBlk _ _ (some ⟨b, o, none⟩) n c i3 bad3 from Blk.drew hs)
  obtain ⟨r3, r4, r5, r6, r7, r8, r9, ra⟩ := ht.drew.eight
  have hx8 := hx9.drew
  unfold w8s w3s at r0 r1 r2 r3 r4 r5 r6 r7 r8 r9 ra
  exact bodyPost_ret (v := .tuple #[.agg #[.slice (some ⟨b, o, none⟩) n c, .int .i64 (i3 : Nat), .bool bad3], .agg #[.int .u8 12, .int .u8 0, .int .i64 tk.pos, .int .i64 0, .string tx1, .string ⟨#[]⟩, .string ⟨#[]⟩, .slice ak 2 ck]]) (by simp [results, Tryz.results44, go_sem, r0, r1, r2, r3, r4, r5, r6, r7, r8, r9, ra]) rfl (HEQ.out.ret _ hx8)
set_option maxRecDepth 60000 in
set_option maxHeartbeats 8000000 in
theorem ref5_letrec (f : Nat) (hE : DoesS 44 #[] .expr f) (L : List Tk) (a : Option Addr) (n c i : Nat) (l : List Tk) (r : Res Tm) (w : World) (hL : IsL w L a n c) (hA : AtS L n i l) (he : Ended l) (hi : isT [w_letrec] l = true) (hp : parseF (f + 1) .expr l = some r) : Calls Tryz.prog 44 #[.agg #[.slice a n c, .int .i64 (i : Nat), .bool false]] w (RetE L a n c w r) := by
  obtain ⟨tk, l', b, o, rfl, rfl, htf, q0, q1, q2, hnx⟩ := hA.tok hL
  have hlb := World.block_lt_of_cell? _ _ q0
  have hz : (i : Int) < (n : Int) := by have := hA.2; omega
  have mm2 := fun (A B C : Obj) => ((((Ext.refl w).alloc A).alloc B).alloc C).cell q2
  have HL := hid hL
  have HE := hid hE
  have HTF := hid htf
  have htx : txS (tk :: l') = w_letrec := by
    have h1 := txS_is (xs := [w_letrec]) (by decide +kernel) (tk :: l')
    rw [hi] at h1
    have h2 := (inB_iff _ _).1 h1
    simpa using h2
  have KX := hid fun W (h : Ext w W) => ref5_text L (some ⟨b, o, none⟩) n c i false (tk :: l') W (hL.ext h) hA
  rw [htx] at KX
  have hs0 : StS L n i false (.ok ((), tk :: l') : Res Unit) := ⟨rfl, hA, he⟩
  have KW := hid fun W (h : Ext w W) => ref5_wantS L (some ⟨b, o, none⟩) n c i false (.ok ((), tk :: l') : Res Unit) w_letrec (by decide +kernel) W (hL.ext h) hs0
  have ew : thenR (.ok ((), tk :: l') : Res Unit) (getW w_letrec) = .ok ((), l') := getW_is hi
  rw [ew] at KW
  obtain ⟨r', hp', her', her2, hok2⟩ := expr_letrec hi hp
  have HP' := hid hp'
  have HER' := hid her'
  have HER2 := hid her2
  have HOK2 := hid hok2
  have hw_let : (w_letrec.toList == ([108, 101, 116] : List UInt8)) = false := by decide +kernel
  have hw_letrec : (w_letrec.toList == ([108, 101, 116, 114, 101, 99] : List UInt8)) = true := by decide +kernel
  clear hL hA he hp hE hnx htf htx hi hs0 ew hp' her' her2 hok2 q0 q1
  go_enter Tryz.func44, Tryz.ntmps44
  go_upto_region 15 with (go_at_call 41; refine (KX.out _ (by (exact eX))).mono ?_; rintro e w1 ⟨rfl, x1⟩)
  obtain ⟨hS1, hZ1, hZ2⟩ := blk3 x1
  have hg7 : w.heap.size + 1 + 1 < w1.heap.size := hZ2.lt
  have HX0 : Hid (XS5 (some ⟨b, o, none⟩) n c w (w1.heap.size + 1) i false ⟨0, 0, 0, 0, ⟨#[]⟩, ⟨#[]⟩, ⟨#[]⟩⟩ ((w1.alloc (.cells #[] 28)).alloc (.cells zeroT 28))) := hid ⟨(Blk.alloc hS1 _).alloc _, (Blk.alloc hZ1 _).alloc _, (Blk.alloc hZ2 _).alloc _, (by have h := Blk.new (w1.alloc (.cells #[] 28)) 28 zeroT; rw [World.size_alloc] at h; exact h), by omega, by (exact eX)⟩
  unfold zeroT at HX0
  generalize ((w1.alloc (.cells #[] 28)).alloc (.cells #[.int .u8 0, .int .u8 0, .int .i64 0, .int .i64 0, .string ⟨#[]⟩, .string ⟨#[]⟩, .string ⟨#[]⟩, .slice none 0 0] 28)) = W0 at *
  generalize w1.heap.size = b6 at *
  clear hS1 hZ1 hZ2 x1 w1 KX hw_let hw_letrec
  obtain ⟨p0, p1, p2, f0, f1, f2, l0⟩ := SBlk.open_ HX0.out.s
  go_upto_region 16 with (go_at_call 43; refine (KW.out _ HX0.out.x).mono ?_; rintro e w2 ⟨x2, i1, bad1, rfl, hs1⟩; obtain ⟨m0, m1, m2, k0, k1, k2, ll0⟩ := SBlk.open_ (SBlk.ext HX0.out.s x2))
  have HX1 := hid (HX0.out.call x2 i1 bad1)
  unfold w3s at HX1
  clear p0 p1 p2 f0 f1 f2 l0 m0 m1 m2 k0 k1 k2 ll0 x2
  generalize ((w2.setCell ⟨w.heap.size, 0, none⟩ (.slice (some ⟨b, o, none⟩) n c)).setCell ⟨w.heap.size, 1, none⟩ (.int .i64 (i1 : Nat))).setCell ⟨w.heap.size, 2, none⟩ (.bool bad1) = W1 at *
  have HS1 := hid hs1
  clear hs1 HX0 w2 W0 KW
  have ne7 : b6 + 1 ≠ w.heap.size := by have := HX1.out.lt7; omega
  have KG := hid (ref5_getS L (some ⟨b, o, none⟩) n c i1 bad1 (.ok ((), l') : Res Unit) 2 (by omega) W1 (HL.out.ext HX1.out.x) HS1.out)
  obtain ⟨p0, p1, p2, f0, f1, f2, l0⟩ := SBlk.open_ HX1.out.s
  have hl7 := HX1.out.lt7
  go_upto_region 17 with (go_at_call 42; refine (KG.out).mono ?_; rintro e w2 ⟨x2, i2, bad2, tx1, rfl, hs2, ht1⟩; obtain ⟨m0, m1, m2, k0, k1, k2, ll0⟩ := SBlk.open_ (SBlk.ext HX1.out.s x2); obtain ⟨z0, z1, z2, z3, z4, z5, z6, z7⟩ := (HX1.out.t.ext x2).eight; obtain ⟨g0, g1, g2, g3, g4, g5, g6, g7⟩ := (HX1.out.t.ext x2).frozen8; have lz := (HX1.out.t.ext x2).lt)
  have HX2 := hid ((HX1.out.call x2 i2 bad2).name tx1)
  unfold w3s at HX2
  have HM1 : Hid (tx1.size ≤ 9223372036854775807 ∨ ∀ x l1, thenR (.ok ((), l') : Res Unit) (getK 2) ≠ .ok (x, l1)) := hid (by
    cases e : thenR (.ok ((), l') : Res Unit) (getK 2) with
    | error l1 => exact .inr (fun x l1 e => by cases e)
    | ok p =>
      obtain ⟨x, l1⟩ := p
      obtain rfl := ht1 x l1 e
      exact .inl (getS_fits HL.out HS1.out e))
  clear hl7 p0 p1 p2 f0 f1 f2 l0 m0 m1 m2 k0 k1 k2 ll0 x2 z0 z1 z2 z3 z4 z5 z6 z7 g0 g1 g2 g3 g4 g5 g6 g7 lz
  generalize (((w2.setCell ⟨w.heap.size, 0, none⟩ (.slice (some ⟨b, o, none⟩) n c)).setCell ⟨w.heap.size, 1, none⟩ (.int .i64 (i2 : Nat))).setCell ⟨w.heap.size, 2, none⟩ (.bool bad2)).setCell ⟨b6 + 1, 4, none⟩ (.string tx1) = W2 at *
  have HS2 := hid hs2
  have HT1 := hid ht1
  clear hs2 ht1 HX1 HS1 w2 W1 KG
  have KG := hid (ref5_getS L (some ⟨b, o, none⟩) n c i2 bad2 (thenR (.ok ((), l') : Res Unit) (getK 2)) 2 (by omega) W2 (HL.out.ext HX2.out.x) HS2.out)
  obtain ⟨p0, p1, p2, f0, f1, f2, l0⟩ := SBlk.open_ HX2.out.s
  have hl7 := HX2.out.lt7
  go_upto_region 18 with (go_at_call 42; refine (KG.out).mono ?_; rintro e w2 ⟨x2, i3, bad3, tx2, rfl, hs2, ht1⟩; obtain ⟨m0, m1, m2, k0, k1, k2, ll0⟩ := SBlk.open_ (SBlk.ext HX2.out.s x2); obtain ⟨z0, z1, z2, z3, z4, z5, z6, z7⟩ := (HX2.out.t.ext x2).eight; obtain ⟨g0, g1, g2, g3, g4, g5, g6, g7⟩ := (HX2.out.t.ext x2).frozen8; have lz := (HX2.out.t.ext x2).lt)
  have HX3 := hid ((HX2.out.call x2 i3 bad3).arg tx2)
  unfold w3s at HX3
  have HM2 : Hid (tx2.size ≤ 9223372036854775807 ∨ ∀ x l1, thenR (thenR (.ok ((), l') : Res Unit) (getK 2)) (getK 2) ≠ .ok (x, l1)) := hid (by
    cases e : thenR (thenR (.ok ((), l') : Res Unit) (getK 2)) (getK 2) with
    | error l1 => exact .inr (fun x l1 e => by cases e)
    | ok p =>
      obtain ⟨x, l1⟩ := p
      obtain rfl := ht1 x l1 e
      exact .inl (getS_fits HL.out HS2.out e))
  clear hl7 p0 p1 p2 f0 f1 f2 l0 m0 m1 m2 k0 k1 k2 ll0 x2 z0 z1 z2 z3 z4 z5 z6 z7 g0 g1 g2 g3 g4 g5 g6 g7 lz
  generalize (((w2.setCell ⟨w.heap.size, 0, none⟩ (.slice (some ⟨b, o, none⟩) n c)).setCell ⟨w.heap.size, 1, none⟩ (.int .i64 (i3 : Nat))).setCell ⟨w.heap.size, 2, none⟩ (.bool bad3)).setCell ⟨b6 + 1, 5, none⟩ (.string tx2) = W3 at *
  have HS3 := hid hs2
  have HT2 := hid ht1
  clear hs2 ht1 HX2 HS2 w2 W2 KG
  have hrow := IsRow.new W3 9 (vstr [s_eq, w_in])
  have ea : (vstr [s_eq, w_in]).toArray = #[.string ⟨#[61]⟩, .string ⟨#[105, 110]⟩] := rfl
  rw [ea] at hrow
  have KP := hid (ref5_parts HE.out [s_eq, w_in] (by decide) L (some ⟨b, o, none⟩) n c i3 bad3 (thenR (thenR (.ok ((), l') : Res Unit) (getK 2)) (getK 2)) r' _ _ hrow (HL.out.ext (HX3.out.x.alloc _)) HS3.out HP'.out HER'.out)
  clear hrow ea
  simp only [List.length_cons, List.length_nil, Nat.zero_add, Nat.reduceAdd] at KP
  obtain ⟨p0, p1, p2, f0, f1, f2, l0⟩ := SBlk.open_ HX3.out.s
  go_upto_region 19 with (go_at_call 71; refine (KP.out).mono ?_; rintro e w2 ⟨x2, i4, bad4, v, xs, rfl, hs3, ho3, h13, hf3⟩; obtain ⟨ak, ck, rfl⟩ := owns_slice5 ho3; obtain ⟨m0, m1, m2, k0, k1, k2, ll0⟩ := SBlk.open_ (SBlk.ext HX3.out.s ((Ext.refl _).alloc _ |>.trans x2)))
  have HX4 := hid ((HX3.out.call ((Ext.refl _).alloc _ |>.trans x2) i4 bad4))
  have ho3b : W3.heap.size + 1 = (W3.alloc (.cells #[.string ⟨#[61]⟩, .string ⟨#[105, 110]⟩] 9)).heap.size := by simp
  rw [← ho3b] at ho3 hf3
  have X3 : ExtX (· = w.heap.size) w2 (w3s w2 w.heap.size (some ⟨b, o, none⟩) n c i4 bad4) := w3s_x
  unfold w3s at HX4 X3
  have HB := hid HX3.out.t.lt
  clear p0 p1 p2 f0 f1 f2 l0 m0 m1 m2 k0 k1 k2 ll0 x2
  generalize ((w2.setCell ⟨w.heap.size, 0, none⟩ (.slice (some ⟨b, o, none⟩) n c)).setCell ⟨w.heap.size, 1, none⟩ (.int .i64 (i4 : Nat))).setCell ⟨w.heap.size, 2, none⟩ (.bool bad4) = W4 at *
  have HS4 := hid hs3
  have HO3 := hid ho3
  have HF3 := hid hf3
  have HX23 := hid X3
  have HB7 := hid HX3.out.lt7
  clear hs3 ho3 hf3 h13 X3 KP HS3 ho3b
  have H4 : XS5 (some ⟨b, o, none⟩) n c w (b6 + 1) i4 bad4 ⟨13, 0, tk.pos, 0, tx1, tx2, ⟨#[]⟩⟩ ((W4.setCell ⟨b6 + 1, 0, none⟩ (.int .u8 13)).setCell ⟨b6 + 1, 2, none⟩ (.int .i64 tk.pos)) := (HX4.out.kind 13).pos tk.pos
  have X24 : ExtX (fun q => q = w.heap.size ∨ q = b6 + 1) w2 ((W4.setCell ⟨b6 + 1, 0, none⟩ (.int .u8 13)).setCell ⟨b6 + 1, 2, none⟩ (.int .i64 tk.pos)) := ((HX23.out.mono fun _ e => .inl e).setCell (p := ⟨b6 + 1, 0, none⟩) (.inl (.inr rfl)) _).setCell (p := ⟨b6 + 1, 2, none⟩) (.inl (.inr rfl)) _
  have HEQ : Hid (EQ5 L (some ⟨b, o, none⟩) n c w r (b6 + 1) i4 bad4 ⟨13, 0, tk.pos, 0, tx1, tx2, ⟨#[]⟩⟩ ak 2 ck _) := hid (H4.fin (HS4.out.cast (fun l e => HER2.out l e) (fun ts l e => by obtain ⟨x, l0, y, l1, -, -, e2⟩ := HOK2.out ts l e; exact ⟨_, e2⟩)) (fun t l e => by
    cases r' with
    | error l2 => rw [HER2.out l2 rfl] at e; cases e
    | ok p =>
      obtain ⟨ts, l2⟩ := p
      obtain ⟨x, l0, y, l1, e0, e1, e2⟩ := HOK2.out ts l2 rfl
      have hm1 := HM1.out.resolve_right (fun h => h x l0 e0)
      have e1' : thenR (thenR (.ok ((), l') : Res Unit) (getK 2)) (getK 2) = .ok (y, l1) := by rw [show thenR (.ok ((), l') : Res Unit) (getK 2) = .ok (x, l0) from e0]; exact e1
      have hm2 := HM2.out.resolve_right (fun h => h y l1 e1')
      have e1 := e1'
      rw [e2] at e
      cases e
      obtain rfl := HT1.out x l0 e0
      obtain rfl := HT2.out y l1 e1'
      obtain ⟨ak', ck', ev, k1, k2, k3⟩ := XS5.kids (w := w) (g7 := b6 + 1) (fun q e => by rcases e with e | e; exact .inl e; exact .inr (.inl e)) (by have := HB.out; have := HB7.out; omega) (by have := HB.out; omega) X24 HO3.out (HF3.out ts l rfl) (by have h := partsF_len _ _ _ _ _ (HP'.out _ _ e1); simp at h; omega)
      cases ev
      exact ⟨rfl, fits5 (by omega) (by omega) ⟨HTF.out.p0, HTF.out.p1⟩ hm1 hm2 (by decide), k1, k2, k3⟩))
  obtain ⟨z0, z1, z2, z3, z4, z5, z6, z7⟩ := HX4.out.t.eight
  obtain ⟨g0, g1, g2, g3, g4, g5, g6, g7⟩ := HX4.out.t.frozen8
  have lz := HX4.out.t.lt
  go_upto_region 41 with fail
  clear z0 z1 z2 z3 z4 z5 z6 z7 g0 g1 g2 g3 g4 g5 g6 g7 lz H4 X24
  generalize ((W4.setCell ⟨b6 + 1, 0, none⟩ (.int .u8 13)).setCell ⟨b6 + 1, 2, none⟩ (.int .i64 tk.pos)).setCell ⟨b6 + 1, 7, none⟩ (.slice ak 2 ck) = WX at *
  generalize b6 + 1 = g at *
  clear HX4 HX23 HF3 HO3 HS4 HX3
  obtain ⟨p0, p1, p2, f0, f1, f2, l0⟩ := SBlk.open_ HEQ.out.s
  obtain ⟨c0, c1, c2, c3, c4, c5, c6, c7⟩ := HEQ.out.t.eight
  obtain ⟨z0, z1, z2, z3, z4, z5, z6, z7⟩ := HEQ.out.z2.eight
  obtain ⟨g0, g1, g2, g3, g4, g5, g6, g7⟩ := HEQ.out.z2.frozen8
  have v0 := HEQ.out.z1.cell 0
  have v1 := HEQ.out.z1.cell 1
  have v2 := HEQ.out.z1.cell 2
  simp at v0 v1 v2
  have v3 := HEQ.out.z1.frozen 0
  have v4 := HEQ.out.z1.frozen 1
  have v5 := HEQ.out.z1.frozen 2
  have lv := HEQ.out.z1.lt
  have lz := HEQ.out.z2.lt
  have hl7 := HEQ.out.lt7
  have ne1 : w.heap.size + 1 ≠ w.heap.size + 1 + 1 := by omega
  have ne2 : w.heap.size + 1 + 1 ≠ w.heap.size + 1 := by omega
  have ns0 := fun W (h : ExtX (fun b => b = w.heap.size + 1 ∨ b = w.heap.size + 1 + 1) WX W) => h.cell (p := ⟨w.heap.size, 0, none⟩) (show ¬ (w.heap.size = w.heap.size + 1 ∨ w.heap.size = w.heap.size + 1 + 1) by omega) p0
  have ns1 := fun W (h : ExtX (fun b => b = w.heap.size + 1 ∨ b = w.heap.size + 1 + 1) WX W) => h.cell (p := ⟨w.heap.size, 1, none⟩) (show ¬ (w.heap.size = w.heap.size + 1 ∨ w.heap.size = w.heap.size + 1 + 1) by omega) p1
  have ns2 := fun W (h : ExtX (fun b => b = w.heap.size + 1 ∨ b = w.heap.size + 1 + 1) WX W) => h.cell (p := ⟨w.heap.size, 2, none⟩) (show ¬ (w.heap.size = w.heap.size + 1 ∨ w.heap.size = w.heap.size + 1 + 1) by omega) p2
  have nc0 := fun W (h : ExtX (fun b => b = w.heap.size + 1 ∨ b = w.heap.size + 1 + 1) WX W) => h.cell (p := ⟨g, 0, none⟩) (show ¬ (g = w.heap.size + 1 ∨ g = w.heap.size + 1 + 1) by omega) c0
  have nc1 := fun W (h : ExtX (fun b => b = w.heap.size + 1 ∨ b = w.heap.size + 1 + 1) WX W) => h.cell (p := ⟨g, 1, none⟩) (show ¬ (g = w.heap.size + 1 ∨ g = w.heap.size + 1 + 1) by omega) c1
  have nc2 := fun W (h : ExtX (fun b => b = w.heap.size + 1 ∨ b = w.heap.size + 1 + 1) WX W) => h.cell (p := ⟨g, 2, none⟩) (show ¬ (g = w.heap.size + 1 ∨ g = w.heap.size + 1 + 1) by omega) c2
  have nc3 := fun W (h : ExtX (fun b => b = w.heap.size + 1 ∨ b = w.heap.size + 1 + 1) WX W) => h.cell (p := ⟨g, 3, none⟩) (show ¬ (g = w.heap.size + 1 ∨ g = w.heap.size + 1 + 1) by omega) c3
  have nc4 := fun W (h : ExtX (fun b => b = w.heap.size + 1 ∨ b = w.heap.size + 1 + 1) WX W) => h.cell (p := ⟨g, 4, none⟩) (show ¬ (g = w.heap.size + 1 ∨ g = w.heap.size + 1 + 1) by omega) c4
  have nc5 := fun W (h : ExtX (fun b => b = w.heap.size + 1 ∨ b = w.heap.size + 1 + 1) WX W) => h.cell (p := ⟨g, 5, none⟩) (show ¬ (g = w.heap.size + 1 ∨ g = w.heap.size + 1 + 1) by omega) c5
  have nc6 := fun W (h : ExtX (fun b => b = w.heap.size + 1 ∨ b = w.heap.size + 1 + 1) WX W) => h.cell (p := ⟨g, 6, none⟩) (show ¬ (g = w.heap.size + 1 ∨ g = w.heap.size + 1 + 1) by omega) c6
  have nc7 := fun W (h : ExtX (fun b => b = w.heap.size + 1 ∨ b = w.heap.size + 1 + 1) WX W) => h.cell (p := ⟨g, 7, none⟩) (show ¬ (g = w.heap.size + 1 ∨ g = w.heap.size + 1 + 1) by omega) c7
  refine wp_region_held_drew (S := fun w' => ExtX (fun b => b = w.heap.size + 1 ∨ b = w.heap.size + 1 + 1) WX w') (by kernel_rfl) (by (try dsimp only); (exact xX)) (fun hHeld => ?_)
  refine tL 0 ?_;try simp only [Act.put,pA,pB,pC]
  refine tL 1 ?_;try simp only [Act.put,pA,pB,pC]
  refine dK 2 fun K hK => ?_; go_simp; refine hK.out _ _ (by (try dsimp only); (exact xX)) (fun hHeld => ?_); clear hK K; try simp only [Act.put,pA,pB,pC]
  refine dK 3 fun K hK => ?_; go_simp; refine hK.out _ _ (by (try dsimp only); (exact xX)) (fun hHeld => ?_); clear hK K; try simp only [Act.put,pA,pB,pC]
  refine wpAnyH_done (by kernel_rfl) ?_ _
  repeat (first | go_values | go_skip | go_guarded | go_step | go_upon)
  obtain ⟨hs, ht, hx9⟩ := HEQ.out.out1
  obtain ⟨r0, r1, r2, -⟩ := SBlk.open_ (show SBlk _ _ (some ⟨b, o, none⟩) n c i4 bad4 from Blk.drew hs)
  obtain ⟨r3, r4, r5, r6, r7, r8, r9, ra⟩ := ht.drew.eight
  have hx8 := hx9.drew
  unfold w8s w3s at r0 r1 r2 r3 r4 r5 r6 r7 r8 r9 ra
  exact bodyPost_ret (v := .tuple #[.agg #[.slice (some ⟨b, o, none⟩) n c, .int .i64 (i4 : Nat), .bool bad4], .agg #[.int .u8 13, .int .u8 0, .int .i64 tk.pos, .int .i64 0, .string tx1, .string tx2, .string ⟨#[]⟩, .slice ak 2 ck]]) (by simp [results, Tryz.results44, go_sem, r0, r1, r2, r3, r4, r5, r6, r7, r8, r9, ra]) rfl (HEQ.out.ret _ hx8)
set_option maxRecDepth 60000 in
set_option maxHeartbeats 8000000 in
theorem ref5_fn (f : Nat) (hE : DoesS 44 #[] .expr f) (L : List Tk) (a : Option Addr) (n c i : Nat) (l : List Tk) (r : Res Tm) (w : World) (hL : IsL w L a n c) (hA : AtS L n i l) (he : Ended l) (hi : isT [w_fn] l = true) (hp : parseF (f + 1) .expr l = some r) : Calls Tryz.prog 44 #[.agg #[.slice a n c, .int .i64 (i : Nat), .bool false]] w (RetE L a n c w r) := by
  obtain ⟨tk, l', b, o, rfl, rfl, htf, q0, q1, q2, hnx⟩ := hA.tok hL
  have hlb := World.block_lt_of_cell? _ _ q0
  have hz : (i : Int) < (n : Int) := by have := hA.2; omega
  have mm2 := fun (A B C : Obj) => ((((Ext.refl w).alloc A).alloc B).alloc C).cell q2
  have HL := hid hL
  have HE := hid hE
  have HTF := hid htf
  have htx : txS (tk :: l') = w_fn := by
    have h1 := txS_is (xs := [w_fn]) (by decide +kernel) (tk :: l')
    rw [hi] at h1
    have h2 := (inB_iff _ _).1 h1
    simpa using h2
  have KX := hid fun W (h : Ext w W) => ref5_text L (some ⟨b, o, none⟩) n c i false (tk :: l') W (hL.ext h) hA
  rw [htx] at KX
  have hs0 : StS L n i false (.ok ((), tk :: l') : Res Unit) := ⟨rfl, hA, he⟩
  have KW := hid fun W (h : Ext w W) => ref5_wantS L (some ⟨b, o, none⟩) n c i false (.ok ((), tk :: l') : Res Unit) w_fn (by decide +kernel) W (hL.ext h) hs0
  have ew : thenR (.ok ((), tk :: l') : Res Unit) (getW w_fn) = .ok ((), l') := getW_is hi
  rw [ew] at KW
  obtain ⟨r', hp', her', her2, hok2⟩ := expr_fn hi hp
  have HP' := hid hp'
  have HER' := hid her'
  have HER2 := hid her2
  have HOK2 := hid hok2
  have hw_let : (w_fn.toList == ([108, 101, 116] : List UInt8)) = false := by decide +kernel
  have hw_letrec : (w_fn.toList == ([108, 101, 116, 114, 101, 99] : List UInt8)) = false := by decide +kernel
  have hw_fn : (w_fn.toList == ([102, 110] : List UInt8)) = true := by decide +kernel
  clear hL hA he hp hE hnx htf htx hi hs0 ew hp' her' her2 hok2 q0 q1
  go_enter Tryz.func44, Tryz.ntmps44
  go_upto_region 21 with (go_at_call 41; refine (KX.out _ (by (exact eX))).mono ?_; rintro e w1 ⟨rfl, x1⟩)
  obtain ⟨hS1, hZ1, hZ2⟩ := blk3 x1
  have hg7 : w.heap.size + 1 + 1 < w1.heap.size := hZ2.lt
  have HX0 : Hid (XS5 (some ⟨b, o, none⟩) n c w (w1.heap.size + 1) i false ⟨0, 0, 0, 0, ⟨#[]⟩, ⟨#[]⟩, ⟨#[]⟩⟩ ((w1.alloc (.cells #[] 28)).alloc (.cells zeroT 28))) := hid ⟨(Blk.alloc hS1 _).alloc _, (Blk.alloc hZ1 _).alloc _, (Blk.alloc hZ2 _).alloc _, (by have h := Blk.new (w1.alloc (.cells #[] 28)) 28 zeroT; rw [World.size_alloc] at h; exact h), by omega, by (exact eX)⟩
  unfold zeroT at HX0
  generalize ((w1.alloc (.cells #[] 28)).alloc (.cells #[.int .u8 0, .int .u8 0, .int .i64 0, .int .i64 0, .string ⟨#[]⟩, .string ⟨#[]⟩, .string ⟨#[]⟩, .slice none 0 0] 28)) = W0 at *
  generalize w1.heap.size = b6 at *
  clear hS1 hZ1 hZ2 x1 w1 KX hw_let hw_letrec hw_fn
  obtain ⟨p0, p1, p2, f0, f1, f2, l0⟩ := SBlk.open_ HX0.out.s
  go_upto_region 22 with (go_at_call 43; refine (KW.out _ HX0.out.x).mono ?_; rintro e w2 ⟨x2, i1, bad1, rfl, hs1⟩; obtain ⟨m0, m1, m2, k0, k1, k2, ll0⟩ := SBlk.open_ (SBlk.ext HX0.out.s x2))
  have HX1 := hid (HX0.out.call x2 i1 bad1)
  unfold w3s at HX1
  clear p0 p1 p2 f0 f1 f2 l0 m0 m1 m2 k0 k1 k2 ll0 x2
  generalize ((w2.setCell ⟨w.heap.size, 0, none⟩ (.slice (some ⟨b, o, none⟩) n c)).setCell ⟨w.heap.size, 1, none⟩ (.int .i64 (i1 : Nat))).setCell ⟨w.heap.size, 2, none⟩ (.bool bad1) = W1 at *
  have HS1 := hid hs1
  clear hs1 HX0 w2 W0 KW
  have ne7 : b6 + 1 ≠ w.heap.size := by have := HX1.out.lt7; omega
  have KG := hid (ref5_getS L (some ⟨b, o, none⟩) n c i1 bad1 (.ok ((), l') : Res Unit) 2 (by omega) W1 (HL.out.ext HX1.out.x) HS1.out)
  obtain ⟨p0, p1, p2, f0, f1, f2, l0⟩ := SBlk.open_ HX1.out.s
  have hl7 := HX1.out.lt7
  go_upto_region 23 with (go_at_call 42; refine (KG.out).mono ?_; rintro e w2 ⟨x2, i2, bad2, tx1, rfl, hs2, ht1⟩; obtain ⟨m0, m1, m2, k0, k1, k2, ll0⟩ := SBlk.open_ (SBlk.ext HX1.out.s x2); obtain ⟨z0, z1, z2, z3, z4, z5, z6, z7⟩ := (HX1.out.t.ext x2).eight; obtain ⟨g0, g1, g2, g3, g4, g5, g6, g7⟩ := (HX1.out.t.ext x2).frozen8; have lz := (HX1.out.t.ext x2).lt)
  have HX2 := hid ((HX1.out.call x2 i2 bad2).arg tx1)
  unfold w3s at HX2
  have HM1 : Hid (tx1.size ≤ 9223372036854775807 ∨ ∀ x l1, thenR (.ok ((), l') : Res Unit) (getK 2) ≠ .ok (x, l1)) := hid (by
    cases e : thenR (.ok ((), l') : Res Unit) (getK 2) with
    | error l1 => exact .inr (fun x l1 e => by cases e)
    | ok p =>
      obtain ⟨x, l1⟩ := p
      obtain rfl := ht1 x l1 e
      exact .inl (getS_fits HL.out HS1.out e))
  clear hl7 p0 p1 p2 f0 f1 f2 l0 m0 m1 m2 k0 k1 k2 ll0 x2 z0 z1 z2 z3 z4 z5 z6 z7 g0 g1 g2 g3 g4 g5 g6 g7 lz
  generalize (((w2.setCell ⟨w.heap.size, 0, none⟩ (.slice (some ⟨b, o, none⟩) n c)).setCell ⟨w.heap.size, 1, none⟩ (.int .i64 (i2 : Nat))).setCell ⟨w.heap.size, 2, none⟩ (.bool bad2)).setCell ⟨b6 + 1, 5, none⟩ (.string tx1) = W2 at *
  have HS2 := hid hs2
  have HT1 := hid ht1
  clear hs2 ht1 HX1 HS1 w2 W1 KG
  have hrow := IsRow.new W2 9 (vstr [s_to])
  have ea : (vstr [s_to]).toArray = #[.string ⟨#[61, 62]⟩] := rfl
  rw [ea] at hrow
  have KP := hid (ref5_parts HE.out [s_to] (by decide) L (some ⟨b, o, none⟩) n c i2 bad2 (thenR (.ok ((), l') : Res Unit) (getK 2)) r' _ _ hrow (HL.out.ext (HX2.out.x.alloc _)) HS2.out HP'.out HER'.out)
  clear hrow ea
  simp only [List.length_cons, List.length_nil, Nat.zero_add, Nat.reduceAdd] at KP
  obtain ⟨p0, p1, p2, f0, f1, f2, l0⟩ := SBlk.open_ HX2.out.s
  go_upto_region 24 with (go_at_call 71; refine (KP.out).mono ?_; rintro e w2 ⟨x2, i3, bad3, v, xs, rfl, hs3, ho3, h13, hf3⟩; obtain ⟨ak, ck, rfl⟩ := owns_slice5 ho3; obtain ⟨m0, m1, m2, k0, k1, k2, ll0⟩ := SBlk.open_ (SBlk.ext HX2.out.s ((Ext.refl _).alloc _ |>.trans x2)))
  have HX3 := hid ((HX2.out.call ((Ext.refl _).alloc _ |>.trans x2) i3 bad3))
  have ho3b : W2.heap.size + 1 = (W2.alloc (.cells #[.string ⟨#[61, 62]⟩] 9)).heap.size := by simp
  rw [← ho3b] at ho3 hf3
  have X3 : ExtX (· = w.heap.size) w2 (w3s w2 w.heap.size (some ⟨b, o, none⟩) n c i3 bad3) := w3s_x
  unfold w3s at HX3 X3
  have HB := hid HX2.out.t.lt
  clear p0 p1 p2 f0 f1 f2 l0 m0 m1 m2 k0 k1 k2 ll0 x2
  generalize ((w2.setCell ⟨w.heap.size, 0, none⟩ (.slice (some ⟨b, o, none⟩) n c)).setCell ⟨w.heap.size, 1, none⟩ (.int .i64 (i3 : Nat))).setCell ⟨w.heap.size, 2, none⟩ (.bool bad3) = W3 at *
  have HS3 := hid hs3
  have HO3 := hid ho3
  have HF3 := hid hf3
  have HX23 := hid X3
  have HB7 := hid HX2.out.lt7
  clear hs3 ho3 hf3 h13 X3 KP HS2 ho3b
  have H4 : XS5 (some ⟨b, o, none⟩) n c w (b6 + 1) i3 bad3 ⟨11, 0, tk.pos, 0, ⟨#[]⟩, tx1, ⟨#[]⟩⟩ ((W3.setCell ⟨b6 + 1, 0, none⟩ (.int .u8 11)).setCell ⟨b6 + 1, 2, none⟩ (.int .i64 tk.pos)) := (HX3.out.kind 11).pos tk.pos
  have X24 : ExtX (fun q => q = w.heap.size ∨ q = b6 + 1) w2 ((W3.setCell ⟨b6 + 1, 0, none⟩ (.int .u8 11)).setCell ⟨b6 + 1, 2, none⟩ (.int .i64 tk.pos)) := ((HX23.out.mono fun _ e => .inl e).setCell (p := ⟨b6 + 1, 0, none⟩) (.inl (.inr rfl)) _).setCell (p := ⟨b6 + 1, 2, none⟩) (.inl (.inr rfl)) _
  have HEQ : Hid (EQ5 L (some ⟨b, o, none⟩) n c w r (b6 + 1) i3 bad3 ⟨11, 0, tk.pos, 0, ⟨#[]⟩, tx1, ⟨#[]⟩⟩ ak 1 ck _) := hid (H4.fin (HS3.out.cast (fun l e => HER2.out l e) (fun ts l e => by obtain ⟨x, l1, -, e2⟩ := HOK2.out ts l e; exact ⟨_, e2⟩)) (fun t l e => by
    cases r' with
    | error l2 => rw [HER2.out l2 rfl] at e; cases e
    | ok p =>
      obtain ⟨ts, l2⟩ := p
      obtain ⟨x, l1, e1, e2⟩ := HOK2.out ts l2 rfl
      have hm1 := HM1.out.resolve_right (fun h => h x l1 e1)
      rw [e2] at e
      cases e
      obtain rfl := HT1.out x l1 e1
      obtain ⟨ak', ck', ev, k1, k2, k3⟩ := XS5.kids (w := w) (g7 := b6 + 1) (fun q e => by rcases e with e | e; exact .inl e; exact .inr (.inl e)) (by have := HB.out; have := HB7.out; omega) (by have := HB.out; omega) X24 HO3.out (HF3.out ts l rfl) (by have h := partsF_len _ _ _ _ _ (HP'.out _ _ e1); simp at h; omega)
      cases ev
      exact ⟨rfl, fits5 (by omega) (by omega) ⟨HTF.out.p0, HTF.out.p1⟩ (by decide) hm1 (by decide), k1, k2, k3⟩))
  obtain ⟨z0, z1, z2, z3, z4, z5, z6, z7⟩ := HX3.out.t.eight
  obtain ⟨g0, g1, g2, g3, g4, g5, g6, g7⟩ := HX3.out.t.frozen8
  have lz := HX3.out.t.lt
  go_upto_region 41 with fail
  clear z0 z1 z2 z3 z4 z5 z6 z7 g0 g1 g2 g3 g4 g5 g6 g7 lz H4 X24
  generalize ((W3.setCell ⟨b6 + 1, 0, none⟩ (.int .u8 11)).setCell ⟨b6 + 1, 2, none⟩ (.int .i64 tk.pos)).setCell ⟨b6 + 1, 7, none⟩ (.slice ak 1 ck) = WX at *
  generalize b6 + 1 = g at *
  clear HX3 HX23 HF3 HO3 HS3 HX2
  obtain ⟨p0, p1, p2, f0, f1, f2, l0⟩ := SBlk.open_ HEQ.out.s
  obtain ⟨c0, c1, c2, c3, c4, c5, c6, c7⟩ := HEQ.out.t.eight
  obtain ⟨z0, z1, z2, z3, z4, z5, z6, z7⟩ := HEQ.out.z2.eight
  obtain ⟨g0, g1, g2, g3, g4, g5, g6, g7⟩ := HEQ.out.z2.frozen8
  have v0 := HEQ.out.z1.cell 0
  have v1 := HEQ.out.z1.cell 1
  have v2 := HEQ.out.z1.cell 2
  simp at v0 v1 v2
  have v3 := HEQ.out.z1.frozen 0
  have v4 := HEQ.out.z1.frozen 1
  have v5 := HEQ.out.z1.frozen 2
  have lv := HEQ.out.z1.lt
  have lz := HEQ.out.z2.lt
  have hl7 := HEQ.out.lt7
  have ne1 : w.heap.size + 1 ≠ w.heap.size + 1 + 1 := by omega
  have ne2 : w.heap.size + 1 + 1 ≠ w.heap.size + 1 := by omega
  have ns0 := fun W (h : ExtX (fun b => b = w.heap.size + 1 ∨ b = w.heap.size + 1 + 1) WX W) => h.cell (p := ⟨w.heap.size, 0, none⟩) (show ¬ (w.heap.size = w.heap.size + 1 ∨ w.heap.size = w.heap.size + 1 + 1) by omega) p0
  have ns1 := fun W (h : ExtX (fun b => b = w.heap.size + 1 ∨ b = w.heap.size + 1 + 1) WX W) => h.cell (p := ⟨w.heap.size, 1, none⟩) (show ¬ (w.heap.size = w.heap.size + 1 ∨ w.heap.size = w.heap.size + 1 + 1) by omega) p1
  have ns2 := fun W (h : ExtX (fun b => b = w.heap.size + 1 ∨ b = w.heap.size + 1 + 1) WX W) => h.cell (p := ⟨w.heap.size, 2, none⟩) (show ¬ (w.heap.size = w.heap.size + 1 ∨ w.heap.size = w.heap.size + 1 + 1) by omega) p2
  have nc0 := fun W (h : ExtX (fun b => b = w.heap.size + 1 ∨ b = w.heap.size + 1 + 1) WX W) => h.cell (p := ⟨g, 0, none⟩) (show ¬ (g = w.heap.size + 1 ∨ g = w.heap.size + 1 + 1) by omega) c0
  have nc1 := fun W (h : ExtX (fun b => b = w.heap.size + 1 ∨ b = w.heap.size + 1 + 1) WX W) => h.cell (p := ⟨g, 1, none⟩) (show ¬ (g = w.heap.size + 1 ∨ g = w.heap.size + 1 + 1) by omega) c1
  have nc2 := fun W (h : ExtX (fun b => b = w.heap.size + 1 ∨ b = w.heap.size + 1 + 1) WX W) => h.cell (p := ⟨g, 2, none⟩) (show ¬ (g = w.heap.size + 1 ∨ g = w.heap.size + 1 + 1) by omega) c2
  have nc3 := fun W (h : ExtX (fun b => b = w.heap.size + 1 ∨ b = w.heap.size + 1 + 1) WX W) => h.cell (p := ⟨g, 3, none⟩) (show ¬ (g = w.heap.size + 1 ∨ g = w.heap.size + 1 + 1) by omega) c3
  have nc4 := fun W (h : ExtX (fun b => b = w.heap.size + 1 ∨ b = w.heap.size + 1 + 1) WX W) => h.cell (p := ⟨g, 4, none⟩) (show ¬ (g = w.heap.size + 1 ∨ g = w.heap.size + 1 + 1) by omega) c4
  have nc5 := fun W (h : ExtX (fun b => b = w.heap.size + 1 ∨ b = w.heap.size + 1 + 1) WX W) => h.cell (p := ⟨g, 5, none⟩) (show ¬ (g = w.heap.size + 1 ∨ g = w.heap.size + 1 + 1) by omega) c5
  have nc6 := fun W (h : ExtX (fun b => b = w.heap.size + 1 ∨ b = w.heap.size + 1 + 1) WX W) => h.cell (p := ⟨g, 6, none⟩) (show ¬ (g = w.heap.size + 1 ∨ g = w.heap.size + 1 + 1) by omega) c6
  have nc7 := fun W (h : ExtX (fun b => b = w.heap.size + 1 ∨ b = w.heap.size + 1 + 1) WX W) => h.cell (p := ⟨g, 7, none⟩) (show ¬ (g = w.heap.size + 1 ∨ g = w.heap.size + 1 + 1) by omega) c7
  refine wp_region_held_drew (S := fun w' => ExtX (fun b => b = w.heap.size + 1 ∨ b = w.heap.size + 1 + 1) WX w') (by kernel_rfl) (by (try dsimp only); (exact xX)) (fun hHeld => ?_)
  refine tL 0 ?_;try simp only [Act.put,pA,pB,pC]
  refine tL 1 ?_;try simp only [Act.put,pA,pB,pC]
  refine dK 2 fun K hK => ?_; go_simp; refine hK.out _ _ (by (try dsimp only); (exact xX)) (fun hHeld => ?_); clear hK K; try simp only [Act.put,pA,pB,pC]
  refine dK 3 fun K hK => ?_; go_simp; refine hK.out _ _ (by (try dsimp only); (exact xX)) (fun hHeld => ?_); clear hK K; try simp only [Act.put,pA,pB,pC]
  refine wpAnyH_done (by kernel_rfl) ?_ _
  repeat (first | go_values | go_skip | go_guarded | go_step | go_upon)
  obtain ⟨hs, ht, hx9⟩ := HEQ.out.out1
  obtain ⟨r0, r1, r2, -⟩ := SBlk.open_ (show SBlk _ _ (some ⟨b, o, none⟩) n c i3 bad3 from Blk.drew hs)
  obtain ⟨r3, r4, r5, r6, r7, r8, r9, ra⟩ := ht.drew.eight
  have hx8 := hx9.drew
  unfold w8s w3s at r0 r1 r2 r3 r4 r5 r6 r7 r8 r9 ra
  exact bodyPost_ret (v := .tuple #[.agg #[.slice (some ⟨b, o, none⟩) n c, .int .i64 (i3 : Nat), .bool bad3], .agg #[.int .u8 11, .int .u8 0, .int .i64 tk.pos, .int .i64 0, .string ⟨#[]⟩, .string tx1, .string ⟨#[]⟩, .slice ak 1 ck]]) (by simp [results, Tryz.results44, go_sem, r0, r1, r2, r3, r4, r5, r6, r7, r8, r9, ra]) rfl (HEQ.out.ret _ hx8)
set_option maxRecDepth 60000 in
set_option maxHeartbeats 8000000 in
theorem ref5_if (f : Nat) (hE : DoesS 44 #[] .expr f) (L : List Tk) (a : Option Addr) (n c i : Nat) (l : List Tk) (r : Res Tm) (w : World) (hL : IsL w L a n c) (hA : AtS L n i l) (he : Ended l) (hi : isT [w_if] l = true) (hp : parseF (f + 1) .expr l = some r) : Calls Tryz.prog 44 #[.agg #[.slice a n c, .int .i64 (i : Nat), .bool false]] w (RetE L a n c w r) := by
  obtain ⟨tk, l', b, o, rfl, rfl, htf, q0, q1, q2, hnx⟩ := hA.tok hL
  have hlb := World.block_lt_of_cell? _ _ q0
  have hz : (i : Int) < (n : Int) := by have := hA.2; omega
  have mm2 := fun (A B C : Obj) => ((((Ext.refl w).alloc A).alloc B).alloc C).cell q2
  have HL := hid hL
  have HE := hid hE
  have HTF := hid htf
  have htx : txS (tk :: l') = w_if := by
    have h1 := txS_is (xs := [w_if]) (by decide +kernel) (tk :: l')
    rw [hi] at h1
    have h2 := (inB_iff _ _).1 h1
    simpa using h2
  have KX := hid fun W (h : Ext w W) => ref5_text L (some ⟨b, o, none⟩) n c i false (tk :: l') W (hL.ext h) hA
  rw [htx] at KX
  have hs0 : StS L n i false (.ok ((), tk :: l') : Res Unit) := ⟨rfl, hA, he⟩
  have KW := hid fun W (h : Ext w W) => ref5_wantS L (some ⟨b, o, none⟩) n c i false (.ok ((), tk :: l') : Res Unit) w_if (by decide +kernel) W (hL.ext h) hs0
  have ew : thenR (.ok ((), tk :: l') : Res Unit) (getW w_if) = .ok ((), l') := getW_is hi
  rw [ew] at KW
  obtain ⟨r', hp', her', her2, hok2⟩ := expr_if hi hp
  have HP' := hid hp'
  have HER' := hid her'
  have HER2 := hid her2
  have HOK2 := hid hok2
  have hw_let : (w_if.toList == ([108, 101, 116] : List UInt8)) = false := by decide +kernel
  have hw_letrec : (w_if.toList == ([108, 101, 116, 114, 101, 99] : List UInt8)) = false := by decide +kernel
  have hw_fn : (w_if.toList == ([102, 110] : List UInt8)) = false := by decide +kernel
  have hw_if : (w_if.toList == ([105, 102] : List UInt8)) = true := by decide +kernel
  clear hL hA he hp hE hnx htf htx hi hs0 ew hp' her' her2 hok2 q0 q1
  go_enter Tryz.func44, Tryz.ntmps44
  go_upto_region 26 with (go_at_call 41; refine (KX.out _ (by (exact eX))).mono ?_; rintro e w1 ⟨rfl, x1⟩)
  obtain ⟨hS1, hZ1, hZ2⟩ := blk3 x1
  have hg7 : w.heap.size + 1 + 1 < w1.heap.size := hZ2.lt
  have HX0 : Hid (XS5 (some ⟨b, o, none⟩) n c w (w1.heap.size + 1) i false ⟨0, 0, 0, 0, ⟨#[]⟩, ⟨#[]⟩, ⟨#[]⟩⟩ ((w1.alloc (.cells #[] 28)).alloc (.cells zeroT 28))) := hid ⟨(Blk.alloc hS1 _).alloc _, (Blk.alloc hZ1 _).alloc _, (Blk.alloc hZ2 _).alloc _, (by have h := Blk.new (w1.alloc (.cells #[] 28)) 28 zeroT; rw [World.size_alloc] at h; exact h), by omega, by (exact eX)⟩
  unfold zeroT at HX0
  generalize ((w1.alloc (.cells #[] 28)).alloc (.cells #[.int .u8 0, .int .u8 0, .int .i64 0, .int .i64 0, .string ⟨#[]⟩, .string ⟨#[]⟩, .string ⟨#[]⟩, .slice none 0 0] 28)) = W0 at *
  generalize w1.heap.size = b6 at *
  clear hS1 hZ1 hZ2 x1 w1 KX hw_let hw_letrec hw_fn hw_if
  obtain ⟨p0, p1, p2, f0, f1, f2, l0⟩ := SBlk.open_ HX0.out.s
  go_upto_region 27 with (go_at_call 43; refine (KW.out _ HX0.out.x).mono ?_; rintro e w2 ⟨x2, i1, bad1, rfl, hs1⟩; obtain ⟨m0, m1, m2, k0, k1, k2, ll0⟩ := SBlk.open_ (SBlk.ext HX0.out.s x2))
  have HX1 := hid (HX0.out.call x2 i1 bad1)
  unfold w3s at HX1
  clear p0 p1 p2 f0 f1 f2 l0 m0 m1 m2 k0 k1 k2 ll0 x2
  generalize ((w2.setCell ⟨w.heap.size, 0, none⟩ (.slice (some ⟨b, o, none⟩) n c)).setCell ⟨w.heap.size, 1, none⟩ (.int .i64 (i1 : Nat))).setCell ⟨w.heap.size, 2, none⟩ (.bool bad1) = W1 at *
  have HS1 := hid hs1
  clear hs1 HX0 w2 W0 KW
  have ne7 : b6 + 1 ≠ w.heap.size := by have := HX1.out.lt7; omega
  have hrow := IsRow.new W1 9 (vstr [ByteArray.empty, w_then, w_else])
  have ea : (vstr [ByteArray.empty, w_then, w_else]).toArray = #[.string ⟨#[]⟩, .string ⟨#[116, 104, 101, 110]⟩, .string ⟨#[101, 108, 115, 101]⟩] := rfl
  rw [ea] at hrow
  have KP := hid (ref5_parts HE.out [ByteArray.empty, w_then, w_else] (by decide) L (some ⟨b, o, none⟩) n c i1 bad1 (.ok ((), l') : Res Unit) r' _ _ hrow (HL.out.ext (HX1.out.x.alloc _)) HS1.out HP'.out HER'.out)
  clear hrow ea
  simp only [List.length_cons, List.length_nil, Nat.zero_add, Nat.reduceAdd] at KP
  obtain ⟨p0, p1, p2, f0, f1, f2, l0⟩ := SBlk.open_ HX1.out.s
  go_upto_region 28 with (go_at_call 71; refine (KP.out).mono ?_; rintro e w2 ⟨x2, i2, bad2, v, xs, rfl, hs3, ho3, h13, hf3⟩; obtain ⟨ak, ck, rfl⟩ := owns_slice5 ho3; obtain ⟨m0, m1, m2, k0, k1, k2, ll0⟩ := SBlk.open_ (SBlk.ext HX1.out.s ((Ext.refl _).alloc _ |>.trans x2)))
  have HX2 := hid ((HX1.out.call ((Ext.refl _).alloc _ |>.trans x2) i2 bad2))
  have ho3b : W1.heap.size + 1 = (W1.alloc (.cells #[.string ⟨#[]⟩, .string ⟨#[116, 104, 101, 110]⟩, .string ⟨#[101, 108, 115, 101]⟩] 9)).heap.size := by simp
  rw [← ho3b] at ho3 hf3
  have X3 : ExtX (· = w.heap.size) w2 (w3s w2 w.heap.size (some ⟨b, o, none⟩) n c i2 bad2) := w3s_x
  unfold w3s at HX2 X3
  have HB := hid HX1.out.t.lt
  clear p0 p1 p2 f0 f1 f2 l0 m0 m1 m2 k0 k1 k2 ll0 x2
  generalize ((w2.setCell ⟨w.heap.size, 0, none⟩ (.slice (some ⟨b, o, none⟩) n c)).setCell ⟨w.heap.size, 1, none⟩ (.int .i64 (i2 : Nat))).setCell ⟨w.heap.size, 2, none⟩ (.bool bad2) = W2 at *
  have HS2 := hid hs3
  have HO3 := hid ho3
  have HF3 := hid hf3
  have HX23 := hid X3
  have HB7 := hid HX1.out.lt7
  clear hs3 ho3 hf3 h13 X3 KP HS1 ho3b
  have H4 : XS5 (some ⟨b, o, none⟩) n c w (b6 + 1) i2 bad2 ⟨14, 0, tk.pos, 0, ⟨#[]⟩, ⟨#[]⟩, ⟨#[]⟩⟩ ((W2.setCell ⟨b6 + 1, 0, none⟩ (.int .u8 14)).setCell ⟨b6 + 1, 2, none⟩ (.int .i64 tk.pos)) := (HX2.out.kind 14).pos tk.pos
  have X24 : ExtX (fun q => q = w.heap.size ∨ q = b6 + 1) w2 ((W2.setCell ⟨b6 + 1, 0, none⟩ (.int .u8 14)).setCell ⟨b6 + 1, 2, none⟩ (.int .i64 tk.pos)) := ((HX23.out.mono fun _ e => .inl e).setCell (p := ⟨b6 + 1, 0, none⟩) (.inl (.inr rfl)) _).setCell (p := ⟨b6 + 1, 2, none⟩) (.inl (.inr rfl)) _
  have HEQ : Hid (EQ5 L (some ⟨b, o, none⟩) n c w r (b6 + 1) i2 bad2 ⟨14, 0, tk.pos, 0, ⟨#[]⟩, ⟨#[]⟩, ⟨#[]⟩⟩ ak 3 ck _) := hid (H4.fin (HS2.out.cast (fun l e => HER2.out l e) (fun ts l e => by obtain ⟨-, e2⟩ := HOK2.out ts l e; exact ⟨_, e2⟩)) (fun t l e => by
    cases r' with
    | error l2 => rw [HER2.out l2 rfl] at e; cases e
    | ok p =>
      obtain ⟨ts, l2⟩ := p
      obtain ⟨⟨l1, e1⟩, e2⟩ := HOK2.out ts l2 rfl
      rw [e2] at e
      cases e
      obtain ⟨ak', ck', ev, k1, k2, k3⟩ := XS5.kids (w := w) (g7 := b6 + 1) (fun q e => by rcases e with e | e; exact .inl e; exact .inr (.inl e)) (by have := HB.out; have := HB7.out; omega) (by have := HB.out; omega) X24 HO3.out (HF3.out ts l rfl) (by have h := partsF_len _ _ _ _ _ (HP'.out () _ e1); simp at h; omega)
      cases ev
      exact ⟨rfl, fits5 (by omega) (by omega) ⟨HTF.out.p0, HTF.out.p1⟩ (by decide) (by decide) (by decide), k1, k2, k3⟩))
  obtain ⟨z0, z1, z2, z3, z4, z5, z6, z7⟩ := HX2.out.t.eight
  obtain ⟨g0, g1, g2, g3, g4, g5, g6, g7⟩ := HX2.out.t.frozen8
  have lz := HX2.out.t.lt
  go_upto_region 41 with fail
  clear z0 z1 z2 z3 z4 z5 z6 z7 g0 g1 g2 g3 g4 g5 g6 g7 lz H4 X24
  generalize ((W2.setCell ⟨b6 + 1, 0, none⟩ (.int .u8 14)).setCell ⟨b6 + 1, 2, none⟩ (.int .i64 tk.pos)).setCell ⟨b6 + 1, 7, none⟩ (.slice ak 3 ck) = WX at *
  generalize b6 + 1 = g at *
  clear HX2 HX23 HF3 HO3 HS2 HX1
  obtain ⟨p0, p1, p2, f0, f1, f2, l0⟩ := SBlk.open_ HEQ.out.s
  obtain ⟨c0, c1, c2, c3, c4, c5, c6, c7⟩ := HEQ.out.t.eight
  obtain ⟨z0, z1, z2, z3, z4, z5, z6, z7⟩ := HEQ.out.z2.eight
  obtain ⟨g0, g1, g2, g3, g4, g5, g6, g7⟩ := HEQ.out.z2.frozen8
  have v0 := HEQ.out.z1.cell 0
  have v1 := HEQ.out.z1.cell 1
  have v2 := HEQ.out.z1.cell 2
  simp at v0 v1 v2
  have v3 := HEQ.out.z1.frozen 0
  have v4 := HEQ.out.z1.frozen 1
  have v5 := HEQ.out.z1.frozen 2
  have lv := HEQ.out.z1.lt
  have lz := HEQ.out.z2.lt
  have hl7 := HEQ.out.lt7
  have ne1 : w.heap.size + 1 ≠ w.heap.size + 1 + 1 := by omega
  have ne2 : w.heap.size + 1 + 1 ≠ w.heap.size + 1 := by omega
  have ns0 := fun W (h : ExtX (fun b => b = w.heap.size + 1 ∨ b = w.heap.size + 1 + 1) WX W) => h.cell (p := ⟨w.heap.size, 0, none⟩) (show ¬ (w.heap.size = w.heap.size + 1 ∨ w.heap.size = w.heap.size + 1 + 1) by omega) p0
  have ns1 := fun W (h : ExtX (fun b => b = w.heap.size + 1 ∨ b = w.heap.size + 1 + 1) WX W) => h.cell (p := ⟨w.heap.size, 1, none⟩) (show ¬ (w.heap.size = w.heap.size + 1 ∨ w.heap.size = w.heap.size + 1 + 1) by omega) p1
  have ns2 := fun W (h : ExtX (fun b => b = w.heap.size + 1 ∨ b = w.heap.size + 1 + 1) WX W) => h.cell (p := ⟨w.heap.size, 2, none⟩) (show ¬ (w.heap.size = w.heap.size + 1 ∨ w.heap.size = w.heap.size + 1 + 1) by omega) p2
  have nc0 := fun W (h : ExtX (fun b => b = w.heap.size + 1 ∨ b = w.heap.size + 1 + 1) WX W) => h.cell (p := ⟨g, 0, none⟩) (show ¬ (g = w.heap.size + 1 ∨ g = w.heap.size + 1 + 1) by omega) c0
  have nc1 := fun W (h : ExtX (fun b => b = w.heap.size + 1 ∨ b = w.heap.size + 1 + 1) WX W) => h.cell (p := ⟨g, 1, none⟩) (show ¬ (g = w.heap.size + 1 ∨ g = w.heap.size + 1 + 1) by omega) c1
  have nc2 := fun W (h : ExtX (fun b => b = w.heap.size + 1 ∨ b = w.heap.size + 1 + 1) WX W) => h.cell (p := ⟨g, 2, none⟩) (show ¬ (g = w.heap.size + 1 ∨ g = w.heap.size + 1 + 1) by omega) c2
  have nc3 := fun W (h : ExtX (fun b => b = w.heap.size + 1 ∨ b = w.heap.size + 1 + 1) WX W) => h.cell (p := ⟨g, 3, none⟩) (show ¬ (g = w.heap.size + 1 ∨ g = w.heap.size + 1 + 1) by omega) c3
  have nc4 := fun W (h : ExtX (fun b => b = w.heap.size + 1 ∨ b = w.heap.size + 1 + 1) WX W) => h.cell (p := ⟨g, 4, none⟩) (show ¬ (g = w.heap.size + 1 ∨ g = w.heap.size + 1 + 1) by omega) c4
  have nc5 := fun W (h : ExtX (fun b => b = w.heap.size + 1 ∨ b = w.heap.size + 1 + 1) WX W) => h.cell (p := ⟨g, 5, none⟩) (show ¬ (g = w.heap.size + 1 ∨ g = w.heap.size + 1 + 1) by omega) c5
  have nc6 := fun W (h : ExtX (fun b => b = w.heap.size + 1 ∨ b = w.heap.size + 1 + 1) WX W) => h.cell (p := ⟨g, 6, none⟩) (show ¬ (g = w.heap.size + 1 ∨ g = w.heap.size + 1 + 1) by omega) c6
  have nc7 := fun W (h : ExtX (fun b => b = w.heap.size + 1 ∨ b = w.heap.size + 1 + 1) WX W) => h.cell (p := ⟨g, 7, none⟩) (show ¬ (g = w.heap.size + 1 ∨ g = w.heap.size + 1 + 1) by omega) c7
  refine wp_region_held_drew (S := fun w' => ExtX (fun b => b = w.heap.size + 1 ∨ b = w.heap.size + 1 + 1) WX w') (by kernel_rfl) (by (try dsimp only); (exact xX)) (fun hHeld => ?_)
  refine tL 0 ?_;try simp only [Act.put,pA,pB,pC]
  refine tL 1 ?_;try simp only [Act.put,pA,pB,pC]
  refine dK 2 fun K hK => ?_; go_simp; refine hK.out _ _ (by (try dsimp only); (exact xX)) (fun hHeld => ?_); clear hK K; try simp only [Act.put,pA,pB,pC]
  refine dK 3 fun K hK => ?_; go_simp; refine hK.out _ _ (by (try dsimp only); (exact xX)) (fun hHeld => ?_); clear hK K; try simp only [Act.put,pA,pB,pC]
  refine wpAnyH_done (by kernel_rfl) ?_ _
  repeat (first | go_values | go_skip | go_guarded | go_step | go_upon)
  obtain ⟨hs, ht, hx9⟩ := HEQ.out.out1
  obtain ⟨r0, r1, r2, -⟩ := SBlk.open_ (show SBlk _ _ (some ⟨b, o, none⟩) n c i2 bad2 from Blk.drew hs)
  obtain ⟨r3, r4, r5, r6, r7, r8, r9, ra⟩ := ht.drew.eight
  have hx8 := hx9.drew
  unfold w8s w3s at r0 r1 r2 r3 r4 r5 r6 r7 r8 r9 ra
  exact bodyPost_ret (v := .tuple #[.agg #[.slice (some ⟨b, o, none⟩) n c, .int .i64 (i2 : Nat), .bool bad2], .agg #[.int .u8 14, .int .u8 0, .int .i64 tk.pos, .int .i64 0, .string ⟨#[]⟩, .string ⟨#[]⟩, .string ⟨#[]⟩, .slice ak 3 ck]]) (by simp [results, Tryz.results44, go_sem, r0, r1, r2, r3, r4, r5, r6, r7, r8, r9, ra]) rfl (HEQ.out.ret _ hx8)
end Go.Proofs.YtaioeailgknfjaaGreatDoor

/- The walks of package unify: maps.Clone, Join. -/
import Derived.Test.YtkjjbackkipfdaaUnify6
import Derived.Shelf.SlMaps.Clone
namespace Go.Proofs.Ytkjjbackkipfdaa
open Go Go.RowKit Go.Sort
variable {A : Nat → Prop}

set_option maxRecDepth 8000 in
set_option maxHeartbeats 2000000 in
/-- A book's map is laid anew, as it is. -/
theorem maps_clone (w : World) (b : Nat) (es : Array MapEntry) (clock : Nat) (hb : w.heap[b]? = some (.map es clock)) :
    Calls Try.prog 31 #[.map (some b)] w fun e w' => e = .returned (.map (some w.heap.size)) ∧ w' = w.alloc (.map es clock) := by
  have hq := fun w => run_eql_map_nil_sl (P := Try.prog) w 56 _ _ (some b) Try.underlying56
  go_enter Try.func31, Try.ntmps31
  go_wp2_with fail

  rw [run_callFunc_extern Try.func43 (by kernel_rfl) (by kernel_rfl) (by kernel_rfl) (e := Extern.MapsClone.clone) (by kernel_rfl), run_maps_clone_sl w 56 hb]
  simp only [Result.andThen]
  rw [Oper.upon_value]
  go_wp2_with fail
  rw [run_typeAssert_map_sl _ 56 _ _ _ _ Try.underlying56]
  simp only [Result.andThen]
  rw [Oper.upon_value]
  go_wp2_with fail
  go_ret
  exact ⟨rfl, rfl⟩
/-- A map laid anew holds the same. -/
theorem MapAtA.clone {P : Program} {k : TypeId} {w : World} {b n : Nat} {S : St} (h : MapAtA A P k w b n S) {es : Array MapEntry} {ck : Nat} (hb : w.heap[b]? = some (.map es ck)) : MapAtA A P k (w.alloc (.map es ck)) w.heap.size n S := by
  obtain ⟨⟨D, ⟨es', ck', hb', F, hs, hD⟩, hE⟩, hd⟩ := h
  rw [hb] at hb'
  injection hb' with hb'
  injection hb' with e1 e2
  subst e1 e2
  exact ⟨⟨D, ⟨es, ck, heap_alloc_new w _, F, hs, hD⟩, fun x => ⟨(hE x).1, fun t e => by
    obtain ⟨g1, v, g2, g3⟩ := (hE x).2 t e
    exact ⟨g1, v, g2, g3.ext ((Ext.refl _).alloc _)⟩⟩⟩, hd⟩
/-- A book has another map. -/
theorem BookAtA.other {w : World} {bb mb mc n : Nat} {S S' : St} (h : BookAtA A w bb mb n S) (hM : MapAtA A Try.prog 3 w mc n S') : BookAtA A (w.setCell ⟨bb, 1, none⟩ (.map (some mc))) bb mc n S' := by
  have hx : ExtX (fun j => j = bb) w (w.setCell ⟨bb, 1, none⟩ (.map (some mc))) := ExtX.setCell (A := fun j => j = bb) (ExtX.refl w) (p := ⟨bb, 1, none⟩) (.inl rfl) _
  obtain ⟨es, ck, hc⟩ := hM.block
  have hne : mc ≠ bb := by
    rintro rfl
    have := h.blk
    unfold Blk at this
    rw [hc] at this
    cases this
  refine ⟨?_, hM.move (hx.block mc hM.lt hne) fun t v ht => h.keep (hx.monoU fun b e => .inl e) ht, h.small⟩
  have := h.blk.set_ 1 (.map (some mc))
  simpa using this
/-- What Join does. -/
def RetJoin (A : Nat → Prop) (n bb mb : Nat) (S : St) (l : List Ty) (w : World) (e : Ending) (w' : World) : Prop := ∃ S' b mb', e = .returned (.bool b) ∧ JoinP n S l S' b ∧ BookAtA A w' bb mb' n S' ∧ (mb' = mb ∨ w.heap.size ≤ mb') ∧ ExtX (fun j => j = bb ∨ j = mb) w w'
/-- One round of the row. -/
theorem joinAll_step {J : St → Ty → Ty → Option (St × Bool)} {S S' : St} {x y : Ty} {r : Bool} {l : List Ty} {j : Nat} (hy : l[j]? = some y) (h : joinAll J x S (l.drop j) = some (S', r)) :
    ∃ S1 r1, J S x y = some (S1, r1) ∧ (r1 = true → joinAll J x S1 (l.drop (j + 1)) = some (S', r)) ∧ (r1 = false → S' = S1 ∧ r = false) := by
  obtain ⟨h1, e1⟩ := List.getElem?_eq_some_iff.1 hy
  rw [List.drop_eq_getElem_cons h1, e1] at h
  simp only [joinAll] at h
  cases hj : J S x y with
  | none => rw [hj] at h; cases h
  | some q =>
    obtain ⟨S1, r1⟩ := q
    rw [hj] at h
    simp only [Option.bind_some] at h
    refine ⟨S1, r1, rfl, fun e => ?_, fun e => ?_⟩
    · subst e; simpa using h
    · subst e
      simp at h
      exact ⟨h.1.symm, h.2⟩
set_option maxRecDepth 8000 in
set_option maxHeartbeats 8000000 in
theorem book_Join {w : World} {bb mb n : Nat} {S : St} (hB : BookAtA A w bb mb n S) (g : Good n S) (l : List Ty) (a : Option Addr) (len cap : Nat) (h1 : len ≤ cap) (h2 : cap ≤ 9223372036854775807) (hl : IsTysA A w l a len) :
    Calls Try.prog 17 #[.pointer (some ⟨bb, 0, none⟩), .slice a len cap] w (RetJoin A n bb mb S l w) := by
  have KK := Lib.hid (book_knows (.pointer (some ⟨bb, 0, none⟩)) n l w a len cap h1 h2 hl.any hB.vars)
  have HB := Lib.hid hB
  have HG := Lib.hid g
  have HL := Lib.hid hl
  have hll := hl.length
  have hbb := hB.blk.lt
  cases hk : knows n l with
  | false =>
    have HN := Lib.hid (JoinP.unknown g hk)
    rw [hk] at KK
    clear hB g hl hk hll
    go_enter Try.func17, Try.ntmps17
    go_wp2_with (go_at_call 29; refine (KK.out).mono ?_; rintro e w1 ⟨rfl, x1⟩)
    go_ret
    exact ⟨S, false, mb, rfl, HN.out, HB.out.ext x1, .inl rfl, ExtX.of x1⟩
  | true =>
    rw [hk] at KK
    have KC := Lib.hid fun (W : World) (h : Ext w W) => show ∃ es ck, W.heap[mb]? = some (.map es ck) ∧ Calls Try.prog 31 #[.map (some mb)] W (fun e w' => e = .returned (.map (some W.heap.size)) ∧ w' = W.alloc (.map es ck)) from by
      obtain ⟨es, ck, hb⟩ := (HB.out.ext h).map.block
      exact ⟨es, ck, hb, maps_clone W mb es ck hb⟩
    cases l with
    | nil =>
      obtain rfl : len = 0 := by simpa using hll
      have HN := Lib.hid (JoinP.nil g)
      have c1 := fun W (h : Ext w W) => h.cell hB.c1
      clear hB g hl hk hll
      go_enter Try.func17, Try.ntmps17
      go_upto_region 5 with (go_at_call 29; refine (KK.out).mono ?_; rintro e w1 ⟨rfl, x1⟩; have c1 := c1 w1 x1)
      go_upto_region 6 with (obtain ⟨es, ck, hb, KM⟩ := KC.out w1 x1; go_at_call 31; refine KM.mono ?_; rintro e w2 ⟨rfl, rfl⟩)
      go_wp2_with fail
      go_loopg [6] 0 (fun g i wr => i = .int .i64 1 ∧ Ext w wr)
      case atStart => exact ⟨rfl, x1.alloc _⟩
      case round =>
        obtain ⟨rfl, hx⟩ := hrel
        go_wp2_with fail
        go_ret
        exact ⟨S, true, mb, rfl, HN.out, HB.out.ext hx, .inl rfl, ExtX.of hx⟩
    | cons x l =>
      have hfs := (knows_iff n _).1 hk
      obtain ⟨f, ⟨SF, r⟩, hJ⟩ := joinAll_some (hfs x (by simp)) l S g fun t ht => hfs t (by simp [ht])
      have HJ := Lib.hid hJ
      have HFS := Lib.hid hfs
      have HOK : Hid (r = true → JoinP n S (x :: l) SF true) := Lib.hid fun e => by subst e; exact JoinP.of g hk hJ
      have HNO : Hid (r = false → JoinP n S (x :: l) S false) := Lib.hid fun e => by subst e; exact JoinP.fails g hk hJ
      have c1 := fun W (h : Ext w W) => h.cell hB.c1
      have hne := hB.ne
      have HLL := Lib.hid hll
      clear hB g hl hk hJ hfs hll
      go_enter Try.func17, Try.ntmps17
      go_upto_region 5 with (go_at_call 29; refine (KK.out).mono ?_; rintro e w1 ⟨rfl, x1⟩; have c1 := c1 w1 x1)
      go_upto_region 6 with (obtain ⟨es, ck, hb, KM⟩ := KC.out w1 x1; go_at_call 31; refine KM.mono ?_; rintro e w2 ⟨rfl, rfl⟩)
      go_wp2_with fail
      have HMC := Lib.hid ((HB.out.ext x1).map.clone hb)
      have HB1 := Lib.hid ((HB.out.ext x1).ext ((Ext.refl _).alloc (.map es ck)))
      have X1 := Lib.hid (x1.alloc (.map es ck))
      have hmc : w.heap.size ≤ w1.heap.size := x1.size
      have hm1 := HB.out.map.lt
      have HMB := Lib.hid hb
      obtain ⟨mc, hmc0⟩ : ∃ mc, mc = w1.heap.size := ⟨_, rfl⟩
      obtain ⟨W1, hW1⟩ : ∃ W1, W1 = w1.alloc (.map es ck) := ⟨_, rfl⟩
      rw [← hmc0] at HMC hmc
      rw [← hW1] at HMC HB1 X1
      have hbW : Hid (W1.heap[mb]? = some (.map es ck)) := Lib.hid (by rw [hW1]; exact (Below.heap_alloc w1 _ mb (by omega)).trans hb)
      have hmcW := HMC.out.lt
      rw [← hmc0, ← hW1]
      have hnmc : ¬ mc = mb := by omega
      have hbc : ¬ bb = mc := by omega
      clear hW1 hmc0 c1 hb HMB KC KK x1
      go_loopg [6] (len - 1) (fun g i wr => ∃ (j : Nat) (Sj : St), g = len - j ∧ i = .int .i64 j ∧ 1 ≤ j ∧ j ≤ len ∧ BookAtA A wr bb mb n Sj ∧ Good n Sj ∧ ExtX (fun b => b = mb) W1 wr ∧ joinAll (joinF f) x Sj (l.drop (j - 1)) = some (SF, r))
      case atStart => exact ⟨1, S, by omega, rfl, by omega, by have hll := HLL.out; simp at hll; omega, HB1.out, HG.out, ExtX.refl _, HJ.out⟩
      case round =>
        obtain ⟨j, Sj, rfl, rfl, hj1, hj, hBj, hGj, hxj, hJj⟩ := hrel
        have HBJ := Lib.hid hBj
        have HXJ := Lib.hid hxj
        by_cases hlt : j < len
        · obtain ⟨u, ub, uo, p0, p1, p2, gu, rfl, q0, q1, q2, qt⟩ := HL.out.at3 (Ext.refl w) (show 0 < len by omega)
          obtain rfl : x = u := by simpa using gu
          obtain ⟨v, vb, vo, s0, s1, s2, gv, ev, t0, t1, t2, tt⟩ := HL.out.at3 (Ext.refl w) hlt
          injection ev with ev
          injection ev with e1 e2
          subst e1 e2
          have gv' : l[j - 1]? = some v := by
            obtain ⟨i, rfl⟩ : ∃ i, j = i + 1 := ⟨j - 1, by omega⟩
            simpa using gv
          have hxw : ExtX (fun b => b = mb) w wr := (ExtX.of X1.out).trans hxj
          obtain ⟨S1, r1, hS1, hyes, hno⟩ := joinAll_step gv' hJj
          rw [show j - 1 + 1 = j from by omega] at hyes
          have fu := HFS.out x (by simp)
          have fv := HFS.out v (List.mem_of_getElem? gv)
          have HG1 : Hid (r1 = true → Good n S1) := Lib.hid (joinF_ok n f Sj x v S1 r1 hGj fu fv hS1).good
          have HYES := Lib.hid hyes
          have HNO' := Lib.hid hno
          obtain ⟨uk, um, ul⟩ := x
          obtain ⟨vk, vm, vs⟩ := v
          obtain ⟨xa, xl, xc, e, -, -, -, -, -, -, -⟩ := qt.open_
          simp at e
          obtain ⟨rfl, rfl, rfl⟩ := e
          obtain ⟨ya, yl, yc, e, -, -, -, -, -, -, -⟩ := tt.open_
          simp at e
          obtain ⟨rfl, rfl, rfl⟩ := e
          have hmw : ∃ es0 ck0, w.heap[mb]? = some (.map es0 ck0) := HB.out.map.block
          obtain ⟨es0, ck0, hmw⟩ := hmw
          have HMB := Lib.hid hmw
          have qt := qt.mapX HMB.out hxw
          have tt := tt.mapX HMB.out hxw
          have KJ := Lib.hid fun W (hW : Ext wr W) => book_join n bb mb f Sj S1 r1 (.mk uk um ul) (.mk vk vm vs) W xa xl xc ya yl yc (HBJ.out.ext hW) hGj fu fv (qt.ext hW) (tt.ext hW) hS1
          have KJ : Hid (∀ W, Ext wr W → Calls Try.prog 32 #[.pointer (some ⟨bb, 0, none⟩), .agg #[.int .u8 uk, .int .i64 um, .slice xa xl xc], .agg #[.int .u8 vk, .int .i64 vm, .slice ya yl yc]] W fun e w' => e = .returned (.bool r1) ∧ BookAtA A w' bb mb n S1 ∧ ExtX (fun b => b = mb) W w') := Lib.hid KJ.out
          simp only [Nat.zero_mul, Nat.add_zero] at q0 q1 q2
          have q0 := fun W' (h : ExtX (fun b => b = mb) wr W') => (hxw.trans h).cell (map_nocell HMB.out q0) q0
          have q1 := fun W' (h : ExtX (fun b => b = mb) wr W') => (hxw.trans h).cell (map_nocell HMB.out q1) q1
          have q2 := fun W' (h : ExtX (fun b => b = mb) wr W') => (hxw.trans h).cell (map_nocell HMB.out q2) q2
          have t0 := fun W' (h : ExtX (fun b => b = mb) wr W') => (hxw.trans h).cell (map_nocell HMB.out t0) t0
          have t1 := fun W' (h : ExtX (fun b => b = mb) wr W') => (hxw.trans h).cell (map_nocell HMB.out t1) t1
          have t2 := fun W' (h : ExtX (fun b => b = mb) wr W') => (hxw.trans h).cell (map_nocell HMB.out t2) t2
          clear hBj hxj hJj hyes hno hGj fu fv gu gv gv' hS1 qt tt hxw hmw HJ
          have hl0 : 0 < len := by omega
          go_upto_region 9 with fail
          refine wp_region_held_drew (S := fun w' => ExtX (fun b => b = mb) wr w') (by kernel_rfl) (by (try dsimp only); (exact xX)) (fun hHeld => ?_)
          refine tK 0 (v := ?_) ?_ ?_;rotate_left;(focus (intro w hSw;(try dsimp only at hSw);go_simp;(try with_reducible rfl)));try simp only [Act.put,pA,pB,pC]
          refine tK 1 (v := ?_) ?_ ?_;rotate_left;(focus (intro w hSw;(try dsimp only at hSw);go_simp;(try with_reducible rfl)));try simp only [Act.put,pA,pB,pC]
          refine tK 2 (v := ?_) ?_ ?_;rotate_left;(focus (intro w hSw;(try dsimp only at hSw);go_simp;(try with_reducible rfl)));try simp only [Act.put,pA,pB,pC]
          refine tK 3 (v := ?_) ?_ ?_;rotate_left;(focus (intro w hSw;(try dsimp only at hSw);go_simp;(try with_reducible rfl)));try simp only [Act.put,pA,pB,pC]
          refine tK 4 (v := ?_) ?_ ?_;rotate_left;(focus (intro w hSw;(try dsimp only at hSw);go_simp;(try with_reducible rfl)));try simp only [Act.put,pA,pB,pC]
          refine tK 5 (v := ?_) ?_ ?_;rotate_left;(focus (intro w hSw;(try dsimp only at hSw);go_simp;(try with_reducible rfl)));try simp only [Act.put,pA,pB,pC]
          refine tK 6 (v := ?_) ?_ ?_;rotate_left;(focus (intro w hSw;(try dsimp only at hSw);go_simp;(try with_reducible rfl)));try simp only [Act.put,pA,pB,pC]
          refine tK 7 (v := ?_) ?_ ?_;rotate_left;(focus (intro w hSw;(try dsimp only at hSw);go_simp;(try with_reducible rfl)));try simp only [Act.put,pA,pB,pC]
          refine held_do 8 rfl (by kernel_rfl) (by rfl) (fun K hK => ?_); go_simp; (first | (go_at_call 32; with_reducible refine (KJ.out _ (by (exact eX))).mono ?_; rintro e w5 ⟨rfl, hb5, x5⟩; have y5 : ExtX (fun b => b = mb) wr w5 := ExtX.trans (ExtX.drew (ExtX.refl wr)) x5)); (try (focus (go_wp2_with fail))); refine hK.out _ _ (by (try dsimp only); (exact xX)) (fun hHeld => ?_); clear hK K; try simp only [Act.put,pA,pB,pC]
          refine tK 9 (v := ?_) ?_ ?_;rotate_left;(focus (intro w hSw;(try dsimp only at hSw);go_simp;(try with_reducible rfl)));try simp only [Act.put,pA,pB,pC]
          refine wpAnyH_done (by kernel_rfl) ?_ _
          have HB5 := Lib.hid hb5
          have HY5 := Lib.hid y5
          have HX5 := Lib.hid (HXJ.out.trans y5)
          clear q0 q1 q2 t0 t1 t2 x5 y5 hb5 hHeld
          cases r1 with
          | true =>
            have HG2 := Lib.hid (HG1.out rfl)
            have HJ2 := Lib.hid (HYES.out rfl)
            have HLT := Lib.hid hlt
            clear HG1 HYES HNO'
            go_wp2_with fail
            go_roundg (len - (j + 1))
            case rel =>
              have hlt := HLT.out
              exact ⟨j + 1, S1, rfl, by go_num, by omega, by omega, HB5.out, HG2.out, HX5.out, HJ2.out⟩
            case measure =>
              have hlt := HLT.out
              omega
          | false =>
            obtain ⟨rfl, rfl⟩ := HNO'.out rfl
            have HN := Lib.hid (HNO.out rfl)
            have hc1 := HB5.out.blk
            have lb5 := hc1.lt
            have f51 := hc1.frozen 1
            have c51 := HB5.out.c1
            have HM5 : Hid (MapAtA A Try.prog 3 w5 mc n S) := Lib.hid (HMC.out.aside HB1.out.map HX5.out hnmc)
            have HB6 := Lib.hid (HB5.out.other HM5.out)
            clear HG1 HYES HNO' hc1
            go_wp2_with fail
            go_ret
            exact ⟨S, false, mc, rfl, HN.out, HB6.out, .inr (by omega), (((ExtX.of X1.out).trans HX5.out).monoU fun b e => .inr e).setCell (p := ⟨bb, 1, none⟩) (.inl (.inl rfl)) _⟩
        · obtain rfl : j = len := by omega
          have e1 : l.drop (j - 1) = [] := List.drop_eq_nil_of_le (by have hll := HLL.out; simp at hll; omega)
          rw [e1] at hJj
          simp only [joinAll, Option.some.injEq, Prod.mk.injEq] at hJj
          obtain ⟨rfl, rfl⟩ := hJj
          have HN := Lib.hid (HOK.out rfl)
          clear hBj hxj e1 hGj HOK HNO
          go_wp2_with fail
          go_ret
          exact ⟨Sj, true, mb, rfl, HN.out, HBJ.out, .inl rfl, ((ExtX.of X1.out).trans HXJ.out).monoU fun b e => .inr e⟩
end Go.Proofs.Ytkjjbackkipfdaa

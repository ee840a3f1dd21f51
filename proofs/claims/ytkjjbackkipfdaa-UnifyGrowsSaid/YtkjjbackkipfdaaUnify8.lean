/- The walks of package unify: sense. -/
import Derived.Test.YtkjjbackkipfdaaUnify7
import Derived.Test.YtkjjbackkipfdaaMemS
namespace Go.Proofs.Ytkjjbackkipfdaa
open Go Go.RowKit Go.Sort

/-- What hands back a type's tree as far as a bound lets it, and what is left. -/
def RetSense (w : World) (t : Ty) (left : Int) (e : Ending) (w' : World) : Prop :=
  ∃ (T : Ty) (a : Option Addr) (len cap : Nat), e = .returned (.tuple #[.agg #[.int .u8 T.kind, .int .i64 T.var, .slice a len cap], .int .i64 (t.left left)]) ∧ IsTyA (fun b => b < w.heap.size) w' T (.agg #[.int .u8 T.kind, .int .i64 T.var, .slice a len cap]) ∧ (0 ≤ t.left left → T = t) ∧ Ext w w'
theorem infoTyP : (Try.prog.info? 25).map (fun i => (i.zero, i.size, i.bytes)) = some (some (.agg #[.int .u8 0, .int .i64 0, .slice none 0 0]), 3, 40) := by kernel_rfl
theorem ty_kind (k v : Int) (l : List Ty) : (Ty.mk k v l).kind = k := rfl
theorem ty_var (k v : Int) (l : List Ty) : (Ty.mk k v l).var = v := rfl
theorem ty_kids (k v : Int) (l : List Ty) : (Ty.mk k v l).kids = l := rfl
theorem sense_end {W w : World} {k v left lf : Int} {l ts : List Ty} {va : Option Addr} {j vcap b6 b8 : Nat} (h : (Ty.mk k v l).left left = lf) (hty : IsTysA (fun b => b < b8 + 1) w ts va j) (hts : 0 ≤ lf → ts = l) (h1 : j ≤ vcap) (h2 : vcap ≤ 9223372036854775807) (h3 : 0 ≤ k) (h4 : k ≤ 255) (h5 : -9223372036854775808 ≤ v) (h6 : v ≤ 9223372036854775807) (hx : Ext W w) (hle : W.heap.size ≤ b6) (hlt : b6 < b8 ∧ W.heap.size ≤ b8) :
    RetSense W (.mk k v l) left (.returned (.tuple #[.agg #[.int .u8 k, .int .i64 v, .slice va j vcap], .int .i64 lf])) (((w.setCell ⟨b6, 0, none⟩ (.int .u8 k)).setCell ⟨b6, 1, none⟩ (.int .i64 v)).setCell ⟨b6, 2, none⟩ (.slice va j vcap)) := by
  subst h
  refine ⟨.mk k v ts, va, j, vcap, rfl, ?_, fun h => by rw [hts h], hx.lay3 hle⟩
  have hb : (fun b => b < b8 + 1) b6 := show b6 < b8 + 1 by omega
  exact IsTyA.off (A := fun b => b < b8 + 1) (fun b _ hb => by show b < b8 + 1; have hb : b < W.heap.size := hb; omega) (IsTyA.mk_ (((hty.setCell (p := ⟨b6, 0, none⟩) hb _).setCell (p := ⟨b6, 1, none⟩) hb _).setCell (p := ⟨b6, 2, none⟩) hb _) h1 h2 h3 h4 h5 h6)
set_option maxRecDepth 8000 in
set_option maxHeartbeats 8000000 in
theorem unify_sense (w0 : World) (pv : Option Addr) (σ : Int → Ty) (ok : Ty → Prop) (H : Ty → Ty)
    (hH : ∀ t, ok t → t.sub σ = .mk (H t).kind (H t).var ((H t).kids.map (Ty.sub σ)) ∧ (∀ u, u ∈ (H t).kids → ok u) ∧ (H t).kids.length ≤ 2)
    (hpv : (pv = none ∧ ∀ t, H t = t) ∨ ∃ bb, pv = some ⟨bb, 0, none⟩ ∧ ∀ B W, Ext w0 B → Ext B W → ∀ (t : Ty) (a : Option Addr) (len cap : Nat), ok t → IsTy B t (.agg #[.int .u8 t.kind, .int .i64 t.var, .slice a len cap]) → Calls Try.prog 46 #[.pointer (some ⟨bb, 0, none⟩), .agg #[.int .u8 t.kind, .int .i64 t.var, .slice a len cap]] W (RetT NoA B W (H t)))
    (m : Nat) : ∀ (t : Ty) (left : Int) (W : World) (a : Option Addr) (len cap : Nat), (t.sub σ).size ≤ m → ok t → 0 ≤ left → left ≤ 9223372036854775807 → Ext w0 W → IsTy W t (.agg #[.int .u8 t.kind, .int .i64 t.var, .slice a len cap]) →
    Calls Try.prog 33 #[.pointer pv, .agg #[.int .u8 t.kind, .int .i64 t.var, .slice a len cap], .int .i64 left] W (RetSense W (t.sub σ) left) := by
  induction m with
  | zero => intro t left W a len cap hm; have := (t.sub σ).size_pos; omega
  | succ m ih =>
    intro t left W a len cap hm hok hl0 hl1 hW ht
    obtain ⟨hsub, hkids, hk2⟩ := hH t hok
    have HIH := Lib.hid ih
    have HW := Lib.hid hW
    have HT := Lib.hid ht
    have HPV := Lib.hid hpv
    have HH := Lib.hid hH
    have BX := Lib.hid ((Blk.new W 25 #[.int .u8 t.kind, .int .i64 t.var, .slice a len cap]).alloc (.cells #[.int .u8 0, .int .i64 0, .slice none 0 0] 25))
    have BY : Hid (Blk ((W.alloc (.cells #[.int .u8 t.kind, .int .i64 t.var, .slice a len cap] 25)).alloc (.cells #[.int .u8 0, .int .i64 0, .slice none 0 0] 25)) (W.heap.size + 1) 25 #[.int .u8 0, .int .i64 0, .slice none 0 0]) := Lib.hid (by
      have h := Blk.new (W.alloc (.cells #[.int .u8 t.kind, .int .i64 t.var, .slice a len cap] 25)) 25 #[.int .u8 0, .int .i64 0, .slice none 0 0]
      rw [World.size_alloc] at h
      exact h)
    have X1 : Hid (Ext W ((W.alloc (.cells #[.int .u8 t.kind, .int .i64 t.var, .slice a len cap] 25)).alloc (.cells #[.int .u8 0, .int .i64 0, .slice none 0 0] 25))) := Lib.hid (((Ext.refl _).alloc _).alloc _)
    rw [hsub] at hm ⊢
    clear ih hW ht hpv hH hsub
    go_enter Try.func33, Try.ntmps33
    go_upto_region 1 with fail
    generalize (W.alloc (.cells #[.int .u8 t.kind, .int .i64 t.var, .slice a len cap] 25)).alloc (.cells #[.int .u8 0, .int .i64 0, .slice none 0 0] 25) = W1 at *
    obtain ⟨b4, hb4⟩ : ∃ b, b = W.heap.size := ⟨_, rfl⟩
    obtain ⟨b6, hb6⟩ : ∃ b, b = W.heap.size + 1 := ⟨_, rfl⟩
    have n46 : ¬ b4 = b6 := by omega
    have n64 : ¬ b6 = b4 := by omega
    have hle4 : W.heap.size ≤ b4 := by omega
    have hle6 : W.heap.size ≤ b6 := by omega
    rw [← hb6] at BY
    rw [← hb4] at BX
    rw [← hb6, ← hb4]
    clear hb4 hb6
    have hlt4 := BX.out.lt
    have hlt6 := BY.out.lt
    obtain ⟨p0, p1, p2⟩ := BX.out.three
    generalize hHt : H t = h at *
    obtain ⟨k, v, l⟩ := h
    have HOK := Lib.hid hok
    rcases HPV.out with ⟨rfl, hid⟩ | ⟨bb, rfl, hhd⟩
    -- no book
    rw [hid t] at hHt
    subst hHt
    simp only [ty_kind, ty_var, ty_kids] at *
    have HR0 : Hid (IsTy W (.mk k v l) (.agg #[.int .u8 k, .int .i64 v, .slice a len cap])) := Lib.hid HT.out
    have hnp : ∀ W, (binOp .neq 28 (.pointer none) (.pointer none)).run Try.prog W = .ok (.bool false) W := fun W => by kernel_rfl
    clear hok hid
    go_upto_region 3 with fail
    obtain ⟨W3, hW3⟩ : ∃ W3, W3 = W1 := ⟨_, rfl⟩
    obtain ⟨ra, hra⟩ : ∃ ra, ra = a := ⟨_, rfl⟩
    obtain ⟨rl, hrl⟩ : ∃ rl, rl = len := ⟨_, rfl⟩
    obtain ⟨rc, hrc⟩ : ∃ rc, rc = cap := ⟨_, rfl⟩
    have B4 : Hid (Blk W3 b4 25 #[.int .u8 k, .int .i64 v, .slice ra rl rc]) := Lib.hid (by rw [hW3, hra, hrl, hrc]; exact BX.out)
    have B6 : Hid (Blk W3 b6 25 #[.int .u8 0, .int .i64 0, .slice none 0 0]) := Lib.hid (by rw [hW3]; exact BY.out)
    have X3 : Hid (Ext W W3) := Lib.hid (by rw [hW3]; exact X1.out)
    have HR : Hid (IsTy W (.mk k v l) (.agg #[.int .u8 k, .int .i64 v, .slice ra rl rc])) := Lib.hid (by rw [hra, hrl, hrc]; exact HR0.out)
    rw [← hW3]
    clear hW3 hra hrl hrc HR0 p0 p1 p2 BX BY X1 hlt4 hlt6 hnp HPV HT
    rotate_left 1
    -- a book
    simp only [ty_kind, ty_var, ty_kids] at *
    have KH := Lib.hid (hhd W W1 HW.out X1.out t a len cap hok HT.out)
    rw [hHt] at KH
    have KH : Hid (Calls Try.prog 46 #[.pointer (some ⟨bb, 0, none⟩), .agg #[.int .u8 t.kind, .int .i64 t.var, .slice a len cap]] W1 fun e w' => ∃ ra rl rc, e = .returned (.agg #[.int .u8 k, .int .i64 v, .slice ra rl rc]) ∧ IsTy W (.mk k v l) (.agg #[.int .u8 k, .int .i64 v, .slice ra rl rc]) ∧ Ext W1 w') := Lib.hid KH.out
    clear hok hhd
    go_upto_region 3 with (go_at_call 46; with_reducible refine (KH.out).mono ?_; rintro e w2 ⟨ra, rl, rc, rfl, hr, x2⟩; have hb4 := BX.out.ext x2; have hb6 := BY.out.ext x2; have g40 := hb4.frozen 0; have g41 := hb4.frozen 1; have g42 := hb4.frozen 2; obtain ⟨q0, q1, q2⟩ := hb4.three; have lq4 := hb4.lt)
    have B4 : Hid (Blk (((w2.setCell ⟨b4, 0, none⟩ (.int .u8 k)).setCell ⟨b4, 1, none⟩ (.int .i64 v)).setCell ⟨b4, 2, none⟩ (.slice ra rl rc)) b4 25 #[.int .u8 k, .int .i64 v, .slice ra rl rc]) := Lib.hid hb4.lay3
    have B6 : Hid (Blk (((w2.setCell ⟨b4, 0, none⟩ (.int .u8 k)).setCell ⟨b4, 1, none⟩ (.int .i64 v)).setCell ⟨b4, 2, none⟩ (.slice ra rl rc)) b6 25 #[.int .u8 0, .int .i64 0, .slice none 0 0]) := Lib.hid (hb6.far3 n64)
    have X3 : Hid (Ext W (((w2.setCell ⟨b4, 0, none⟩ (.int .u8 k)).setCell ⟨b4, 1, none⟩ (.int .i64 v)).setCell ⟨b4, 2, none⟩ (.slice ra rl rc))) := Lib.hid ((X1.out.trans x2).lay3 hle4)
    have HR := Lib.hid hr
    clear hr x2 hb4 hb6 g40 g41 g42 q0 q1 q2 lq4 p0 p1 p2 BX BY X1 hlt4 hlt6 KH HPV HT hHt
    generalize (((w2.setCell ⟨b4, 0, none⟩ (.int .u8 k)).setCell ⟨b4, 1, none⟩ (.int .i64 v)).setCell ⟨b4, 2, none⟩ (.slice ra rl rc)) = W3 at *
    all_goals
      obtain ⟨i0, hi0, hz0, hz1', hz2'⟩ := info_parts infoTyP
      have HI := Lib.hid (And.intro hi0 (And.intro hz0 (And.intro hz1' hz2')))
      clear hi0 hz0 hz1' hz2'
      obtain ⟨_, _, _, ev, u1, u2, u3, u4, u5, u6, ul⟩ := HR.out.open_
      simp at ev
      obtain ⟨rfl, rfl, rfl⟩ := ev
      have HUL := Lib.hid ul
      have HLL := Lib.hid ul.length
      have hr2 : rl ≤ 2 := by have := ul.length; omega
      clear hk2
      have l4 := B4.out.lt
      have l6 := B6.out.lt
      obtain ⟨p0, p1, p2⟩ := B4.out.three
      clear ul
      go_upto_region 5 with fail
      have B8 := Lib.hid (Blk.new W3 25 #[.int .u8 k, .int .i64 v, .slice none 0 0])
      have B4' := Lib.hid (B4.out.alloc (.cells #[.int .u8 k, .int .i64 v, .slice none 0 0] 25))
      have B6' := Lib.hid (B6.out.alloc (.cells #[.int .u8 k, .int .i64 v, .slice none 0 0] 25))
      have X4 := Lib.hid (X3.out.alloc (.cells #[.int .u8 k, .int .i64 v, .slice none 0 0] 25))
      have hs3 : (W3.alloc (.cells #[.int .u8 k, .int .i64 v, .slice none 0 0] 25)).heap.size = W3.heap.size + 1 := by simp
      obtain ⟨b8, hb8⟩ : ∃ b, b = W3.heap.size := ⟨_, rfl⟩
      have hle8 : W.heap.size ≤ b8 := by have := X3.out.size; omega
      have h48 : b4 < b8 := by omega
      have h68 : b6 < b8 := by omega
      have n48 : ¬ b4 = b8 := by omega
      have n68 : ¬ b6 = b8 := by omega
      have n84 : ¬ b8 = b4 := by omega
      have n86 : ¬ b8 = b6 := by omega
      rw [← hb8] at B8
      rw [← hb8] at hs3
      rw [← hb8]
      clear hb8 p0 p1 p2 l4 l6 B4 B6 X3
      generalize (W3.alloc (.cells #[.int .u8 k, .int .i64 v, .slice none 0 0] 25)) = W4 at *
      obtain ⟨p0, p1, p2⟩ := B4'.out.three
      -- what is left behind so many kids
      have HSP : Hid (∀ j, -1 ≤ Ty.lefts ((l.map (Ty.sub σ)).take j) (left - 1) ∧ Ty.lefts ((l.map (Ty.sub σ)).take j) (left - 1) ≤ left - 1) := Lib.hid fun j => by
        have := Ty.lefts_spec ((l.map (Ty.sub σ)).take j) (fun t _ => Ty.left_spec t) (left - 1) (by omega)
        exact ⟨this.1, this.2.1⟩
      have hrl : rl ≤ 9223372036854775807 := by omega
      go_upto_region 6 with fail
      go_loopg [2, 27] (rl - 0) (fun g s0 ix wr => ∃ (j : Nat) (vv : Value) (xs : List Value) (ts : List Ty), g = rl - j ∧ s0 = .int .i64 (Ty.lefts ((l.map (Ty.sub σ)).take j) (left - 1)) ∧ ix = .int .i64 j ∧ j ≤ rl ∧ wr.ownsRow (b8 + 1) 25 3 vv j xs ∧ TyRow (KidT (b8 + 1) vv) wr ts xs ∧ (0 ≤ Ty.lefts ((l.map (Ty.sub σ)).take j) (left - 1) → ts = (l.map (Ty.sub σ)).take j) ∧ Blk wr b4 25 #[.int .u8 k, .int .i64 v, .slice ra rl rc] ∧ Blk wr b6 25 #[.int .u8 0, .int .i64 0, .slice none 0 0] ∧ Blk wr b8 25 #[.int .u8 k, .int .i64 v, vv] ∧ Ext W wr ∧ b8 + 1 ≤ wr.heap.size)
      case atStart => exact ⟨0, .slice none 0 0, [], [], rfl, by simp [Ty.lefts], rfl, by omega, World.ownsRow_nil _ _ _ _, rfl, fun _ => by simp, B4'.out, B6'.out, B8.out, X4.out, by omega⟩
      case round =>
        obtain ⟨j, vv, xs, ts, rfl, rfl, rfl, hj, ho, htr, hts, hb4, hb6, hb8, hx, hbs⟩ := hrel
        obtain ⟨va, vcap, rfl, hv1, hv2, htys⟩ := htr.tys ho
        have hsp := HSP.out j
        have HO := Lib.hid ho
        have HTR := Lib.hid htr
        have HTY := Lib.hid htys
        have HTS := Lib.hid hts
        have HB4 := Lib.hid hb4
        have HB6 := Lib.hid hb6
        have HB8 := Lib.hid hb8
        have HX := Lib.hid hx
        have HSTOP := Lib.hid (Ty.lefts_stop (l.map (Ty.sub σ)) (left - 1) j)
        have HTAKE := Lib.hid (Ty.lefts_take (l.map (Ty.sub σ)) (left - 1) j)
        have HALL : Hid (j = rl → (l.map (Ty.sub σ)).take j = l.map (Ty.sub σ)) := Lib.hid fun e => List.take_of_length_le (by rw [List.length_map, e, HLL.out]; exact Nat.le_refl _)
        clear htys hts ho htr
        by_cases hlt : j < rl
        · obtain ⟨u, ub, uo, c0, c1, c2, gu, rfl, q0, q1, q2, qt⟩ := HUL.out.at3 (Ext.refl W) hlt
          have GU := Lib.hid gu
          have QT := Lib.hid qt
          obtain ⟨uk, um, uks⟩ := u
          obtain ⟨xa, xl, xc, e, -, -, -, -, -, -, -⟩ := qt.open_
          simp at e
          obtain ⟨rfl, rfl, rfl⟩ := e
          have q0 := hx.cell q0
          have q1 := hx.cell q1
          have q2 := hx.cell q2
          clear gu qt
          generalize hlf : Ty.lefts ((l.map (Ty.sub σ)).take j) (left - 1) = lf at *
          have HLF := Lib.hid hlf
          obtain ⟨hsp0, hsp1⟩ := hsp
          clear hlf
          go_upto_region 8 with fail
          have B4 := Lib.hid (HB4.out.alloc (.cells #[.int .u8 uk, .int .i64 um, .slice xa xl xc] 25))
          have B6 := Lib.hid (HB6.out.alloc (.cells #[.int .u8 uk, .int .i64 um, .slice xa xl xc] 25))
          have B8 := Lib.hid (HB8.out.alloc (.cells #[.int .u8 uk, .int .i64 um, .slice xa xl xc] 25))
          have B10 := Lib.hid (Blk.new wr 25 #[.int .u8 uk, .int .i64 um, .slice xa xl xc])
          have X5 := Lib.hid ((Ext.refl wr).alloc (.cells #[.int .u8 uk, .int .i64 um, .slice xa xl xc] 25))
          generalize (wr.alloc (.cells #[.int .u8 uk, .int .i64 um, .slice xa xl xc] 25)) = W5 at *
          clear q0 q1 q2 hb4 hb6 hb8 hx p0 p1 p2
          by_cases hneg : lf < 0
          · have HLF2 : Hid ((Ty.mk k v (l.map (Ty.sub σ))).left left = lf) := Lib.hid (by rw [left_mk]; exact HSTOP.out hneg)
            obtain ⟨q0, q1, q2⟩ := B8.out.three
            obtain ⟨r0, r1, r2⟩ := B6.out.three
            have l6 := B6.out.lt
            have f60 := B6.out.frozen 0
            have f61 := B6.out.frozen 1
            have f62 := B6.out.frozen 2
            go_wp2_with fail
            have hz := (B6.out.lay3 (u0 := .int .u8 k) (u1 := .int .i64 v) (u2 := .slice va j vcap))
            obtain ⟨z0, z1, z2⟩ := hz.three
            refine bodyPost_ret (v := .tuple #[.agg #[.int .u8 k, .int .i64 v, .slice va j vcap], .int .i64 lf]) (by simp [results, Try.results33, go_sem, z0, z1, z2]) rfl ?_
            exact sense_end HLF2.out (HTY.out.ext X5.out) (fun h => by omega) hv1 hv2 u3 u4 u5 u6 (HX.out.trans X5.out) hle6 (by omega)
          · have hmem : Ty.mk uk um uks ∈ l := List.mem_of_getElem? GU.out
            have hsz : ((Ty.mk uk um uks).sub σ).size ≤ m := by
              have := Ty.size_mem (l.map (Ty.sub σ)) ((Ty.mk uk um uks).sub σ) (List.mem_map.2 ⟨_, hmem, rfl⟩)
              simp only [Ty.size] at hm
              omega
            have KI := Lib.hid fun W' (h : Ext W W') => HIH.out (.mk uk um uks) lf W' xa xl xc hsz (hkids _ hmem) (by omega) (by omega) (HW.out.trans h) (QT.out.ext h)
            have HNX : Hid (Ty.lefts ((l.map (Ty.sub σ)).take (j + 1)) (left - 1) = ((Ty.mk uk um uks).sub σ).left lf ∧ (l.map (Ty.sub σ)).take (j + 1) = (l.map (Ty.sub σ)).take j ++ [(Ty.mk uk um uks).sub σ]) := Lib.hid (by
              have hg : (l.map (Ty.sub σ))[j]? = some ((Ty.mk uk um uks).sub σ) := by rw [List.getElem?_map, GU.out]; rfl
              exact ⟨HTAKE.out _ hg (by omega), by rw [List.take_add_one, hg]; rfl⟩)
            generalize ((Ty.mk uk um uks).sub σ) = us at *
            have hspu := Ty.left_spec us lf (by omega)
            have HSPU := Lib.hid hspu
            clear hmem hsz hspu
            go_upto_region 10 with fail
            have C4 := Lib.hid (B4.out.alloc (.cells #[.int .u8 0, .int .i64 0, .slice none 0 0] 25))
            have C6 := Lib.hid (B6.out.alloc (.cells #[.int .u8 0, .int .i64 0, .slice none 0 0] 25))
            have C8 := Lib.hid (B8.out.alloc (.cells #[.int .u8 0, .int .i64 0, .slice none 0 0] 25))
            have C10 := Lib.hid (B10.out.alloc (.cells #[.int .u8 0, .int .i64 0, .slice none 0 0] 25))
            have C11 := Lib.hid (Blk.new W5 25 #[.int .u8 0, .int .i64 0, .slice none 0 0])
            have X6 := Lib.hid (X5.out.alloc (.cells #[.int .u8 0, .int .i64 0, .slice none 0 0] 25))
            have hs56 : (W5.alloc (.cells #[.int .u8 0, .int .i64 0, .slice none 0 0] 25)).heap.size = W5.heap.size + 1 := by simp
            have hs5 : wr.heap.size ≤ W5.heap.size := X5.out.size
            obtain ⟨b11, hb11⟩ : ∃ b, b = W5.heap.size := ⟨_, rfl⟩
            rw [← hb11] at C11 hs56
            rw [← hb11]
            have h811 : b8 < b11 := by omega
            have hwr : wr.heap.size ≤ b11 := by omega
            clear hb11 B4 B6 B8 B10 X5 hs5
            generalize (W5.alloc (.cells #[.int .u8 0, .int .i64 0, .slice none 0 0] 25)) = W6 at *
            have KI := Lib.hid (KI.out W6 (HX.out.trans X6.out))
            simp only [ty_kind, ty_var] at KI
            obtain ⟨q0, q1, q2⟩ := C10.out.three
            have l10 := C10.out.lt
            go_upto_region 11 with (go_at_call 33; (with_reducible refine (KI.out).mono ?_); rintro e w7 ⟨T, ta, tl, tc, rfl, hT, hTe, x7⟩; have c11 := C11.out.ext x7; have f110 := c11.frozen 0; have f111 := c11.frozen 1; have f112 := c11.frozen 2; obtain ⟨r0, r1, r2⟩ := c11.three; have l11 := c11.lt)
            have hb11 := C11.out.lt
            have X8 : Hid (Ext wr (((w7.setCell ⟨b11, 0, none⟩ (.int .u8 T.kind)).setCell ⟨b11, 1, none⟩ (.int .i64 T.var)).setCell ⟨b11, 2, none⟩ (.slice ta tl tc))) := Lib.hid ((X6.out.trans x7).lay3 hwr)
            have D4 : Hid (Blk (((w7.setCell ⟨b11, 0, none⟩ (.int .u8 T.kind)).setCell ⟨b11, 1, none⟩ (.int .i64 T.var)).setCell ⟨b11, 2, none⟩ (.slice ta tl tc)) b4 25 #[.int .u8 k, .int .i64 v, .slice (some ⟨ub, uo, none⟩) rl rc]) := Lib.hid ((C4.out.ext x7).far3 (by omega))
            have D6 : Hid (Blk (((w7.setCell ⟨b11, 0, none⟩ (.int .u8 T.kind)).setCell ⟨b11, 1, none⟩ (.int .i64 T.var)).setCell ⟨b11, 2, none⟩ (.slice ta tl tc)) b6 25 #[.int .u8 0, .int .i64 0, .slice none 0 0]) := Lib.hid ((C6.out.ext x7).far3 (by omega))
            have D8 : Hid (Blk (((w7.setCell ⟨b11, 0, none⟩ (.int .u8 T.kind)).setCell ⟨b11, 1, none⟩ (.int .i64 T.var)).setCell ⟨b11, 2, none⟩ (.slice ta tl tc)) b8 25 #[.int .u8 k, .int .i64 v, .slice va j vcap]) := Lib.hid ((C8.out.ext x7).far3 (by omega))
            have D11 : Hid (Blk (((w7.setCell ⟨b11, 0, none⟩ (.int .u8 T.kind)).setCell ⟨b11, 1, none⟩ (.int .i64 T.var)).setCell ⟨b11, 2, none⟩ (.slice ta tl tc)) b11 25 #[.int .u8 T.kind, .int .i64 T.var, .slice ta tl tc]) := Lib.hid c11.lay3
            have KT : Hid (IsTyA (fun b => b < W6.heap.size) (((w7.setCell ⟨b11, 0, none⟩ (.int .u8 T.kind)).setCell ⟨b11, 1, none⟩ (.int .i64 T.var)).setCell ⟨b11, 2, none⟩ (.slice ta tl tc)) T (.agg #[.int .u8 T.kind, .int .i64 T.var, .slice ta tl tc])) := Lib.hid (((hT.setCell (p := ⟨b11, 0, none⟩) hb11 _).setCell (p := ⟨b11, 1, none⟩) hb11 _).setCell (p := ⟨b11, 2, none⟩) hb11 _)
            have HTE := Lib.hid hTe
            clear hT hTe x7 c11 f110 f111 f112 r0 r1 r2 l11 q0 q1 q2 l10 C4 C6 C8 C10 C11 X6 KI
            generalize (((w7.setCell ⟨b11, 0, none⟩ (.int .u8 T.kind)).setCell ⟨b11, 1, none⟩ (.int .i64 T.var)).setCell ⟨b11, 2, none⟩ (.slice ta tl tc)) = W8 at *
            obtain ⟨q0, q1, q2⟩ := D8.out.three
            obtain ⟨r0, r1, r2⟩ := D11.out.three
            have l8 := D8.out.lt
            have l11 := D11.out.lt
            have HO8 := Lib.hid (owns_ext X8.out HO.out)
            have HT8 := Lib.hid (HTR.out.ext X8.out)
            have hrow := fun b hb => HO.out.lt b hb
            have HROW := Lib.hid hrow
            have h8s : wr.heap.size ≤ W8.heap.size := X8.out.size
            clear hrow
            go_upto_region 12 with (at_builtin; refine wpList_append_mine rfl (.tmp 41) (.tmp 43) 23 ?r0 (b8 + 1) 25 i0 (.agg #[.int .u8 0, .int .i64 0, .slice none 0 0]) 3 40 ?r1 ?r2 ?r3 ?r4 ?r5 ?r6 ?r7 (Value.slice va j vcap) j xs ?r8 ?r9 ⟨W8.heap.size, 0, none⟩ 1 1 [.int .u8 T.kind, .int .i64 T.var, .slice ta tl tc] ?r10 ?r11 ?r12 ?r13 ?r14 ?r15 ?r16 ?r17)
            case r0 => rfl
            case r1 => exact Try.underlying23
            case r2 => exact HI.out.1
            case r3 => exact HI.out.2.1
            case r4 => exact HI.out.2.2.1
            case r5 => exact HI.out.2.2.2
            case r6 => rfl
            case r7 => decide
            case r8 => rfl
            case r9 => exact owns_ext ((Ext.refl _).alloc _) HO8.out
            case r10 => rfl
            case r11 => rfl
            case r12 => exact list_atT W8 [.int .u8 T.kind, .int .i64 T.var, .slice ta tl tc] _
            case r13 => intro u hu; have := ty_one KT.out; simp at hu; rcases hu with rfl | rfl | rfl <;> rfl
            case r14 => unfold maxLen; omega
            case r15 => omega
            case r16 => simp; omega
            case r17 =>
              intro v9 w9 ho9 hg9 hw9
              obtain ⟨g9, cap9, rfl, -⟩ := owns_open ho9 (by omega)
              have hs8 : (W8.alloc (.cells #[.int .u8 T.kind, .int .i64 T.var, .slice ta tl tc] 25)).heap.size = W8.heap.size + 1 := by simp
              rw [← hs8] at hw9
              have E4 : Hid (Blk w9 b4 25 #[.int .u8 k, .int .i64 v, .slice (some ⟨ub, uo, none⟩) rl rc]) := Lib.hid ((hg9.block b4 (by have := D4.out.lt; simp; omega) (fun e => by have := HROW.out _ e.symm; omega)).trans (D4.out.alloc _))
              have E6 : Hid (Blk w9 b6 25 #[.int .u8 0, .int .i64 0, .slice none 0 0]) := Lib.hid ((hg9.block b6 (by have := D6.out.lt; simp; omega) (fun e => by have := HROW.out _ e.symm; omega)).trans (D6.out.alloc _))
              have E8 : Hid (Blk w9 b8 25 #[.int .u8 k, .int .i64 v, .slice va j vcap]) := Lib.hid ((hg9.block b8 (by simp; omega) (fun e => by have := HROW.out _ e.symm; omega)).trans (D8.out.alloc _))
              have Y9 : Hid (Ext W w9) := Lib.hid (ext_grown hg9 ((HX.out.trans X8.out).alloc _) (fun k hk => by have := HROW.out k hk; omega))
              have R9 : Hid (TyRow (KidT (b8 + 1) (.slice (some ⟨g9, 0, none⟩) (j + 1) cap9)) w9 (ts ++ [T]) (xs ++ [.int .u8 T.kind, .int .i64 T.var, .slice ta tl tc])) := Lib.hid ((((HT8.out.ext ((Ext.refl _).alloc _)).grown hg9 hw9)).append ((KT.out.ext ((Ext.refl _).alloc _)).grownT (fun b hb => by
                rcases hb with hb | hb
                · show b < W6.heap.size
                  omega
                · have := (HROW.out b hb).2
                  show b < W6.heap.size
                  omega) hg9 hw9))
              have HO9 := Lib.hid ho9
              have f82 := E8.out.frozen 2
              have lt8 := E8.out.lt
              obtain ⟨q0, q1, q2⟩ := E8.out.three
              have XZ : Hid (ExtX (fun b => b = b8) w9 (w9.setCell ⟨b8, 2, none⟩ (.slice (some ⟨g9, 0, none⟩) (j + 1) cap9))) := Lib.hid (ExtX.setCell (A := fun b => b = b8) (ExtX.refl w9) (p := ⟨b8, 2, none⟩) (.inl rfl) (.slice (some ⟨g9, 0, none⟩) (j + 1) cap9))
              have YZ : Hid (Ext W (w9.setCell ⟨b8, 2, none⟩ (.slice (some ⟨g9, 0, none⟩) (j + 1) cap9))) := Lib.hid (Y9.out.setCell (p := ⟨b8, 2, none⟩) hle8 (.slice (some ⟨g9, 0, none⟩) (j + 1) cap9))
              have F4 := Lib.hid (E4.out.far (p := ⟨b8, 2, none⟩) n48 (.slice (some ⟨g9, 0, none⟩) (j + 1) cap9))
              have F6 := Lib.hid (E6.out.far (p := ⟨b8, 2, none⟩) n68 (.slice (some ⟨g9, 0, none⟩) (j + 1) cap9))
              have F8 : Hid (Blk (w9.setCell ⟨b8, 2, none⟩ (.slice (some ⟨g9, 0, none⟩) (j + 1) cap9)) b8 25 #[.int .u8 k, .int .i64 v, .slice (some ⟨g9, 0, none⟩) (j + 1) cap9]) := Lib.hid (by have := E8.out.set_ 2 (.slice (some ⟨g9, 0, none⟩) (j + 1) cap9); simpa using this)
              have HTZ := Lib.hid (R9.out.extx XZ.out (fun b (e : b = b8) => .inl (by omega)))
              have HOZ := Lib.hid (owns_keepT XZ.out (fun b (e : b = b8) => by omega) HO9.out)
              have HLT := Lib.hid hlt
              have HSZ : Hid (b8 + 1 ≤ (w9.setCell ⟨b8, 2, none⟩ (.slice (some ⟨g9, 0, none⟩) (j + 1) cap9)).heap.size) := Lib.hid (by have := F8.out.lt; omega)
              have HNEG := Lib.hid hneg
              clear ho9 hg9 hw9 hs8
              go_wp2_with fail
              go_roundg (rl - (j + 1))
              case rel =>
                have hlt := HLT.out
                have hneg := HNEG.out
                refine ⟨j + 1, _, _, _, rfl, by rw [HNX.out.1], by go_num, by omega, HOZ.out, HTZ.out, fun h => ?_, F4.out, F6.out, F8.out, YZ.out, HSZ.out⟩
                rw [HNX.out.2, HTS.out (by omega), HTE.out (by rw [← HNX.out.1]; exact h)]
              case measure =>
                have hlt := HLT.out
                omega
        · obtain rfl : j = rl := by omega
          obtain ⟨q0, q1, q2⟩ := hb8.three
          obtain ⟨r0, r1, r2⟩ := hb6.three
          have l6 := hb6.lt
          have f60 := hb6.frozen 0
          have f61 := hb6.frozen 1
          have f62 := hb6.frozen 2
          have HTS2 := HTS.out
          rw [HALL.out rfl] at *
          generalize hlf : Ty.lefts (l.map (Ty.sub σ)) (left - 1) = lf at *
          have HLF : Hid ((Ty.mk k v (l.map (Ty.sub σ))).left left = lf) := Lib.hid (by rw [left_mk]; exact hlf)
          have HTS2 := Lib.hid HTS2
          clear hlf hb4 hb6 hb8 hx
          go_wp2_with fail
          have hz := (HB6.out.lay3 (u0 := .int .u8 k) (u1 := .int .i64 v) (u2 := .slice va j vcap))
          obtain ⟨z0, z1, z2⟩ := hz.three
          refine bodyPost_ret (v := .tuple #[.agg #[.int .u8 k, .int .i64 v, .slice va j vcap], .int .i64 lf]) (by simp [results, Try.results33, go_sem, z0, z1, z2]) rfl ?_
          exact sense_end HLF.out HTY.out HTS2.out hv1 hv2 u3 u4 u5 u6 (HX.out) hle6 (by omega)
end Go.Proofs.Ytkjjbackkipfdaa

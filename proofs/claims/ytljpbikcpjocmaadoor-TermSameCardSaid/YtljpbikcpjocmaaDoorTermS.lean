/- The walks of package term: bare, Same; of enclaveref04: Same. -/
import Derived.Test.YtljpbikcpjocmaaDoorTerm1
import Derived.Test.YtljpbikcpjocmaaDoorRef04b
import Derived.Laws.StructEq
namespace Go.Proofs.YtljpbikcpjocmaaDoor
open Go Go.RowKit Go.Sort

/-- A head's value. -/
def hval (h : Hd) : Value := .agg #[.int .u8 h.k, .int .u8 h.op, .int .i64 h.pos, .int .i64 h.n, .string h.name, .string h.arg, .string h.exn]
def Hd.bare (h : Hd) : Hd := { h with pos := 0 }

set_option maxHeartbeats 1000000 in
theorem term_bare (h : Hd) (w : World) : Calls Tryd.prog 52 #[.agg #[.int .u8 h.k, .int .u8 h.op, .int .i64 h.pos, .int .i64 h.n, .string h.name, .string h.arg, .string h.exn]] w fun e w' => e = .returned (.agg #[.int .u8 h.k, .int .u8 h.op, .int .i64 0, .int .i64 h.n, .string h.name, .string h.arg, .string h.exn]) ∧ Ext w w' := by
  go_enter Tryd.func52, Tryd.ntmps52
  go_wp2_with fail
  exact bodyPost_ret (v := .agg #[.int .u8 h.k, .int .u8 h.op, .int .i64 0, .int .i64 h.n, .string h.name, .string h.arg, .string h.exn]) (by simp [results, Tryd.results52, go_sem]) rfl ⟨rfl, ((Ext.refl w).alloc _).alloc _⟩

set_option maxRecDepth 8000 in
set_option maxHeartbeats 1000000 in
theorem eq_heads (h h' : Hd) (w : World) : (Op.equalIn 10000 31 (.agg #[.int .u8 h.k, .int .u8 h.op, .int .i64 0, .int .i64 h.n, .string h.name, .string h.arg, .string h.exn]) (.agg #[.int .u8 h'.k, .int .u8 h'.op, .int .i64 0, .int .i64 h'.n, .string h'.name, .string h'.arg, .string h'.exn])).run Tryd.prog w = .ok (h.same h') w := by
  have hS : Tryd.prog.underlying 31 = some (.struct (Tryd.prog.fieldsOf 31)) := by kernel_rfl
  have hp : Tryd.prog.stoodInHeld 31 = false := by kernel_rfl
  rw [show (10000 : Nat) = 9999 + 1 from rfl, run_equalIn_struct w 9999 31 _ _ hS hp]
  simp only [Program.fieldsOf, Tryd.underlying31]
  unfold Hd.same
  cases A : (h.k == h'.k)
  · go_simp
    try simp [A]
  cases B : (h.op == h'.op)
  · go_simp
    try simp [A, B]
  cases C : (h.n == h'.n)
  · go_simp
    try simp [A, B, C]
  cases D : (h.name.toList == h'.name.toList)
  · go_simp
    try simp [A, B, C, D]
  cases E : (h.arg.toList == h'.arg.toList)
  · go_simp
    try simp [A, B, C, D, E]
  cases F : (h.exn.toList == h'.exn.toList)
  · go_simp
    try simp [A, B, C, D, E, F]
  go_simp
  try simp [A, B, C, D, E, F]

set_option maxRecDepth 8000 in
set_option maxHeartbeats 1000000 in
theorem term_equalFunc (l l' : List Tm) (w : World) (a a' : Option Addr) (len len' cap cap' : Nat) (h1 : len ≤ cap) (h2 : cap ≤ 9223372036854775807) (h1' : len' ≤ cap') (h2' : cap' ≤ 9223372036854775807) (hl : IsTms w l a len) (hl' : IsTms w l' a' len')
    (hS : ∀ W, Ext w W → ∀ t t' v v', t ∈ l → IsTm W t v → IsTm W t' v' → Calls Tryd.prog 30 #[v, v'] W fun e w' => e = .returned (.bool (t.same t')) ∧ Ext W w') :
    Calls Tryd.prog 53 #[.slice a len cap, .slice a' len' cap', .func (.func 30) #[] #[]] w fun e w' => e = .returned (.bool (Tm.sames l l')) ∧ Ext w w' := by
  have HL := Lib.hid hl.length
  have HL' := Lib.hid hl'.length
  have HS := Lib.hid hS
  clear hS
  by_cases hln : len = len'
  case neg =>
    have hb : ((len : Int) != (len' : Int)) = true := by simp; omega
    have hs := Tm.sames_len l l' (by rw [← HL.out, ← HL'.out]; exact hln)
    have HSL := Lib.hid hs
    clear hs hl hl'
    go_enter Tryd.func53, Tryd.ntmps53
    go_wp2_with fail
    go_ret
    exact ⟨ret_bool HSL.out.symm, Ext.refl _⟩
  subst hln
  go_enter Tryd.func53, Tryd.ntmps53
  go_wp2_with fail
  go_loopg [17] len (fun g i wr => ∃ j : Nat, g = len - j ∧ j ≤ len ∧ i = .int .i64 j ∧ Tm.samesTo l l' j ∧ Ext w wr)
  case atStart => exact ⟨0, by omega, by omega, rfl, fun j hj => by omega, Ext.refl _⟩
  case round =>
    obtain ⟨j, rfl, hj, rfl, hto, hx⟩ := hrel
    have HT := Lib.hid hto
    clear hto
    by_cases hlt : j < len
    · obtain ⟨x, k, b, o, ak, lenk, capk, g, rfl, hbo, hd, hq, hf, p1, p2, pl⟩ := hl.at8 hx hlt
      obtain ⟨x', k', b', o', ak', lenk', capk', g', rfl, hbo', hd', hq', hf', p1', p2', pl'⟩ := hl'.at8 hx hlt
      obtain ⟨c0, c1, c2, c3, c4, c5, c6⟩ := hd
      obtain ⟨c0', c1', c2', c3', c4', c5', c6'⟩ := hd'
      have hm := List.mem_of_getElem? g
      have G := Lib.hid g
      have G' := Lib.hid g'
      have u0 := block_lt_of_cell c0
      have u0' := block_lt_of_cell c0'
      simp at u0 u0'
      have hsame := fun W (hW : Ext wr W) => HS.out W (hx.trans hW) (.mk x k) (.mk x' k') (tval x ak lenk capk) (tval x' ak' lenk' capk') hm ((IsTmA.mk_ pl p1 p2 hf).ext hW) ((IsTmA.mk_ pl' p1' p2' hf').ext hW)
      have HM := Lib.hid hsame
      clear hsame g g' pl pl' hf hf' hm
      cases hr : (Tm.mk x k).same (.mk x' k')
      all_goals
        rw [hr] at HM
        have HR := Lib.hid hr
        clear hr
        go_wp2_with (go_at_call 30; refine (HM.out _ (((Ext.refl _).alloc _).alloc _)).mono ?_; rintro e w1 ⟨rfl, x1⟩)
      · go_ret
        exact ⟨ret_bool (Tm.sames_no l l' j _ _ G.out G'.out HR.out).symm, hx.trans ((((Ext.refl _).alloc _).alloc _).trans x1)⟩
      · go_roundg (len - (j + 1))
        case rel => exact ⟨j + 1, rfl, by omega, by go_num, Tm.samesTo_succ HT.out G.out G'.out HR.out, hx.trans ((((Ext.refl _).alloc _).alloc _).trans x1)⟩
        case measure => omega
    · obtain rfl : j = len := by omega
      go_wp2_with fail
      go_ret
      exact ⟨ret_bool (Tm.sames_yes l l' (by rw [← HL.out, ← HL'.out]) (by rw [← HL.out]; exact HT.out)).symm, hx⟩

set_option maxRecDepth 8000 in
set_option maxHeartbeats 1000000 in
theorem term_same (m : Nat) : ∀ (t t' : Tm) (w : World) (v v' : Value), t.size ≤ m → IsTm w t v → IsTm w t' v' →
    Calls Tryd.prog 30 #[v, v'] w fun e w' => e = .returned (.bool (t.same t')) ∧ Ext w w' := by
  induction m with
  | zero => intro t t' w v v' h; have := t.size_pos; omega
  | succ m ih =>
    intro t t' w v v' hm ht ht'
    obtain ⟨x, l⟩ := t
    obtain ⟨x', l'⟩ := t'
    obtain ⟨a, len, cap, rfl, h1, h2, hf, hl⟩ := ht.open_
    obtain ⟨a', len', cap', rfl, h1', h2', hf', hl'⟩ := ht'.open_
    simp only [Tm.size] at hm
    have HE := Lib.hid fun W (hW : Ext w W) => term_equalFunc l l' W a a' len len' cap cap' h1 h2 h1' h2' (hl.ext hW) (hl'.ext hW) fun W' _ t t' v v' hm' g g' => ih t t' W' v v' (by have := Tm.size_mem l t hm'; omega) g g'
    have KB := Lib.hid fun W => term_bare x W
    have KB' := Lib.hid fun W => term_bare x' W
    clear ih ht ht' hl hl' hf hf'
    go_enter Tryd.func30, Tryd.ntmps30
    go_wp2_with fail
    have x0 : Ext w ((w.alloc (.cells #[.int .u8 x.k, .int .u8 x.op, .int .i64 x.pos, .int .i64 x.n, .string x.name, .string x.arg, .string x.exn, .slice a len cap] 34)).alloc (.cells #[.int .u8 x'.k, .int .u8 x'.op, .int .i64 x'.pos, .int .i64 x'.n, .string x'.name, .string x'.arg, .string x'.exn, .slice a' len' cap'] 34)) := ((Ext.refl _).alloc _).alloc _
    have T1 := (TBlk.new w x a len cap 34).ext ((Ext.refl _).alloc (.cells #[.int .u8 x'.k, .int .u8 x'.op, .int .i64 x'.pos, .int .i64 x'.n, .string x'.name, .string x'.arg, .string x'.exn, .slice a' len' cap'] 34))
    have T2 := TBlk.new (w.alloc (.cells #[.int .u8 x.k, .int .u8 x.op, .int .i64 x.pos, .int .i64 x.n, .string x.name, .string x.arg, .string x.exn, .slice a len cap] 34)) x' a' len' cap' 34
    rw [World.size_alloc] at T2
    generalize (w.alloc (.cells #[.int .u8 x.k, .int .u8 x.op, .int .i64 x.pos, .int .i64 x.n, .string x.name, .string x.arg, .string x.exn, .slice a len cap] 34)).alloc (.cells #[.int .u8 x'.k, .int .u8 x'.op, .int .i64 x'.pos, .int .i64 x'.n, .string x'.name, .string x'.arg, .string x'.exn, .slice a' len' cap'] 34) = W0 at *
    obtain ⟨⟨c0, c1, c2, c3, c4, c5, c6⟩, c7⟩ := T1
    obtain ⟨⟨c0', c1', c2', c3', c4', c5', c6'⟩, c7'⟩ := T2
    simp only [Nat.zero_add] at c0 c1 c2 c3 c4 c5 c6 c0' c1' c2' c3' c4' c5' c6'
    have d0 := cells_regrown c0
    have d1 := cells_regrown c1
    have d2 := cells_regrown c2
    have d3 := cells_regrown c3
    have d4 := cells_regrown c4
    have d5 := cells_regrown c5
    have d6 := cells_regrown c6
    have d7 := cells_regrown c7
    have d0' := cells_regrown c0'
    have d1' := cells_regrown c1'
    have d2' := cells_regrown c2'
    have d3' := cells_regrown c3'
    have d4' := cells_regrown c4'
    have d5' := cells_regrown c5'
    have d6' := cells_regrown c6'
    have d7' := cells_regrown c7'
    have Q1 := quiet_ext (w := W0) fun w1 _ => KB.out w1
    have Q2 := quiet_ext (w := W0) fun w1 _ => KB'.out w1
    have Q3 := quiet_ext (w := W0) fun w1 h1 => HE.out w1 (x0.trans h1)
    refine wp_region_quiet_below (by kernel_rfl) (by kernel_rfl) ?_
    have hEQ := fun w => eq_heads x x' w
    cases hq : x.same x'
    all_goals
      rw [hq] at hEQ
      have HQ := Lib.hid hq
      clear hq
      repeat (go_big_quiet_step (first | with_reducible exact Q1 _ _ | with_reducible exact Q2 _ _ | with_reducible exact Q3 _ _))
      refine wpQuiet_nil ?_
      intro w1 hq_w1
      have x1 := ext_of_regrown hq_w1
      clear hq_w1
      go_wp2_with fail
      go_ret
      exact ⟨ret_bool (by simp [Tm.same, HQ.out]), x0.trans x1⟩

set_option maxRecDepth 8000 in
set_option maxHeartbeats 4000000 in
theorem ref4_same (m : Nat) : ∀ (t t' : Tm) (w : World) (v v' : Value), t.size ≤ m → IsTm w t v → IsTm w t' v' →
    Calls Tryd.prog 31 #[v, v'] w fun e w' => e = .returned (.bool (t.same t')) ∧ Ext w w' := by
  induction m with
  | zero => intro t t' w v v' h; have := t.size_pos; omega
  | succ m ih =>
    intro t t' w v v' hm ht ht'
    obtain ⟨x, l⟩ := t
    obtain ⟨x', l'⟩ := t'
    obtain ⟨a, len, cap, rfl, h1, h2, hf, hl⟩ := ht.open_
    obtain ⟨a', len', cap', rfl, h1', h2', hf', hl'⟩ := ht'.open_
    simp only [Tm.size] at hm
    have HL := Lib.hid hl.length
    have HL' := Lib.hid hl'.length
    have HSM : Hid ((Tm.mk x l).same (.mk x' l') = (x.same x' && Tm.sames l l')) := by show _ = _; rw [Tm.same]
    have HXS : Hid (x.same x' = (x.k == x'.k && (x.op == x'.op && (x.n == x'.n && (x.name.toList == x'.name.toList && (x.arg.toList == x'.arg.toList && x.exn.toList == x'.exn.toList)))))) := rfl
    have IH := Lib.hid ih
    clear ih ht ht' hf hf'
    cases A : (x.k == x'.k)
    case false =>
      have A1 : (x.k != x'.k) = true := by simp only [bne, A, Bool.not_false]
      rw [A] at HXS
      clear hl hl' IH
      go_enter Tryd.func31, Tryd.ntmps31
      go_wp2_with fail
      go_ret
      exact ⟨ret_bool (by rw [HSM.out, HXS.out]; simp), ((Ext.refl _).alloc _).alloc _⟩
    have A1 : (x.k != x'.k) = false := by simp only [bne, A, Bool.not_true]
    cases B : (x.op == x'.op)
    case false =>
      have B1 : (x.op != x'.op) = true := by simp only [bne, B, Bool.not_false]
      rw [A, B] at HXS
      clear hl hl' IH
      go_enter Tryd.func31, Tryd.ntmps31
      go_wp2_with fail
      go_ret
      exact ⟨ret_bool (by rw [HSM.out, HXS.out]; simp), ((Ext.refl _).alloc _).alloc _⟩
    have B1 : (x.op != x'.op) = false := by simp only [bne, B, Bool.not_true]
    cases C : (x.n == x'.n)
    case false =>
      have C1 : (x.n != x'.n) = true := by simp only [bne, C, Bool.not_false]
      rw [A, B, C] at HXS
      clear hl hl' IH
      go_enter Tryd.func31, Tryd.ntmps31
      go_wp2_with fail
      go_ret
      exact ⟨ret_bool (by rw [HSM.out, HXS.out]; simp), ((Ext.refl _).alloc _).alloc _⟩
    have C1 : (x.n != x'.n) = false := by simp only [bne, C, Bool.not_true]
    cases D : (x.name.toList == x'.name.toList)
    case false =>
      have D1 : (x.name.toList != x'.name.toList) = true := by simp only [bne, D, Bool.not_false]
      rw [A, B, C, D] at HXS
      clear hl hl' IH
      go_enter Tryd.func31, Tryd.ntmps31
      go_wp2_with fail
      go_ret
      exact ⟨ret_bool (by rw [HSM.out, HXS.out]; simp), ((Ext.refl _).alloc _).alloc _⟩
    have D1 : (x.name.toList != x'.name.toList) = false := by simp only [bne, D, Bool.not_true]
    cases E : (x.arg.toList == x'.arg.toList)
    case false =>
      have E1 : (x.arg.toList != x'.arg.toList) = true := by simp only [bne, E, Bool.not_false]
      rw [A, B, C, D, E] at HXS
      clear hl hl' IH
      go_enter Tryd.func31, Tryd.ntmps31
      go_wp2_with fail
      go_ret
      exact ⟨ret_bool (by rw [HSM.out, HXS.out]; simp), ((Ext.refl _).alloc _).alloc _⟩
    have E1 : (x.arg.toList != x'.arg.toList) = false := by simp only [bne, E, Bool.not_true]
    cases F : (x.exn.toList == x'.exn.toList)
    case false =>
      have F1 : (x.exn.toList != x'.exn.toList) = true := by simp only [bne, F, Bool.not_false]
      rw [A, B, C, D, E, F] at HXS
      clear hl hl' IH
      go_enter Tryd.func31, Tryd.ntmps31
      go_wp2_with fail
      go_ret
      exact ⟨ret_bool (by rw [HSM.out, HXS.out]; simp), ((Ext.refl _).alloc _).alloc _⟩
    have F1 : (x.exn.toList != x'.exn.toList) = false := by simp only [bne, F, Bool.not_true]
    rw [A, B, C, D, E, F] at HXS
    by_cases hln : len = len'
    case neg =>
      have hb : ((len : Int) != (len' : Int)) = true := by simp; omega
      have hs := Tm.sames_len l l' (by rw [← HL.out, ← HL'.out]; exact hln)
      have HSL := Lib.hid hs
      clear hs hl hl' IH
      go_enter Tryd.func31, Tryd.ntmps31
      go_wp2_with fail
      go_ret
      exact ⟨ret_bool (by rw [HSM.out, HXS.out, HSL.out]; simp), ((Ext.refl _).alloc _).alloc _⟩
    subst hln
    go_enter Tryd.func31, Tryd.ntmps31
    go_wp2_with fail
    clear A A1 B B1 C C1 D D1 E E1 F F1
    go_loopg [70] len (fun g i wr => ∃ j : Nat, g = len - j ∧ j ≤ len ∧ i = .int .i64 j ∧ Tm.samesTo l l' j ∧ Ext w wr ∧ wr.cell? ⟨w.heap.size, 7, none⟩ = some (.slice a len cap) ∧ wr.cell? ⟨w.heap.size + 1, 7, none⟩ = some (.slice a' len cap'))
    case atStart => exact ⟨0, by omega, by omega, rfl, fun j hj => by omega, ((Ext.refl _).alloc _).alloc _, by simp [go_sem], by simp [go_sem]⟩
    case round =>
      obtain ⟨j, rfl, hj, rfl, hto, hx, hc1, hc2⟩ := hrel
      have HT := Lib.hid hto
      clear hto
      by_cases hlt : j < len
      · obtain ⟨y, k, b, o, ak, lenk, capk, g, rfl, hbo, hd, hq, hfy, p1, p2, pl⟩ := hl.at8 hx hlt
        obtain ⟨y', k', b', o', ak', lenk', capk', g', rfl, hbo', hd', hq', hfy', p1', p2', pl'⟩ := hl'.at8 hx hlt
        obtain ⟨c0, c1, c2, c3, c4, c5, c6⟩ := hd
        obtain ⟨c0', c1', c2', c3', c4', c5', c6'⟩ := hd'
        have hsz := Tm.size_at l j _ g
        have G := Lib.hid g
        have G' := Lib.hid g'
        have cQ := quiet_ext (w := wr) fun w1 h1 => IH.out (.mk y k) (.mk y' k') w1 (tval y ak lenk capk) (tval y' ak' lenk' capk') (by omega) ((IsTmA.mk_ pl p1 p2 hfy).ext h1) ((IsTmA.mk_ pl' p1' p2' hfy').ext h1)
        have d0 := cells_regrown c0
        have d0' := cells_regrown c0'
        have d1 := cells_regrown c1
        have d1' := cells_regrown c1'
        have d2 := cells_regrown c2
        have d2' := cells_regrown c2'
        have d3 := cells_regrown c3
        have d3' := cells_regrown c3'
        have d4 := cells_regrown c4
        have d4' := cells_regrown c4'
        have d5 := cells_regrown c5
        have d5' := cells_regrown c5'
        have d6 := cells_regrown c6
        have d6' := cells_regrown c6'
        have d7 := cells_regrown hq
        have d7' := cells_regrown hq'
        have e7 := cells_regrown hc1
        have e7' := cells_regrown hc2
        clear g g' pl pl' hfy hfy'
        cases hr : (Tm.mk y k).same (.mk y' k')
        all_goals
          rw [hr] at cQ
          have HR := Lib.hid hr
          clear hr
          go_wp2_with fail
          refine wp_region_quiet_below (by kernel_rfl) (by kernel_rfl) ?_
          repeat (go_big_quiet_step (exact cQ _ _))
          refine wpQuiet_nil ?_
          intro w1 hq_w1
          have x1 := ext_of_regrown hq_w1
          clear hq_w1
          go_wp2_with fail
        · go_ret
          exact ⟨ret_bool (by rw [HSM.out, HXS.out, Tm.sames_no l l' j _ _ G.out G'.out HR.out]; simp), hx.trans x1⟩
        · go_roundg (len - (j + 1))
          case rel => exact ⟨j + 1, rfl, by omega, by go_num, Tm.samesTo_succ HT.out G.out G'.out HR.out, hx.trans x1, x1.cell hc1, x1.cell hc2⟩
          case measure => omega
      · obtain rfl : j = len := by omega
        go_wp2_with fail
        go_ret
        exact ⟨ret_bool (by rw [HSM.out, HXS.out, Tm.sames_yes l l' (by rw [← HL.out, ← HL'.out]) (by rw [← HL.out]; exact HT.out)]; simp), hx⟩
end Go.Proofs.YtljpbikcpjocmaaDoor

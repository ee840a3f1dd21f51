/- Part 40 of the proof: Ref4S; no condition of ours. -/
import Derived.Test.YtaioeailgknfjaaGreatDoorPkp1
import Derived.Test.YtaioeailgknfjaaGreatDoorPkp5
set_option linter.unusedVariables false
set_option linter.unusedSimpArgs false
namespace Go.Proofs.YtaioeailgknfjaaGreatDoor
open Go.Lib (hid)
open Go Go.RowKit Go.Sort
set_option maxRecDepth 8000 in
set_option maxHeartbeats 4000000 in
theorem ref4_same (m : Nat) : ∀ (t t' : Tm) (w : World) (v v' : Value), t.size ≤ m → IsTm w t v → IsTm w t' v' →
    Calls Tryz.prog 25 #[v, v'] w fun e w' => e = .returned (.bool (t.same t')) ∧ Ext w w' := by
  induction m with
  | zero => intro t t' w v v' h; have := t.size_pos; omega
  | succ m ih =>
    intro t t' w v v' hm ht ht'
    obtain ⟨x, l⟩ := t
    obtain ⟨x', l'⟩ := t'
    obtain ⟨a, len, cap, rfl, h1, h2, hf, hl⟩ := ht.open_
    obtain ⟨a', len', cap', rfl, h1', h2', hf', hl'⟩ := ht'.open_
    simp only [Tm.size] at hm
    have HL := hid hl.length
    have HL' := hid hl'.length
    have HSM : Hid ((Tm.mk x l).same (.mk x' l') = (x.same x' && Tm.sames l l')) := by show _ = _; rw [Tm.same]
    have HXS : Hid (x.same x' = (x.k == x'.k && (x.op == x'.op && (x.n == x'.n && (x.name.toList == x'.name.toList && (x.arg.toList == x'.arg.toList && x.exn.toList == x'.exn.toList)))))) := rfl
    have IH := hid ih
    clear ih ht ht' hf hf'
    cases A : (x.k == x'.k)
    case false =>
      have A1 : (x.k != x'.k) = true := by simp only [bne, A, Bool.not_false]
      rw [A] at HXS
      clear hl hl' IH
      go_enter Tryz.func25, Tryz.ntmps25
      go_wp2_with fail
      go_ret
      exact ⟨ret_bool (by rw [HSM.out, HXS.out]; simp), ((Ext.refl _).alloc _).alloc _⟩
    have A1 : (x.k != x'.k) = false := by simp only [bne, A, Bool.not_true]
    cases B : (x.op == x'.op)
    case false =>
      have B1 : (x.op != x'.op) = true := by simp only [bne, B, Bool.not_false]
      rw [A, B] at HXS
      clear hl hl' IH
      go_enter Tryz.func25, Tryz.ntmps25
      go_wp2_with fail
      go_ret
      exact ⟨ret_bool (by rw [HSM.out, HXS.out]; simp), ((Ext.refl _).alloc _).alloc _⟩
    have B1 : (x.op != x'.op) = false := by simp only [bne, B, Bool.not_true]
    cases C : (x.n == x'.n)
    case false =>
      have C1 : (x.n != x'.n) = true := by simp only [bne, C, Bool.not_false]
      rw [A, B, C] at HXS
      clear hl hl' IH
      go_enter Tryz.func25, Tryz.ntmps25
      go_wp2_with fail
      go_ret
      exact ⟨ret_bool (by rw [HSM.out, HXS.out]; simp), ((Ext.refl _).alloc _).alloc _⟩
    have C1 : (x.n != x'.n) = false := by simp only [bne, C, Bool.not_true]
    cases D : (x.name.toList == x'.name.toList)
    case false =>
      have D1 : (x.name.toList != x'.name.toList) = true := by simp only [bne, D, Bool.not_false]
      rw [A, B, C, D] at HXS
      clear hl hl' IH
      go_enter Tryz.func25, Tryz.ntmps25
      go_wp2_with fail
      go_ret
      exact ⟨ret_bool (by rw [HSM.out, HXS.out]; simp), ((Ext.refl _).alloc _).alloc _⟩
    have D1 : (x.name.toList != x'.name.toList) = false := by simp only [bne, D, Bool.not_true]
    cases E : (x.arg.toList == x'.arg.toList)
    case false =>
      have E1 : (x.arg.toList != x'.arg.toList) = true := by simp only [bne, E, Bool.not_false]
      rw [A, B, C, D, E] at HXS
      clear hl hl' IH
      go_enter Tryz.func25, Tryz.ntmps25
      go_wp2_with fail
      go_ret
      exact ⟨ret_bool (by rw [HSM.out, HXS.out]; simp), ((Ext.refl _).alloc _).alloc _⟩
    have E1 : (x.arg.toList != x'.arg.toList) = false := by simp only [bne, E, Bool.not_true]
    cases F : (x.exn.toList == x'.exn.toList)
    case false =>
      have F1 : (x.exn.toList != x'.exn.toList) = true := by simp only [bne, F, Bool.not_false]
      rw [A, B, C, D, E, F] at HXS
      clear hl hl' IH
      go_enter Tryz.func25, Tryz.ntmps25
      go_wp2_with fail
      go_ret
      exact ⟨ret_bool (by rw [HSM.out, HXS.out]; simp), ((Ext.refl _).alloc _).alloc _⟩
    have F1 : (x.exn.toList != x'.exn.toList) = false := by simp only [bne, F, Bool.not_true]
    rw [A, B, C, D, E, F] at HXS
    by_cases hln : len = len'
    case neg =>
      have hb : ((len : Int) != (len' : Int)) = true := by simp; omega
      have hs := Tm.sames_len l l' (by rw [← HL.out, ← HL'.out]; exact hln)
      have HSL := hid hs
      clear hs hl hl' IH
      go_enter Tryz.func25, Tryz.ntmps25
      go_wp2_with fail
      go_ret
      exact ⟨ret_bool (by rw [HSM.out, HXS.out, HSL.out]; simp), ((Ext.refl _).alloc _).alloc _⟩
    subst hln
    go_enter Tryz.func25, Tryz.ntmps25
    go_wp2_with fail
    clear A A1 B B1 C C1 D D1 E E1 F F1
    go_loopg [70] len (fun g i wr => ∃ j : Nat, g = len - j ∧ j ≤ len ∧ i = .int .i64 j ∧ Tm.samesTo l l' j ∧ Ext w wr ∧ wr.cell? ⟨w.heap.size, 7, none⟩ = some (.slice a len cap) ∧ wr.cell? ⟨w.heap.size + 1, 7, none⟩ = some (.slice a' len cap'))
    case atStart => exact ⟨0, by omega, by omega, rfl, fun j hj => by omega, ((Ext.refl _).alloc _).alloc _, by simp [go_sem], by simp [go_sem]⟩
    case round =>
      obtain ⟨j, rfl, hj, rfl, hto, hx, hc1, hc2⟩ := hrel
      have HT := hid hto
      clear hto
      by_cases hlt : j < len
      · obtain ⟨y, k, b, o, ak, lenk, capk, g, rfl, hbo, hd, hq, hfy, p1, p2, pl⟩ := hl.at8 hx hlt
        obtain ⟨y', k', b', o', ak', lenk', capk', g', rfl, hbo', hd', hq', hfy', p1', p2', pl'⟩ := hl'.at8 hx hlt
        obtain ⟨c0, c1, c2, c3, c4, c5, c6⟩ := hd
        obtain ⟨c0', c1', c2', c3', c4', c5', c6'⟩ := hd'
        have hsz := Tm.size_at l j _ g
        have G := hid g
        have G' := hid g'
        have cQ := quiet_ext (w := wr) fun w1 h1 => IH.out (.mk y k) (.mk y' k') w1 (tval y ak lenk capk) (tval y' ak' lenk' capk') (by omega) ((IsTmA.mk_ pl p1 p2 hfy).ext h1) ((IsTmA.mk_ pl' p1' p2' hfy').ext h1)
        have d0 := cells_regrown c0
        have d0' := cells_regrown c0'
        have d1 := cells_regrown c1
        have d1' := cells_regrown c1'
        have d2 := cells_regrown c2
        have d2' := cells_regrown c2'
        have d3 := cells_regrown c3
        have d3' := cells_regrown c3'
        have d4 := cells_regrown c4
        have d4' := cells_regrown c4'
        have d5 := cells_regrown c5
        have d5' := cells_regrown c5'
        have d6 := cells_regrown c6
        have d6' := cells_regrown c6'
        have d7 := cells_regrown hq
        have d7' := cells_regrown hq'
        have e7 := cells_regrown hc1
        have e7' := cells_regrown hc2
        clear g g' pl pl' hfy hfy'
        cases hr : (Tm.mk y k).same (.mk y' k')
        all_goals
          rw [hr] at cQ
          have HR := hid hr
          clear hr
          go_wp2_with fail
          refine wp_region_quiet_below (by kernel_rfl) (by kernel_rfl) ?_
          repeat (go_big_quiet_step (exact cQ _ _))
          refine wpQuiet_nil ?_
          intro w1 hq_w1
          have x1 := ext_of_regrown hq_w1
          clear hq_w1
          go_wp2_with fail
        · go_ret
          exact ⟨ret_bool (by rw [HSM.out, HXS.out, Tm.sames_no l l' j _ _ G.out G'.out HR.out]; simp), hx.trans x1⟩
        · go_roundg (len - (j + 1))
          case rel => exact ⟨j + 1, rfl, by omega, by go_num, Tm.samesTo_succ HT.out G.out G'.out HR.out, hx.trans x1, x1.cell hc1, x1.cell hc2⟩
          case measure => omega
      · obtain rfl : j = len := by omega
        go_wp2_with fail
        go_ret
        exact ⟨ret_bool (by rw [HSM.out, HXS.out, Tm.sames_yes l l' (by rw [← HL.out, ← HL'.out]) (by rw [← HL.out]; exact HT.out)]; simp), hx⟩
end Go.Proofs.YtaioeailgknfjaaGreatDoor

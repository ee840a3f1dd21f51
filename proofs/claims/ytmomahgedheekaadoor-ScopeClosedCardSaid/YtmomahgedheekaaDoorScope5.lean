/- The reference's walks over terms with the names that are bound: enclaveref07.free, bad, Same. -/
import Derived.Test.YtmomahgedheekaaDoorScope4
import Derived.Test.YtmomahgedheekaaDoorMemT
import Derived.Shelf.Abstract
import Derived.Deep.DeepCutAuto
import Derived.Deep.CutBlock
import Derived.Deep.LoopGhost
namespace Go.Proofs.YtmomahgedheekaaDoor
open Go Go.RowKit Go.Sort

set_option maxRecDepth 8000 in
set_option maxHeartbeats 4000000 in
theorem ref7_free (m : Nat) :
    ∀ (t : Tm) (bd out : List ByteArray) (w : World) (po p : Addr) (no co n cp : Nat) (v : Value), t.size ≤ m → bd.length + 2 * t.size ≤ 1000000 → out.length + t.size ≤ 1000000 → Nm NoA w out (some po) no co → Nm NoA w bd (some p) n cp → IsTm w t v →
    Calls Tryd.prog 66 #[.slice (some po) no co, v, .slice (some p) n cp] w (RetNms NoA (puts out (t.occ bd)) w) := by
  induction m with
  | zero => intro t bd out w po p no co n cp v h; have := t.size_pos; omega
  | succ m ih =>
    intro t bd out w po p no co n cp v hm hbd hout ho hn ht
    obtain ⟨x, l⟩ := t
    obtain ⟨a, len, cap, rfl, h1, h2, hf, hl⟩ := ht.open_
    simp only [Tm.size] at hm hbd hout
    have HL := Lib.hid hl.length
    have IH := Lib.hid ih
    obtain ⟨W0, hW0⟩ : ∃ W0, W0 = w.alloc (.cells #[.int .u8 x.k, .int .u8 x.op, .int .i64 x.pos, .int .i64 x.n, .string x.name, .string x.arg, .string x.exn, .slice a len cap] 41) := ⟨_, rfl⟩
    have x0 : Ext w W0 := by rw [hW0]; exact (Ext.refl _).alloc _
    have hs0 : w.heap.size < W0.heap.size := by rw [hW0]; simp
    have q0 : W0.cell? ⟨w.heap.size, 0, none⟩ = some (.int .u8 x.k) := by rw [hW0]; simp [go_sem]
    have q1 : W0.cell? ⟨w.heap.size, 1, none⟩ = some (.int .u8 x.op) := by rw [hW0]; simp [go_sem]
    have q2 : W0.cell? ⟨w.heap.size, 2, none⟩ = some (.int .i64 x.pos) := by rw [hW0]; simp [go_sem]
    have q3 : W0.cell? ⟨w.heap.size, 3, none⟩ = some (.int .i64 x.n) := by rw [hW0]; simp [go_sem]
    have q4 : W0.cell? ⟨w.heap.size, 4, none⟩ = some (.string x.name) := by rw [hW0]; simp [go_sem]
    have q5 : W0.cell? ⟨w.heap.size, 5, none⟩ = some (.string x.arg) := by rw [hW0]; simp [go_sem]
    have q6 : W0.cell? ⟨w.heap.size, 6, none⟩ = some (.string x.exn) := by rw [hW0]; simp [go_sem]
    have q7 : W0.cell? ⟨w.heap.size, 7, none⟩ = some (.slice a len cap) := by rw [hW0]; simp [go_sem]
    obtain ⟨hd, hhd⟩ : ∃ hd, hd = (if x.k = 2 ∧ inB bd x.name = false then [x.name] else []) := ⟨_, rfl⟩
    have hdl : hd.length ≤ 1 := by rw [hhd]; split <;> simp
    have HHD := Lib.hid hhd
    have HOC : Hid ((Tm.mk x l).occ bd = hd ++ Tm.occs x 0 l bd) := Lib.hid (by rw [hhd, Tm.occ])
    have HO := Lib.hid (ho.ext x0)
    have HN := Lib.hid (hn.ext x0)
    have HTL := Lib.hid (hl.ext x0)
    have KI := Lib.hid fun W (hx : Ext W0 W) => ref7_in x.name bd W (some p) n cp hn.le hn.max ((hn.ext (x0.trans hx)).row)
    have KP := Lib.hid fun W (hx : Ext W0 W) => ref7_put (A := NoA) out x.name W po no co (ho.ext (x0.trans hx)) (fun _ h => h.elim) (by omega)
    have HW0 := Lib.hid hW0
    clear hhd hW0 ho hn ht hl hf ih
    go_enter Tryd.func66, Tryd.ntmps66
    go_upto_region 1 with fail
    rw [← HW0.out]
    go_cut [19] (fun s wx => s = .bool (decide (x.k = 2 ∧ inB bd x.name = false)) ∧ Ext W0 wx)
    case first =>
      have HB : Hid (decide (x.k = 2 ∧ inB bd x.name = false) = ((x.k == 2) && !inB bd x.name)) := Lib.hid (by rw [Bool.eq_iff_iff]; simp)
      cases hk : (x.k == 2)
      all_goals
        rw [hk] at HB
        go_wp2_with (go_at_call 36; refine (KI.out _ (Ext.refl _)).mono ?_; rintro e w1 ⟨rfl, x1⟩)
        go_meet
        exact ⟨by rw [HB.out]; simp, by (repeat (first | exact Ext.refl _ | assumption | refine Ext.alloc ?_ _ | refine Ext.drew ?_ | refine Ext.setCell ?_ (by first | (simp; done) | (simp; omega) | omega) _ | refine Ext.trans ?_ (by assumption)))⟩
    case rest =>
    obtain ⟨rfl, xc⟩ := hcut
    have e0 := xc.cell q0
    have e1 := xc.cell q1
    have e2 := xc.cell q2
    have e3 := xc.cell q3
    have e4 := xc.cell q4
    have e5 := xc.cell q5
    have e6 := xc.cell q6
    have e7 := xc.cell q7
    by_cases hkk : x.k = 2 ∧ inB bd x.name = false
    all_goals
      have hh := HHD.out
      first
        | rw [if_pos hkk] at hh
        | rw [if_neg hkk] at hh
      first
        | rw [decide_eq_true hkk]
        | rw [decide_eq_false hkk]
      clear hkk
      go_wp2_with (go_at_call 69; refine (KP.out _ (by (repeat (first | exact Ext.refl _ | assumption | refine Ext.alloc ?_ _ | refine Ext.drew ?_ | refine Ext.setCell ?_ (by first | (simp; done) | (simp; omega) | omega) _ | refine Ext.trans ?_ (by assumption))))).mono ?_; rintro e w2 ⟨p2, n2, c2, rfl, hn2, x2⟩; have e7 := x2.cell e7; have xc2 : Ext W0 w2 := xc.trans x2)
      go_loopg [0, 28] len (fun g s i wr => ∃ (j : Nat) (pj : Addr) (nj cj : Nat), g = len - j ∧ j ≤ len ∧ s = .slice (some pj) nj cj ∧ i = .int .i64 j ∧ Nm NoA wr (puts (puts out hd) (Tm.occs x 0 (l.take j) bd)) (some pj) nj cj ∧ Ext W0 wr)
      case atStart =>
        subst hh
        first
          | exact ⟨0, _, _, _, by omega, by omega, rfl, rfl, by simpa [Tm.occs, puts_nil, puts_cons] using hn2, xc2⟩
          | exact ⟨0, _, _, _, by omega, by omega, rfl, rfl, by simpa [Tm.occs, puts_nil, puts_cons] using HO.out.ext xc, xc⟩
      case round =>
        obtain ⟨j, pj, nj, cj, rfl, hj, rfl, rfl, hnj, hx⟩ := hrel
        by_cases hlt : j < len
        · obtain ⟨y, k, b, o, ak, lenk, capk, g, rfl, hbo, hdk, hs, hf, p1, p2, pl⟩ := HTL.out.at8 hx hlt
          obtain ⟨c0, c1_, c2_, c3_, c4, c5, c6⟩ := hdk
          have d0 := fun W (h : Ext wr W) => h.cell c0
          have d1 := fun W (h : Ext wr W) => h.cell c1_
          have d2 := fun W (h : Ext wr W) => h.cell c2_
          have d3 := fun W (h : Ext wr W) => h.cell c3_
          have d4 := fun W (h : Ext wr W) => h.cell c4
          have d5 := fun W (h : Ext wr W) => h.cell c5
          have d6 := fun W (h : Ext wr W) => h.cell c6
          have d7 := fun W (h : Ext wr W) => h.cell hs
          have hsz := Tm.size_at l j _ g
          have hle := Tm.sizes_take_le l (j + 1)
          have hss := Tm.sizes_take_succ l j _ g
          have HS := Lib.hid (Tm.occs_succ x bd l 0 j _ g)
          rw [Nat.zero_add] at HS
          have hbl := bound_length x j bd
          have hol := Tm.occs_length x (l.take j) bd 0
          have hpl := puts_length (Tm.occs x 0 (l.take j) bd) (puts out hd)
          have hpl2 := puts_length hd out
          have z0 := fun W (h : Ext wr W) => h.cell (hx.cell q0)
          have z1 := fun W (h : Ext wr W) => h.cell (hx.cell q1)
          have z2 := fun W (h : Ext wr W) => h.cell (hx.cell q2)
          have z3 := fun W (h : Ext wr W) => h.cell (hx.cell q3)
          have z4 := fun W (h : Ext wr W) => h.cell (hx.cell q4)
          have z5 := fun W (h : Ext wr W) => h.cell (hx.cell q5)
          have z6 := fun W (h : Ext wr W) => h.cell (hx.cell q6)
          have z7 := fun W (h : Ext wr W) => h.cell (hx.cell q7)
          have hnr := HN.out.ext hx
          have CB := Lib.hid fun W (h : Ext wr W) => ref7_bound (A := NoA) bd j x W p n cp (some ⟨b, o, none⟩) len cap (hnr.ext h) (fun _ h => h.elim) (by omega)
          have hk1 : IsTm wr (.mk y k) (tval y ak lenk capk) := IsTmA.mk_ pl p1 p2 hf
          have CF := Lib.hid fun W pb nb cb (h : Ext wr W) (hb : Nm NoA W (bound x j bd) (some pb) nb cb) => IH.out (.mk y k) (bound x j bd) (puts (puts out hd) (Tm.occs x 0 (l.take j) bd)) W pj pb nj cj nb cb (tval y ak lenk capk) (by omega) (by omega) (by omega) (hnj.ext h) hb (hk1.ext h)
          unfold tval at CF
          clear hsz hle hss hbl hol hpl hpl2 hnj pl hk1 hnr g hf
          go_wp2_with fail
          refine wp_region_held_drew (S := fun w' => Ext wr w') (by kernel_rfl) (by (try dsimp only); (repeat (first | exact Ext.refl _ | assumption | refine Ext.alloc ?_ _ | refine Ext.drew ?_ | refine Ext.setCell ?_ (by first | (simp; done) | (simp; omega) | omega) _ | refine Ext.trans ?_ (by assumption)))) (fun hHeld => ?_)
          refine held_take 0 (v := ?_) rfl (by kernel_rfl) (by kernel_rfl) (by kernel_rfl) (fun _ _ _ h => h) (by assumption) (by rfl) ?_ ?_; rotate_left; (focus (intro w hSw; (try dsimp only at hSw); go_simp; (try with_reducible rfl))); try simp only [Act.put, List.setIfInBounds_toArray, List.set_cons_zero, List.set_cons_succ]
          refine held_take 1 (v := ?_) rfl (by kernel_rfl) (by kernel_rfl) (by kernel_rfl) (fun _ _ _ h => h) (by assumption) (by rfl) ?_ ?_; rotate_left; (focus (intro w hSw; (try dsimp only at hSw); go_simp; (try with_reducible rfl))); try simp only [Act.put, List.setIfInBounds_toArray, List.set_cons_zero, List.set_cons_succ]
          refine held_take 2 (v := ?_) rfl (by kernel_rfl) (by kernel_rfl) (by kernel_rfl) (fun _ _ _ h => h) (by assumption) (by rfl) ?_ ?_; rotate_left; (focus (intro w hSw; (try dsimp only at hSw); go_simp; (try with_reducible rfl))); try simp only [Act.put, List.setIfInBounds_toArray, List.set_cons_zero, List.set_cons_succ]
          refine held_take 3 (v := ?_) rfl (by kernel_rfl) (by kernel_rfl) (by kernel_rfl) (fun _ _ _ h => h) (by assumption) (by rfl) ?_ ?_; rotate_left; (focus (intro w hSw; (try dsimp only at hSw); go_simp; (try with_reducible rfl))); try simp only [Act.put, List.setIfInBounds_toArray, List.set_cons_zero, List.set_cons_succ]
          refine held_take 4 (v := ?_) rfl (by kernel_rfl) (by kernel_rfl) (by kernel_rfl) (fun _ _ _ h => h) (by assumption) (by rfl) ?_ ?_; rotate_left; (focus (intro w hSw; (try dsimp only at hSw); go_simp; (try with_reducible rfl))); try simp only [Act.put, List.setIfInBounds_toArray, List.set_cons_zero, List.set_cons_succ]
          refine held_take 5 (v := ?_) rfl (by kernel_rfl) (by kernel_rfl) (by kernel_rfl) (fun _ _ _ h => h) (by assumption) (by rfl) ?_ ?_; rotate_left; (focus (intro w hSw; (try dsimp only at hSw); go_simp; (try with_reducible rfl))); try simp only [Act.put, List.setIfInBounds_toArray, List.set_cons_zero, List.set_cons_succ]
          refine held_take 6 (v := ?_) rfl (by kernel_rfl) (by kernel_rfl) (by kernel_rfl) (fun _ _ _ h => h) (by assumption) (by rfl) ?_ ?_; rotate_left; (focus (intro w hSw; (try dsimp only at hSw); go_simp; (try with_reducible rfl))); try simp only [Act.put, List.setIfInBounds_toArray, List.set_cons_zero, List.set_cons_succ]
          refine held_take 7 (v := ?_) rfl (by kernel_rfl) (by kernel_rfl) (by kernel_rfl) (fun _ _ _ h => h) (by assumption) (by rfl) ?_ ?_; rotate_left; (focus (intro w hSw; (try dsimp only at hSw); go_simp; (try with_reducible rfl))); try simp only [Act.put, List.setIfInBounds_toArray, List.set_cons_zero, List.set_cons_succ]
          refine held_take 8 (v := ?_) rfl (by kernel_rfl) (by kernel_rfl) (by kernel_rfl) (fun _ _ _ h => h) (by assumption) (by rfl) ?_ ?_; rotate_left; (focus (intro w hSw; (try dsimp only at hSw); go_simp; (try with_reducible rfl))); try simp only [Act.put, List.setIfInBounds_toArray, List.set_cons_zero, List.set_cons_succ]
          refine held_do 9 rfl (by kernel_rfl) (by rfl) (fun K hK => ?_); go_simp; (first | (go_at_call 92; refine (CB.out _ (by (repeat (first | exact Ext.refl _ | assumption | refine Ext.alloc ?_ _ | refine Ext.drew ?_ | refine Ext.setCell ?_ (by first | (simp; done) | (simp; omega) | omega) _ | refine Ext.trans ?_ (by assumption))))).mono ?_; rintro e w3 ⟨p3, n3, c3, rfl, hn3, x3⟩; have HN3 := Lib.hid hn3; clear hn3; have y3 : Ext wr w3 := Ext.trans (by (repeat (first | exact Ext.refl _ | assumption | refine Ext.alloc ?_ _ | refine Ext.drew ?_ | refine Ext.setCell ?_ (by first | (simp; done) | (simp; omega) | omega) _ | refine Ext.trans ?_ (by assumption)))) x3) | (go_at_call 66; refine (CF.out _ _ _ _ y3 HN3.out).mono ?_; rintro e w4 ⟨p4, n4, c4, rfl, hn4, x4⟩; have HN4 := Lib.hid hn4; clear hn4; have y4 := y3.trans x4)); (try (focus (go_wp2_with fail))); refine hK.out _ _ (by (try dsimp only); (repeat (first | exact Ext.refl _ | assumption | refine Ext.alloc ?_ _ | refine Ext.drew ?_ | refine Ext.setCell ?_ (by first | (simp; done) | (simp; omega) | omega) _ | refine Ext.trans ?_ (by assumption)))) (fun hHeld => ?_); clear hK K; try simp only [Act.put, List.setIfInBounds_toArray, List.set_cons_zero, List.set_cons_succ]
          refine held_do 10 rfl (by kernel_rfl) (by rfl) (fun K hK => ?_); go_simp; (first | (go_at_call 92; refine (CB.out _ (by (repeat (first | exact Ext.refl _ | assumption | refine Ext.alloc ?_ _ | refine Ext.drew ?_ | refine Ext.setCell ?_ (by first | (simp; done) | (simp; omega) | omega) _ | refine Ext.trans ?_ (by assumption))))).mono ?_; rintro e w3 ⟨p3, n3, c3, rfl, hn3, x3⟩; have HN3 := Lib.hid hn3; clear hn3; have y3 : Ext wr w3 := Ext.trans (by (repeat (first | exact Ext.refl _ | assumption | refine Ext.alloc ?_ _ | refine Ext.drew ?_ | refine Ext.setCell ?_ (by first | (simp; done) | (simp; omega) | omega) _ | refine Ext.trans ?_ (by assumption)))) x3) | (go_at_call 66; refine (CF.out _ _ _ _ y3 HN3.out).mono ?_; rintro e w4 ⟨p4, n4, c4, rfl, hn4, x4⟩; have HN4 := Lib.hid hn4; clear hn4; have y4 := y3.trans x4)); (try (focus (go_wp2_with fail))); refine hK.out _ _ (by (try dsimp only); (repeat (first | exact Ext.refl _ | assumption | refine Ext.alloc ?_ _ | refine Ext.drew ?_ | refine Ext.setCell ?_ (by first | (simp; done) | (simp; omega) | omega) _ | refine Ext.trans ?_ (by assumption)))) (fun hHeld => ?_); clear hK K; try simp only [Act.put, List.setIfInBounds_toArray, List.set_cons_zero, List.set_cons_succ]
          refine held_take 11 (v := ?_) rfl (by kernel_rfl) (by kernel_rfl) (by kernel_rfl) (fun _ _ _ h => h) (by assumption) (by rfl) ?_ ?_; rotate_left; (focus (intro w hSw; (try dsimp only at hSw); go_simp; (try with_reducible rfl))); try simp only [Act.put, List.setIfInBounds_toArray, List.set_cons_zero, List.set_cons_succ]
          refine wpAnyH_done (by kernel_rfl) ?_ _
          go_wp2_with fail
          go_roundg (len - (j + 1))
          case rel => exact ⟨j + 1, _, _, _, rfl, by omega, rfl, by go_num, by rw [HS.out, puts_append]; exact HN4.out, hx.trans y4⟩
          case measure => omega
        · obtain rfl : j = len := by omega
          go_wp2_with fail
          go_ret
          refine ⟨_, _, _, rfl, ?_, x0.trans hx⟩
          rw [HOC.out, puts_append]
          rw [List.take_of_length_le (by rw [← HL.out]; omega)] at hnj
          exact hnj

/-- What enclaveref07.bad hands back. -/
def badR (o : Option Int) : Value := .tuple #[.int .i64 (o.getD 0), .bool o.isSome]
set_option maxRecDepth 8000 in
set_option maxHeartbeats 4000000 in
theorem ref7_bad (exns : List ByteArray) (m : Nat) :
    ∀ (t : Tm) (bd : List ByteArray) (w : World) (p pe : Addr) (n cp ne ce : Nat) (v : Value), t.size ≤ m → bd.length + 2 * t.size ≤ 1000000 → Nm NoA w exns (some pe) ne ce → Nm NoA w bd (some p) n cp → IsTm w t v →
    Calls Tryd.prog 61 #[v, .slice (some p) n cp, .slice (some pe) ne ce] w fun e w' => e = .returned (badR (t.bad exns bd)) ∧ Ext w w' := by
  induction m with
  | zero => intro t bd w p pe n cp ne ce v h; have := t.size_pos; omega
  | succ m ih =>
    intro t bd w p pe n cp ne ce v hm hbd hexn hn ht
    obtain ⟨x, l⟩ := t
    obtain ⟨a, len, cap, rfl, h1, h2, hf, hl⟩ := ht.open_
    simp only [Tm.size] at hm hbd
    have HL := Lib.hid hl.length
    have IH := Lib.hid ih
    obtain ⟨W0, hW0⟩ : ∃ W0, W0 = w.alloc (.cells #[.int .u8 x.k, .int .u8 x.op, .int .i64 x.pos, .int .i64 x.n, .string x.name, .string x.arg, .string x.exn, .slice a len cap] 41) := ⟨_, rfl⟩
    have x0 : Ext w W0 := by rw [hW0]; exact (Ext.refl _).alloc _
    have hs0 : w.heap.size < W0.heap.size := by rw [hW0]; simp
    have q0 : W0.cell? ⟨w.heap.size, 0, none⟩ = some (.int .u8 x.k) := by rw [hW0]; simp [go_sem]
    have q1 : W0.cell? ⟨w.heap.size, 1, none⟩ = some (.int .u8 x.op) := by rw [hW0]; simp [go_sem]
    have q2 : W0.cell? ⟨w.heap.size, 2, none⟩ = some (.int .i64 x.pos) := by rw [hW0]; simp [go_sem]
    have q3 : W0.cell? ⟨w.heap.size, 3, none⟩ = some (.int .i64 x.n) := by rw [hW0]; simp [go_sem]
    have q4 : W0.cell? ⟨w.heap.size, 4, none⟩ = some (.string x.name) := by rw [hW0]; simp [go_sem]
    have q5 : W0.cell? ⟨w.heap.size, 5, none⟩ = some (.string x.arg) := by rw [hW0]; simp [go_sem]
    have q6 : W0.cell? ⟨w.heap.size, 6, none⟩ = some (.string x.exn) := by rw [hW0]; simp [go_sem]
    have q7 : W0.cell? ⟨w.heap.size, 7, none⟩ = some (.slice a len cap) := by rw [hW0]; simp [go_sem]
    have HBD : Hid ((Tm.mk x l).bad exns bd = if badH exns bd x then some x.pos else Tm.bads exns x 0 l bd) := Lib.hid (by rw [Tm.bad])
    have HE := Lib.hid (hexn.ext x0)
    have HN := Lib.hid (hn.ext x0)
    have HTL := Lib.hid (hl.ext x0)
    have KI := Lib.hid fun W (hx : Ext W0 W) => ref7_in x.name bd W (some p) n cp hn.le hn.max ((hn.ext (x0.trans hx)).row)
    have KX := Lib.hid fun W (hx : Ext W0 W) => ref7_in x.exn exns W (some pe) ne ce hexn.le hexn.max ((hexn.ext (x0.trans hx)).row)
    have HW0 := Lib.hid hW0
    clear hW0 hexn hn ht hl hf ih
    go_enter Tryd.func61, Tryd.ntmps61
    go_upto_region 1 with fail
    rw [← HW0.out]
    go_cut [42] (fun s wx => s = .bool (badH exns bd x) ∧ Ext W0 wx)
    case first =>
      have HB : Hid (badH exns bd x = (((x.k == 2) && !inB bd x.name) || ((x.k == 15 || x.k == 16) && !inB exns x.exn))) := rfl
      generalize badH exns bd x = r at *
      cases hk : (x.k == 2)
      · rw [hk] at HB
        cases h15 : (x.k == 15)
        · cases h16 : (x.k == 16)
          all_goals
            rw [h15, h16] at HB
            go_wp2_with (go_at_call 36; refine (KX.out _ (Ext.refl _)).mono ?_; rintro e w1 ⟨rfl, x1⟩)
            go_meet
            exact ⟨by rw [HB.out]; simp, by (repeat (first | exact Ext.refl _ | assumption | refine Ext.alloc ?_ _ | refine Ext.drew ?_ | refine Ext.setCell ?_ (by first | (simp; done) | (simp; omega) | omega) _ | refine Ext.trans ?_ (by assumption)))⟩
        · rw [h15] at HB
          go_wp2_with (go_at_call 36; refine (KX.out _ (Ext.refl _)).mono ?_; rintro e w1 ⟨rfl, x1⟩)
          go_meet
          exact ⟨by rw [HB.out]; simp, by (repeat (first | exact Ext.refl _ | assumption | refine Ext.alloc ?_ _ | refine Ext.drew ?_ | refine Ext.setCell ?_ (by first | (simp; done) | (simp; omega) | omega) _ | refine Ext.trans ?_ (by assumption)))⟩
      · have h2' : x.k = 2 := by simpa using hk
        have h15 : (x.k == 15) = false := by rw [h2']; rfl
        have h16 : (x.k == 16) = false := by rw [h2']; rfl
        rw [hk, h15, h16] at HB
        clear h2'
        cases hin : inB bd x.name
        all_goals
          rw [hin] at HB KI
          go_wp2_with (go_at_call 36; refine (KI.out _ (Ext.refl _)).mono ?_; rintro e w1 ⟨rfl, x1⟩; have e0 := x1.cell q0)
          go_meet
          exact ⟨by rw [HB.out]; simp, by (repeat (first | exact Ext.refl _ | assumption | refine Ext.alloc ?_ _ | refine Ext.drew ?_ | refine Ext.setCell ?_ (by first | (simp; done) | (simp; omega) | omega) _ | refine Ext.trans ?_ (by assumption)))⟩
    case rest =>
    obtain ⟨rfl, xc⟩ := hcut
    have e0 := xc.cell q0
    have e2 := xc.cell q2
    have e7 := xc.cell q7
    cases hb : badH exns bd x
    case true =>
      rw [hb] at HBD
      simp only [if_true] at HBD
      go_wp2_with fail
      exact bodyPost_ret (v := .tuple #[.int .i64 x.pos, .bool true]) (by simp [results, Tryd.results61, go_sem]) rfl ⟨by rw [HBD.out]; rfl, x0.trans xc⟩
    case false =>
      rw [hb] at HBD
      simp only [Bool.false_eq_true, if_false] at HBD
      clear hb
      go_wp2_with fail
      go_loopg [49] len (fun g i wr => ∃ j : Nat, g = len - j ∧ j ≤ len ∧ i = .int .i64 j ∧ Tm.bads exns x 0 (l.take j) bd = none ∧ Ext W0 wr)
      case atStart => exact ⟨0, by omega, by omega, rfl, by simp [Tm.bads], xc⟩
      case round =>
        obtain ⟨j, rfl, hj, rfl, hbs, hx⟩ := hrel
        have HBS := Lib.hid hbs
        clear hbs
        by_cases hlt : j < len
        · obtain ⟨y, k, b, o, ak, lenk, capk, g, rfl, hbo, hdk, hs, hf, p1, p2, pl⟩ := HTL.out.at8 hx hlt
          obtain ⟨c0, c1_, c2_, c3_, c4, c5, c6⟩ := hdk
          have d0 := fun W (h : Ext wr W) => h.cell c0
          have d1 := fun W (h : Ext wr W) => h.cell c1_
          have d2 := fun W (h : Ext wr W) => h.cell c2_
          have d3 := fun W (h : Ext wr W) => h.cell c3_
          have d4 := fun W (h : Ext wr W) => h.cell c4
          have d5 := fun W (h : Ext wr W) => h.cell c5
          have d6 := fun W (h : Ext wr W) => h.cell c6
          have d7 := fun W (h : Ext wr W) => h.cell hs
          have hle := Tm.sizes_take_le l (j + 1)
          have hss := Tm.sizes_take_succ l j _ g
          have HS := Lib.hid (Tm.bads_at exns x bd l 0 j _ g HBS.out)
          rw [Nat.zero_add] at HS
          have HST := Lib.hid fun pos h => Tm.bads_stop exns x bd l 0 (j + 1) pos h
          have hbl := bound_length x j bd
          have z0 := fun W (h : Ext wr W) => h.cell (hx.cell q0)
          have z1 := fun W (h : Ext wr W) => h.cell (hx.cell q1)
          have z2 := fun W (h : Ext wr W) => h.cell (hx.cell q2)
          have z3 := fun W (h : Ext wr W) => h.cell (hx.cell q3)
          have z4 := fun W (h : Ext wr W) => h.cell (hx.cell q4)
          have z5 := fun W (h : Ext wr W) => h.cell (hx.cell q5)
          have z6 := fun W (h : Ext wr W) => h.cell (hx.cell q6)
          have z7 := fun W (h : Ext wr W) => h.cell (hx.cell q7)
          have hnr := HN.out.ext hx
          have her := HE.out.ext hx
          have CB := Lib.hid fun W (h : Ext wr W) => ref7_bound (A := NoA) bd j x W p n cp (some ⟨b, o, none⟩) len cap (hnr.ext h) (fun _ h => h.elim) (by omega)
          have hk1 : IsTm wr (.mk y k) (tval y ak lenk capk) := IsTmA.mk_ pl p1 p2 hf
          have CF := Lib.hid fun W pb nb cb (h : Ext wr W) (hb : Nm NoA W (bound x j bd) (some pb) nb cb) => IH.out (.mk y k) (bound x j bd) W pb pe nb cb ne ce (tval y ak lenk capk) (by omega) (by omega) (her.ext h) hb (hk1.ext h)
          unfold tval at CF
          clear hle hss hbl pl hk1 hnr her g hf
          obtain ⟨r, hr⟩ : ∃ r, (Tm.mk y k).bad exns (bound x j bd) = r := ⟨_, rfl⟩
          rw [hr] at CF HS
          clear hr
          generalize bound x j bd = bd1 at *
          cases r
          all_goals
            simp only [badR, Option.getD_none, Option.getD_some, Option.isSome_none, Option.isSome_some] at CF
            go_wp2_with fail
            refine wp_region_held_drew (S := fun w' => Ext wr w') (by kernel_rfl) (by (try dsimp only); (repeat (first | exact Ext.refl _ | assumption | refine Ext.alloc ?_ _ | refine Ext.drew ?_ | refine Ext.setCell ?_ (by first | (simp; done) | (simp; omega) | omega) _ | refine Ext.trans ?_ (by assumption)))) (fun hHeld => ?_)
            refine held_take 0 (v := ?_) rfl (by kernel_rfl) (by kernel_rfl) (by kernel_rfl) (fun _ _ _ h => h) (by assumption) (by rfl) ?_ ?_; rotate_left; (focus (intro w hSw; (try dsimp only at hSw); go_simp; (try with_reducible rfl))); try simp only [Act.put, List.setIfInBounds_toArray, List.set_cons_zero, List.set_cons_succ]
            refine held_take 1 (v := ?_) rfl (by kernel_rfl) (by kernel_rfl) (by kernel_rfl) (fun _ _ _ h => h) (by assumption) (by rfl) ?_ ?_; rotate_left; (focus (intro w hSw; (try dsimp only at hSw); go_simp; (try with_reducible rfl))); try simp only [Act.put, List.setIfInBounds_toArray, List.set_cons_zero, List.set_cons_succ]
            refine held_take 2 (v := ?_) rfl (by kernel_rfl) (by kernel_rfl) (by kernel_rfl) (fun _ _ _ h => h) (by assumption) (by rfl) ?_ ?_; rotate_left; (focus (intro w hSw; (try dsimp only at hSw); go_simp; (try with_reducible rfl))); try simp only [Act.put, List.setIfInBounds_toArray, List.set_cons_zero, List.set_cons_succ]
            refine held_take 3 (v := ?_) rfl (by kernel_rfl) (by kernel_rfl) (by kernel_rfl) (fun _ _ _ h => h) (by assumption) (by rfl) ?_ ?_; rotate_left; (focus (intro w hSw; (try dsimp only at hSw); go_simp; (try with_reducible rfl))); try simp only [Act.put, List.setIfInBounds_toArray, List.set_cons_zero, List.set_cons_succ]
            refine held_take 4 (v := ?_) rfl (by kernel_rfl) (by kernel_rfl) (by kernel_rfl) (fun _ _ _ h => h) (by assumption) (by rfl) ?_ ?_; rotate_left; (focus (intro w hSw; (try dsimp only at hSw); go_simp; (try with_reducible rfl))); try simp only [Act.put, List.setIfInBounds_toArray, List.set_cons_zero, List.set_cons_succ]
            refine held_take 5 (v := ?_) rfl (by kernel_rfl) (by kernel_rfl) (by kernel_rfl) (fun _ _ _ h => h) (by assumption) (by rfl) ?_ ?_; rotate_left; (focus (intro w hSw; (try dsimp only at hSw); go_simp; (try with_reducible rfl))); try simp only [Act.put, List.setIfInBounds_toArray, List.set_cons_zero, List.set_cons_succ]
            refine held_take 6 (v := ?_) rfl (by kernel_rfl) (by kernel_rfl) (by kernel_rfl) (fun _ _ _ h => h) (by assumption) (by rfl) ?_ ?_; rotate_left; (focus (intro w hSw; (try dsimp only at hSw); go_simp; (try with_reducible rfl))); try simp only [Act.put, List.setIfInBounds_toArray, List.set_cons_zero, List.set_cons_succ]
            refine held_take 7 (v := ?_) rfl (by kernel_rfl) (by kernel_rfl) (by kernel_rfl) (fun _ _ _ h => h) (by assumption) (by rfl) ?_ ?_; rotate_left; (focus (intro w hSw; (try dsimp only at hSw); go_simp; (try with_reducible rfl))); try simp only [Act.put, List.setIfInBounds_toArray, List.set_cons_zero, List.set_cons_succ]
            refine held_take 9 (v := ?_) rfl (by kernel_rfl) (by kernel_rfl) (by kernel_rfl) (fun _ _ _ h => h) (by assumption) (by rfl) ?_ ?_; rotate_left; (focus (intro w hSw; (try dsimp only at hSw); go_simp; (try with_reducible rfl))); try simp only [Act.put, List.setIfInBounds_toArray, List.set_cons_zero, List.set_cons_succ]
            refine held_do 8 rfl (by kernel_rfl) (by rfl) (fun K hK => ?_); go_simp; (first | (go_at_call 92; refine (CB.out _ (by (repeat (first | exact Ext.refl _ | assumption | refine Ext.alloc ?_ _ | refine Ext.drew ?_ | refine Ext.setCell ?_ (by first | (simp; done) | (simp; omega) | omega) _ | refine Ext.trans ?_ (by assumption))))).mono ?_; rintro e w3 ⟨p3, n3, c3, rfl, hn3, x3⟩; have HN3 := Lib.hid hn3; clear hn3; have y3 : Ext wr w3 := Ext.trans (by (repeat (first | exact Ext.refl _ | assumption | refine Ext.alloc ?_ _ | refine Ext.drew ?_ | refine Ext.setCell ?_ (by first | (simp; done) | (simp; omega) | omega) _ | refine Ext.trans ?_ (by assumption)))) x3) | (go_at_call 61; refine (CF.out _ _ _ _ y3 HN3.out).mono ?_; rintro e w4 ⟨rfl, x4⟩; have y4 := y3.trans x4)); (try (focus (go_wp2_with fail))); refine hK.out _ _ (by (try dsimp only); (repeat (first | exact Ext.refl _ | assumption | refine Ext.alloc ?_ _ | refine Ext.drew ?_ | refine Ext.setCell ?_ (by first | (simp; done) | (simp; omega) | omega) _ | refine Ext.trans ?_ (by assumption)))) (fun hHeld => ?_); clear hK K; try simp only [Act.put, List.setIfInBounds_toArray, List.set_cons_zero, List.set_cons_succ]
            refine held_do 10 rfl (by kernel_rfl) (by rfl) (fun K hK => ?_); go_simp; (first | (go_at_call 92; refine (CB.out _ (by (repeat (first | exact Ext.refl _ | assumption | refine Ext.alloc ?_ _ | refine Ext.drew ?_ | refine Ext.setCell ?_ (by first | (simp; done) | (simp; omega) | omega) _ | refine Ext.trans ?_ (by assumption))))).mono ?_; rintro e w3 ⟨p3, n3, c3, rfl, hn3, x3⟩; have HN3 := Lib.hid hn3; clear hn3; have y3 : Ext wr w3 := Ext.trans (by (repeat (first | exact Ext.refl _ | assumption | refine Ext.alloc ?_ _ | refine Ext.drew ?_ | refine Ext.setCell ?_ (by first | (simp; done) | (simp; omega) | omega) _ | refine Ext.trans ?_ (by assumption)))) x3) | (go_at_call 61; refine (CF.out _ _ _ _ y3 HN3.out).mono ?_; rintro e w4 ⟨rfl, x4⟩; have y4 := y3.trans x4)); (try (focus (go_wp2_with fail))); refine hK.out _ _ (by (try dsimp only); (repeat (first | exact Ext.refl _ | assumption | refine Ext.alloc ?_ _ | refine Ext.drew ?_ | refine Ext.setCell ?_ (by first | (simp; done) | (simp; omega) | omega) _ | refine Ext.trans ?_ (by assumption)))) (fun hHeld => ?_); clear hK K; try simp only [Act.put, List.setIfInBounds_toArray, List.set_cons_zero, List.set_cons_succ]
            refine held_take 11 (v := ?_) rfl (by kernel_rfl) (by kernel_rfl) (by kernel_rfl) (fun _ _ _ h => h) (by assumption) (by rfl) ?_ ?_; rotate_left; (focus (intro w hSw; (try dsimp only at hSw); go_simp; (try with_reducible rfl))); try simp only [Act.put, List.setIfInBounds_toArray, List.set_cons_zero, List.set_cons_succ]
            refine held_take 12 (v := ?_) rfl (by kernel_rfl) (by kernel_rfl) (by kernel_rfl) (fun _ _ _ h => h) (by assumption) (by rfl) ?_ ?_; rotate_left; (focus (intro w hSw; (try dsimp only at hSw); go_simp; (try with_reducible rfl))); try simp only [Act.put, List.setIfInBounds_toArray, List.set_cons_zero, List.set_cons_succ]
            refine held_take 13 (v := ?_) rfl (by kernel_rfl) (by kernel_rfl) (by kernel_rfl) (fun _ _ _ h => h) (by assumption) (by rfl) ?_ ?_; rotate_left; (focus (intro w hSw; (try dsimp only at hSw); go_simp; (try with_reducible rfl))); try simp only [Act.put, List.setIfInBounds_toArray, List.set_cons_zero, List.set_cons_succ]
            refine held_take 14 (v := ?_) rfl (by kernel_rfl) (by kernel_rfl) (by kernel_rfl) (fun _ _ _ h => h) (by assumption) (by rfl) ?_ ?_; rotate_left; (focus (intro w hSw; (try dsimp only at hSw); go_simp; (try with_reducible rfl))); try simp only [Act.put, List.setIfInBounds_toArray, List.set_cons_zero, List.set_cons_succ]
            refine held_take 15 (v := ?_) rfl (by kernel_rfl) (by kernel_rfl) (by kernel_rfl) (fun _ _ _ h => h) (by assumption) (by rfl) ?_ ?_; rotate_left; (focus (intro w hSw; (try dsimp only at hSw); go_simp; (try with_reducible rfl))); try simp only [Act.put, List.setIfInBounds_toArray, List.set_cons_zero, List.set_cons_succ]
            refine wpAnyH_done (by kernel_rfl) ?_ _
            go_wp2_with fail
            first
              | (refine bodyPost_ret (v := .tuple #[.int .i64 _, .bool true]) (by simp [results, Tryd.results61, go_sem]; rfl) rfl ⟨?_, x0.trans (hx.trans y4)⟩; rw [HBD.out, HST.out _ HS.out]; rfl)
              | skip
          go_roundg (len - (j + 1))
          case rel => exact ⟨j + 1, rfl, by omega, by go_num, HS.out, hx.trans y4⟩
          case measure => omega
        · obtain rfl : j = len := by omega
          go_wp2_with fail
          have h0 := HBS.out
          rw [List.take_of_length_le (by rw [← HL.out]; omega)] at h0
          exact bodyPost_ret (v := .tuple #[.int .i64 0, .bool false]) (by simp [results, Tryd.results61, go_sem]) rfl ⟨by rw [HBD.out, h0]; rfl, x0.trans hx⟩

theorem sameB_len {a b : List ByteArray} (h : a.length ≠ b.length) : sameB a b = false := by
  unfold sameB
  rw [decide_eq_false_iff_not]
  rintro rfl
  exact h rfl
set_option maxHeartbeats 1000000 in
theorem ref7_same (l l' : List ByteArray) (w : World) (a a' : Option Addr) (n cap n' cap' : Nat) (h1 : n ≤ cap) (h2 : cap ≤ 9223372036854775807) (h1' : n' ≤ cap') (h2' : cap' ≤ 9223372036854775807) (hl : IsRow w (vstr l) a n) (hl' : IsRow w (vstr l') a' n') :
    Calls Tryd.prog 32 #[.slice a n cap, .slice a' n' cap'] w fun e w' => e = .returned (.bool (sameB l l')) ∧ Ext w w' := by
  have hn := hl.1
  have hn' := hl'.1
  rw [vstr_length] at hn hn'
  have HR := Lib.hid hl
  have HR' := Lib.hid hl'
  have HL := Lib.hid hn
  have HL' := Lib.hid hn'
  clear hl hl'
  by_cases hne : n = n'
  · subst hne
    clear hn hn'
    go_enter Tryd.func32, Tryd.ntmps32
    go_wp2_with fail
    go_loopg [13] n (fun g i wr => ∃ j : Nat, g = n - j ∧ j ≤ n ∧ i = .int .i64 j ∧ l.take j = l'.take j ∧ Ext w wr)
    case atStart => exact ⟨0, by omega, by omega, rfl, by simp, Ext.refl _⟩
    case round =>
      obtain ⟨j, rfl, hj, rfl, htk, hx⟩ := hrel
      have HT := Lib.hid htk
      clear htk
      by_cases hlt : j < n
      · obtain ⟨t, b, o, g, rfl, q⟩ := (HR.out.ext hx).str hlt
        obtain ⟨t', b', o', g', rfl, q'⟩ := (HR'.out.ext hx).str hlt
        have G := Lib.hid g
        have G' := Lib.hid g'
        have qq := fun W (h : Ext wr W) => h.cell q
        have qq' := fun W (h : Ext wr W) => h.cell q'
        clear g g'
        cases hr : (t.toList == t'.toList)
        · have hne : (!(t.toList == t'.toList)) = true := by rw [hr]; rfl
          have HX := Lib.hid hr
          clear hr
          go_wp2_with fail
          refine wp_region_held_drew (S := fun w' => Ext wr w') (by kernel_rfl) (by (try dsimp only); (repeat (first | exact Ext.refl _ | assumption | refine Ext.alloc ?_ _ | refine Ext.drew ?_ | refine Ext.setCell ?_ (by first | (simp; done) | (simp; omega) | omega) _ | refine Ext.trans ?_ (by assumption)))) (fun hHeld => ?_)
          refine held_take 0 (v := ?_) rfl (by kernel_rfl) (by kernel_rfl) (by kernel_rfl) (fun _ _ _ h => h) (by assumption) (by rfl) ?_ ?_; rotate_left; (focus (intro w hSw; (try dsimp only at hSw); go_simp; (try with_reducible rfl))); try simp only [Act.put, List.setIfInBounds_toArray, List.set_cons_zero, List.set_cons_succ]
          refine held_take 1 (v := ?_) rfl (by kernel_rfl) (by kernel_rfl) (by kernel_rfl) (fun _ _ _ h => h) (by assumption) (by rfl) ?_ ?_; rotate_left; (focus (intro w hSw; (try dsimp only at hSw); go_simp; (try with_reducible rfl))); try simp only [Act.put, List.setIfInBounds_toArray, List.set_cons_zero, List.set_cons_succ]
          refine held_take 2 (v := ?_) rfl (by kernel_rfl) (by kernel_rfl) (by kernel_rfl) (fun _ _ _ h => h) (by assumption) (by rfl) ?_ ?_; rotate_left; (focus (intro w hSw; (try dsimp only at hSw); go_simp; (try with_reducible rfl))); try simp only [Act.put, List.setIfInBounds_toArray, List.set_cons_zero, List.set_cons_succ]
          refine held_take 3 (v := ?_) rfl (by kernel_rfl) (by kernel_rfl) (by kernel_rfl) (fun _ _ _ h => h) (by assumption) (by rfl) ?_ ?_; rotate_left; (focus (intro w hSw; (try dsimp only at hSw); go_simp; (try with_reducible rfl))); try simp only [Act.put, List.setIfInBounds_toArray, List.set_cons_zero, List.set_cons_succ]
          refine held_take 4 (v := ?_) rfl (by kernel_rfl) (by kernel_rfl) (by kernel_rfl) (fun _ _ _ h => h) (by assumption) (by rfl) ?_ ?_; rotate_left; (focus (intro w hSw; (try dsimp only at hSw); go_simp; (try with_reducible rfl))); try simp only [Act.put, List.setIfInBounds_toArray, List.set_cons_zero, List.set_cons_succ]
          refine held_take 5 (v := ?_) rfl (by kernel_rfl) (by kernel_rfl) (by kernel_rfl) (fun _ _ _ h => h) (by assumption) (by rfl) ?_ ?_; rotate_left; (focus (intro w hSw; (try dsimp only at hSw); go_simp; (try with_reducible rfl))); try simp only [Act.put, List.setIfInBounds_toArray, List.set_cons_zero, List.set_cons_succ]
          refine held_take 6 (v := ?_) rfl (by kernel_rfl) (by kernel_rfl) (by kernel_rfl) (fun _ _ _ h => h) (by assumption) (by rfl) ?_ ?_; rotate_left; (focus (intro w hSw; (try dsimp only at hSw); go_simp; (try with_reducible rfl))); try simp only [Act.put, List.setIfInBounds_toArray, List.set_cons_zero, List.set_cons_succ]
          refine held_take 7 (v := ?_) rfl (by kernel_rfl) (by kernel_rfl) (by kernel_rfl) (fun _ _ _ h => h) (by assumption) (by rfl) ?_ ?_; rotate_left; (focus (intro w hSw; (try dsimp only at hSw); go_simp; (try with_reducible rfl))); try simp only [Act.put, List.setIfInBounds_toArray, List.set_cons_zero, List.set_cons_succ]
          refine held_take 8 (v := ?_) rfl (by kernel_rfl) (by kernel_rfl) (by kernel_rfl) (fun _ _ _ h => h) (by assumption) (by rfl) ?_ ?_; rotate_left; (focus (intro w hSw; (try dsimp only at hSw); go_simp; (try with_reducible rfl))); try simp only [Act.put, List.setIfInBounds_toArray, List.set_cons_zero, List.set_cons_succ]
          refine wpAnyH_done (by kernel_rfl) ?_ _
          go_wp2_with fail
          go_ret
          refine ⟨ret_bool ?_, by (repeat (first | exact Ext.refl _ | assumption | refine Ext.alloc ?_ _ | refine Ext.drew ?_ | refine Ext.setCell ?_ (by first | (simp; done) | (simp; omega) | omega) _ | refine Ext.trans ?_ (by assumption)))⟩
          symm
          unfold sameB
          rw [decide_eq_false_iff_not]
          rintro rfl
          have := G.out.symm.trans G'.out
          cases this
          have := HX.out
          simp at this
        · have hne : (!(t.toList == t'.toList)) = false := by rw [hr]; rfl
          have HX := Lib.hid hr
          clear hr
          go_wp2_with fail
          refine wp_region_held_drew (S := fun w' => Ext wr w') (by kernel_rfl) (by (try dsimp only); (repeat (first | exact Ext.refl _ | assumption | refine Ext.alloc ?_ _ | refine Ext.drew ?_ | refine Ext.setCell ?_ (by first | (simp; done) | (simp; omega) | omega) _ | refine Ext.trans ?_ (by assumption)))) (fun hHeld => ?_)
          refine held_take 0 (v := ?_) rfl (by kernel_rfl) (by kernel_rfl) (by kernel_rfl) (fun _ _ _ h => h) (by assumption) (by rfl) ?_ ?_; rotate_left; (focus (intro w hSw; (try dsimp only at hSw); go_simp; (try with_reducible rfl))); try simp only [Act.put, List.setIfInBounds_toArray, List.set_cons_zero, List.set_cons_succ]
          refine held_take 1 (v := ?_) rfl (by kernel_rfl) (by kernel_rfl) (by kernel_rfl) (fun _ _ _ h => h) (by assumption) (by rfl) ?_ ?_; rotate_left; (focus (intro w hSw; (try dsimp only at hSw); go_simp; (try with_reducible rfl))); try simp only [Act.put, List.setIfInBounds_toArray, List.set_cons_zero, List.set_cons_succ]
          refine held_take 2 (v := ?_) rfl (by kernel_rfl) (by kernel_rfl) (by kernel_rfl) (fun _ _ _ h => h) (by assumption) (by rfl) ?_ ?_; rotate_left; (focus (intro w hSw; (try dsimp only at hSw); go_simp; (try with_reducible rfl))); try simp only [Act.put, List.setIfInBounds_toArray, List.set_cons_zero, List.set_cons_succ]
          refine held_take 3 (v := ?_) rfl (by kernel_rfl) (by kernel_rfl) (by kernel_rfl) (fun _ _ _ h => h) (by assumption) (by rfl) ?_ ?_; rotate_left; (focus (intro w hSw; (try dsimp only at hSw); go_simp; (try with_reducible rfl))); try simp only [Act.put, List.setIfInBounds_toArray, List.set_cons_zero, List.set_cons_succ]
          refine held_take 4 (v := ?_) rfl (by kernel_rfl) (by kernel_rfl) (by kernel_rfl) (fun _ _ _ h => h) (by assumption) (by rfl) ?_ ?_; rotate_left; (focus (intro w hSw; (try dsimp only at hSw); go_simp; (try with_reducible rfl))); try simp only [Act.put, List.setIfInBounds_toArray, List.set_cons_zero, List.set_cons_succ]
          refine held_take 5 (v := ?_) rfl (by kernel_rfl) (by kernel_rfl) (by kernel_rfl) (fun _ _ _ h => h) (by assumption) (by rfl) ?_ ?_; rotate_left; (focus (intro w hSw; (try dsimp only at hSw); go_simp; (try with_reducible rfl))); try simp only [Act.put, List.setIfInBounds_toArray, List.set_cons_zero, List.set_cons_succ]
          refine held_take 6 (v := ?_) rfl (by kernel_rfl) (by kernel_rfl) (by kernel_rfl) (fun _ _ _ h => h) (by assumption) (by rfl) ?_ ?_; rotate_left; (focus (intro w hSw; (try dsimp only at hSw); go_simp; (try with_reducible rfl))); try simp only [Act.put, List.setIfInBounds_toArray, List.set_cons_zero, List.set_cons_succ]
          refine held_take 7 (v := ?_) rfl (by kernel_rfl) (by kernel_rfl) (by kernel_rfl) (fun _ _ _ h => h) (by assumption) (by rfl) ?_ ?_; rotate_left; (focus (intro w hSw; (try dsimp only at hSw); go_simp; (try with_reducible rfl))); try simp only [Act.put, List.setIfInBounds_toArray, List.set_cons_zero, List.set_cons_succ]
          refine held_take 8 (v := ?_) rfl (by kernel_rfl) (by kernel_rfl) (by kernel_rfl) (fun _ _ _ h => h) (by assumption) (by rfl) ?_ ?_; rotate_left; (focus (intro w hSw; (try dsimp only at hSw); go_simp; (try with_reducible rfl))); try simp only [Act.put, List.setIfInBounds_toArray, List.set_cons_zero, List.set_cons_succ]
          refine wpAnyH_done (by kernel_rfl) ?_ _
          go_wp2_with fail
          go_roundg (n - (j + 1))
          case rel =>
            refine ⟨j + 1, rfl, by omega, by go_num, ?_, by (repeat (first | exact Ext.refl _ | assumption | refine Ext.alloc ?_ _ | refine Ext.drew ?_ | refine Ext.setCell ?_ (by first | (simp; done) | (simp; omega) | omega) _ | refine Ext.trans ?_ (by assumption)))⟩
            rw [List.take_add_one, List.take_add_one, HT.out, G.out, G'.out, toList_inj (s := t) (t := t') (by simpa using HX.out)]
          case measure => omega
      · obtain rfl : j = n := by omega
        go_wp2_with fail
        go_ret
        have h0 := HT.out
        rw [List.take_of_length_le (by rw [← HL.out]; omega), List.take_of_length_le (by rw [← HL'.out]; omega)] at h0
        exact ⟨ret_bool (by rw [h0]; simp [sameB]), hx⟩
  · have HF := Lib.hid (sameB_len (a := l) (b := l') (by omega))
    have hd : ((n : Int) != n') = true := by simp [bne]; omega
    clear hn hn'
    go_enter Tryd.func32, Tryd.ntmps32
    go_wp2_with fail
    go_ret
    exact ⟨ret_bool HF.out.symm, Ext.refl _⟩
end Go.Proofs.YtmomahgedheekaaDoor

/- The reference's rows of names: the walks of enclaveref07.with, Bound, put. -/
import Derived.Test.YtmomahgedheekaaDoorScope1
import Derived.Test.YtmomahgedheekaaDoorPureS
import Derived.OwnWalk
import Derived.Test.YtmomahgedheekaaDoorAppend
namespace Go.Proofs.YtmomahgedheekaaDoor
open Go Go.RowKit Go.Sort

theorem infoStr1 : ∃ i0, Tryd.prog.info? 9 = some i0 ∧ i0.zero = some (.string ByteArray.empty) ∧ i0.size = 1 ∧ i0.bytes = 16 := info_parts infoStr
theorem Nm.news {A : Nat → Prop} {w : World} {bd : List ByteArray} {p : Addr} {n cap : Nat} (h : Nm A w bd (some p) n cap) : ∀ j u, (vstr bd)[j]? = some u → w.cell? (p.add j) = some u := by
  intro j u hu
  obtain ⟨b, o, e, q⟩ := h.row.2 j u hu
  cases e
  rw [Addr.add_lit]
  exact q
theorem vstr_one (l : List ByteArray) : ∀ u ∈ vstr l, u.oneCell' = true := by
  intro u hu
  unfold vstr at hu
  obtain ⟨y, _, rfl⟩ := List.mem_map.1 hu
  rfl
set_option maxRecDepth 8000 in
set_option maxHeartbeats 1000000 in
theorem ref7_with {A : Nat → Prop} (bd : List ByteArray) (x : ByteArray) (w : World) (p : Addr) (n cap : Nat) (h : Nm A w bd (some p) n cap) (hA : ∀ k, A k → k < w.heap.size) (hlen : bd.length + 1 ≤ 1000000) :
    Calls Tryd.prog 97 #[.slice (some p) n cap, .string x] w (RetNms A (bd ++ [x]) w) := by
  obtain ⟨i0, hi, hz0, hz1, hz2⟩ := infoStr1
  have HI := Lib.hid (And.intro hi (And.intro hz0 (And.intro hz1 hz2)))
  have hn := h.length
  have H := Lib.hid h
  have HA := Lib.hid hA
  have HO := Lib.hid (owns_new w w.heap.size 9 1 0 [] (Nat.le_refl _) (by unfold maxLen; omega) rfl)
  clear h hA hi hz0 hz1 hz2
  go_enter Tryd.func97, Tryd.ntmps97
  go_wp2_with (first | (at_builtin; refine wpList_append_mine rfl (.tmp 5) (.tmp 6) 51 rfl w.heap.size 9 i0 (.string ByteArray.empty) 1 16 Tryd.underlying51 HI.out.1 HI.out.2.1 HI.out.2.2.1 HI.out.2.2.2 rfl (by decide) (.slice (some ⟨w.heap.size, 0, none⟩) 0 0) 0 [] rfl HO.out p n cap (vstr bd) rfl (by rw [vstr_length]; omega) (H.out.ext ((Ext.refl w).alloc _)).news (vstr_one bd) (by unfold maxLen; omega) (by omega) (by simp) ?_; intro v2 w2 ho2 hg2 _; have x2 := ext_grown hg2 ((Ext.refl w).alloc _) (fun k hk => by simp [Value.ownBlock] at hk; omega); have HO2 := Lib.hid ho2; clear ho2 hg2) | (at_builtin; refine wpList_append_mine rfl (.tmp 7) (.tmp 9) 51 rfl w.heap.size 9 i0 (.string ByteArray.empty) 1 16 Tryd.underlying51 HI.out.1 HI.out.2.1 HI.out.2.2.1 HI.out.2.2.2 rfl (by decide) v2 (0 + n) ([] ++ vstr bd) rfl (owns_ext ((Ext.refl _).alloc _) HO2.out) ⟨w2.heap.size, 0, none⟩ 1 1 (vstr [x]) rfl rfl (fun j u hu => by rw [Addr.add_lit, Nat.zero_add]; exact (World.cell?_alloc_new w2 _ _ _).trans (by simpa [vstr] using hu)) (vstr_one [x]) (by unfold maxLen; omega) (by omega) (Nat.le_trans x2.size (by simp)) ?_; intro v3 w3 ho3 hg3 _; have x3 := ext_grown hg3 (x2.trans ((Ext.refl _).alloc _)) (fun k hk => (HO2.out.lt k hk).1); have HO3 := Lib.hid ho3; clear ho3 hg3))
  go_ret
  have ho := HO3.out
  rw [List.nil_append, show vstr bd ++ vstr [x] = vstr (bd ++ [x]) from by simp [vstr]] at ho
  obtain ⟨p', cap', rfl, hN⟩ := nm_owned_some ho HA.out (by omega)
  exact ⟨p', _, cap', rfl, hN, x3⟩

set_option maxRecDepth 8000 in
set_option maxHeartbeats 4000000 in
theorem ref7_bound {A : Nat → Prop} (bd : List ByteArray) (kid : Nat) (x : Hd) (w : World) (p : Addr) (n cap : Nat) (ak : Option Addr) (lenk capk : Nat) (h : Nm A w bd (some p) n cap) (hA : ∀ k, A k → k < w.heap.size) (hlen : bd.length + 2 ≤ 1000000) :
    Calls Tryd.prog 92 #[.slice (some p) n cap, .agg #[.int .u8 x.k, .int .u8 x.op, .int .i64 x.pos, .int .i64 x.n, .string x.name, .string x.arg, .string x.exn, .slice ak lenk capk], .int .i64 (kid : Int)] w (RetNms A (bound x kid bd) w) := by
  have HB : Hid (bound x kid bd = if x.k = 11 ∨ (x.k = 16 ∧ kid = 1) then bd ++ [x.arg] else if (x.k = 12 ∨ x.k = 13) ∧ kid = 1 then bd ++ [x.name] else if x.k = 13 then bd ++ [x.name, x.arg] else bd) := rfl
  generalize hbx : bound x kid bd = out at *
  clear hbx
  obtain ⟨k, op, pos, num, name, arg, exn⟩ := x
  simp only at HB
  obtain ⟨W1, hW1⟩ : ∃ W1, W1 = w.alloc (.cells #[.int .u8 k, .int .u8 op, .int .i64 pos, .int .i64 num, .string name, .string arg, .string exn, .slice ak lenk capk] 41) := ⟨_, rfl⟩
  have x1 : Ext w W1 := by rw [hW1]; exact (Ext.refl _).alloc _
  have hs1 : w.heap.size < W1.heap.size := by rw [hW1]; simp
  have z4 : W1.cell? ⟨w.heap.size, 4, none⟩ = some (.string name) := by rw [hW1]; simp [go_sem]
  have z5 : W1.cell? ⟨w.heap.size, 5, none⟩ = some (.string arg) := by rw [hW1]; simp [go_sem]
  have zz4 := fun W (h : Ext W1 W) => h.cell z4
  have zz5 := fun W (h : Ext W1 W) => h.cell z5
  have zl := fun W (h : Ext W1 W) => Nat.lt_of_lt_of_le hs1 h.size
  have K1 := Lib.hid fun W s (hx : Ext W1 W) => ref7_with bd s W p n cap (h.ext (x1.trans hx)) (fun k hk => Nat.lt_of_lt_of_le (hA k hk) (x1.trans hx).size) (by omega)
  have K2 := Lib.hid fun W s t p' n' cap' (hx : Ext W1 W) (hh : Nm A W (bd ++ [s]) (some p') n' cap') => ref7_with (bd ++ [s]) t W p' n' cap' hh (fun k hk => Nat.lt_of_lt_of_le (hA k hk) (x1.trans hx).size) (by simp; omega)
  have HN := Lib.hid h
  have HW1 := Lib.hid hW1
  have hq : ((kid : Int) == 1) = decide (kid = 1) := by
    rw [Bool.eq_iff_iff]
    simp
    omega
  have cases : (k = 11) ∨ (k = 16) ∨ (k = 12) ∨ (k = 13) ∨ ((k == 11) = false ∧ (k == 16) = false ∧ (k == 12) = false ∧ (k == 13) = false) := by
    simp only [beq_eq_false_iff_ne]
    omega
  clear h hA hlen hW1 z4 z5
  by_cases hk1 : kid = 1
  all_goals
    first
      | rw [decide_eq_true hk1] at hq
      | rw [decide_eq_false hk1] at hq
    have HK := Lib.hid hk1
    clear hk1
    rcases cases with rfl | rfl | rfl | rfl | ⟨d1, d2, d3, d4⟩
    all_goals
      go_enter Tryd.func92, Tryd.ntmps92
      go_wp2_with (go_at_call 97; rw [← HW1.out]; refine (K1.out _ _ (Ext.refl _)).mono ?_; rintro e w1 ⟨a1, n1, c1, rfl, hn1, y1⟩; have HN1 := Lib.hid hn1; clear hn1)
      try rw [← HW1.out]
      try
        refine wp_region_held_drew (S := fun w' => Ext W1 w') (by kernel_rfl) (by (try dsimp only); (repeat (first | exact Ext.refl _ | assumption | refine Ext.alloc ?_ _ | refine Ext.drew ?_ | refine Ext.setCell ?_ (by first | (simp; done) | (simp; omega) | omega) _ | refine Ext.trans ?_ (by assumption)))) (fun hHeld => ?_)
        refine held_take 0 (v := ?_) rfl (by kernel_rfl) (by kernel_rfl) (by kernel_rfl) (fun _ _ _ h => h) (by assumption) (by rfl) ?_ ?_; rotate_left; (focus (intro w hSw; (try dsimp only at hSw); go_simp; (try with_reducible rfl))); try simp only [Act.put, List.setIfInBounds_toArray, List.set_cons_zero, List.set_cons_succ]
        refine held_take 1 (v := ?_) rfl (by kernel_rfl) (by kernel_rfl) (by kernel_rfl) (fun _ _ _ h => h) (by assumption) (by rfl) ?_ ?_; rotate_left; (focus (intro w hSw; (try dsimp only at hSw); go_simp; (try with_reducible rfl))); try simp only [Act.put, List.setIfInBounds_toArray, List.set_cons_zero, List.set_cons_succ]
        refine held_take 2 (v := ?_) rfl (by kernel_rfl) (by kernel_rfl) (by kernel_rfl) (fun _ _ _ h => h) (by assumption) (by rfl) ?_ ?_; rotate_left; (focus (intro w hSw; (try dsimp only at hSw); go_simp; (try with_reducible rfl))); try simp only [Act.put, List.setIfInBounds_toArray, List.set_cons_zero, List.set_cons_succ]
        refine held_take 3 (v := ?_) rfl (by kernel_rfl) (by kernel_rfl) (by kernel_rfl) (fun _ _ _ h => h) (by assumption) (by rfl) ?_ ?_; rotate_left; (focus (intro w hSw; (try dsimp only at hSw); go_simp; (try with_reducible rfl))); try simp only [Act.put, List.setIfInBounds_toArray, List.set_cons_zero, List.set_cons_succ]
        refine held_take 5 (v := ?_) rfl (by kernel_rfl) (by kernel_rfl) (by kernel_rfl) (fun _ _ _ h => h) (by assumption) (by rfl) ?_ ?_; rotate_left; (focus (intro w hSw; (try dsimp only at hSw); go_simp; (try with_reducible rfl))); try simp only [Act.put, List.setIfInBounds_toArray, List.set_cons_zero, List.set_cons_succ]
        refine held_take 6 (v := ?_) rfl (by kernel_rfl) (by kernel_rfl) (by kernel_rfl) (fun _ _ _ h => h) (by assumption) (by rfl) ?_ ?_; rotate_left; (focus (intro w hSw; (try dsimp only at hSw); go_simp; (try with_reducible rfl))); try simp only [Act.put, List.setIfInBounds_toArray, List.set_cons_zero, List.set_cons_succ]
        refine held_take 7 (v := ?_) rfl (by kernel_rfl) (by kernel_rfl) (by kernel_rfl) (fun _ _ _ h => h) (by assumption) (by rfl) ?_ ?_; rotate_left; (focus (intro w hSw; (try dsimp only at hSw); go_simp; (try with_reducible rfl))); try simp only [Act.put, List.setIfInBounds_toArray, List.set_cons_zero, List.set_cons_succ]
        refine held_do 4 rfl (by kernel_rfl) (by rfl) (fun K hK => ?_); go_simp; (first | (go_at_call 97; (first | ((with_reducible refine (K2.out _ _ arg _ _ _ (by (repeat (first | exact Ext.refl _ | assumption | refine Ext.alloc ?_ _ | refine Ext.drew ?_ | refine Ext.setCell ?_ (by first | (simp; done) | (simp; omega) | omega) _ | refine Ext.trans ?_ (by assumption)))) HN0.out).mono ?_); rintro e w1 ⟨a1, n1, c1, rfl, hn1, y1⟩; have HN1 := Lib.hid hn1; clear hn1; have y1' : Ext W1 w1 := Ext.trans (by (repeat (first | exact Ext.refl _ | assumption | refine Ext.alloc ?_ _ | refine Ext.drew ?_ | refine Ext.setCell ?_ (by first | (simp; done) | (simp; omega) | omega) _ | refine Ext.trans ?_ (by assumption)))) y1) | ((with_reducible refine (K1.out _ name (by (repeat (first | exact Ext.refl _ | assumption | refine Ext.alloc ?_ _ | refine Ext.drew ?_ | refine Ext.setCell ?_ (by first | (simp; done) | (simp; omega) | omega) _ | refine Ext.trans ?_ (by assumption))))).mono ?_); rintro e w0 ⟨a0, n0, c0, rfl, hn0, y0⟩; have HN0 := Lib.hid hn0; clear hn0; have y0' : Ext W1 w0 := Ext.trans (by (repeat (first | exact Ext.refl _ | assumption | refine Ext.alloc ?_ _ | refine Ext.drew ?_ | refine Ext.setCell ?_ (by first | (simp; done) | (simp; omega) | omega) _ | refine Ext.trans ?_ (by assumption)))) y0)))); (try (focus (go_wp2_with fail))); refine hK.out _ _ (by (try dsimp only); (repeat (first | exact Ext.refl _ | assumption | refine Ext.alloc ?_ _ | refine Ext.drew ?_ | refine Ext.setCell ?_ (by first | (simp; done) | (simp; omega) | omega) _ | refine Ext.trans ?_ (by assumption)))) (fun hHeld => ?_); clear hK K; try simp only [Act.put, List.setIfInBounds_toArray, List.set_cons_zero, List.set_cons_succ]
        refine held_do 8 rfl (by kernel_rfl) (by rfl) (fun K hK => ?_); go_simp; (first | (go_at_call 97; (first | ((with_reducible refine (K2.out _ _ arg _ _ _ (by (repeat (first | exact Ext.refl _ | assumption | refine Ext.alloc ?_ _ | refine Ext.drew ?_ | refine Ext.setCell ?_ (by first | (simp; done) | (simp; omega) | omega) _ | refine Ext.trans ?_ (by assumption)))) HN0.out).mono ?_); rintro e w1 ⟨a1, n1, c1, rfl, hn1, y1⟩; have HN1 := Lib.hid hn1; clear hn1; have y1' : Ext W1 w1 := Ext.trans (by (repeat (first | exact Ext.refl _ | assumption | refine Ext.alloc ?_ _ | refine Ext.drew ?_ | refine Ext.setCell ?_ (by first | (simp; done) | (simp; omega) | omega) _ | refine Ext.trans ?_ (by assumption)))) y1) | ((with_reducible refine (K1.out _ name (by (repeat (first | exact Ext.refl _ | assumption | refine Ext.alloc ?_ _ | refine Ext.drew ?_ | refine Ext.setCell ?_ (by first | (simp; done) | (simp; omega) | omega) _ | refine Ext.trans ?_ (by assumption))))).mono ?_); rintro e w0 ⟨a0, n0, c0, rfl, hn0, y0⟩; have HN0 := Lib.hid hn0; clear hn0; have y0' : Ext W1 w0 := Ext.trans (by (repeat (first | exact Ext.refl _ | assumption | refine Ext.alloc ?_ _ | refine Ext.drew ?_ | refine Ext.setCell ?_ (by first | (simp; done) | (simp; omega) | omega) _ | refine Ext.trans ?_ (by assumption)))) y0)))); (try (focus (go_wp2_with fail))); refine hK.out _ _ (by (try dsimp only); (repeat (first | exact Ext.refl _ | assumption | refine Ext.alloc ?_ _ | refine Ext.drew ?_ | refine Ext.setCell ?_ (by first | (simp; done) | (simp; omega) | omega) _ | refine Ext.trans ?_ (by assumption)))) (fun hHeld => ?_); clear hK K; try simp only [Act.put, List.setIfInBounds_toArray, List.set_cons_zero, List.set_cons_succ]
        refine held_take 9 (v := ?_) rfl (by kernel_rfl) (by kernel_rfl) (by kernel_rfl) (fun _ _ _ h => h) (by assumption) (by rfl) ?_ ?_; rotate_left; (focus (intro w hSw; (try dsimp only at hSw); go_simp; (try with_reducible rfl))); try simp only [Act.put, List.setIfInBounds_toArray, List.set_cons_zero, List.set_cons_succ]
        refine wpAnyH_done (by kernel_rfl) ?_ _
        go_wp2_with fail
      go_ret
      have hk := HK.out
      first
        | (refine ⟨a1, n1, c1, rfl, ?_, x1.trans (by (repeat (first | exact Ext.refl _ | assumption | refine Ext.alloc ?_ _ | refine Ext.drew ?_ | refine Ext.setCell ?_ (by first | (simp; done) | (simp; omega) | omega) _ | refine Ext.trans ?_ (by assumption))))⟩; rw [HB.out]; simp only [hk]; simpa using HN1.out)
        | (simp only [beq_eq_false_iff_ne, ne_eq] at d1 d2 d3 d4; refine ⟨p, n, cap, rfl, ?_, x1.trans (by (repeat (first | exact Ext.refl _ | assumption | refine Ext.alloc ?_ _ | refine Ext.drew ?_ | refine Ext.setCell ?_ (by first | (simp; done) | (simp; omega) | omega) _ | refine Ext.trans ?_ (by assumption))))⟩; rw [HB.out]; simp only [hk, d1, d2, d3, d4]; simpa using HN.out.ext (x1.trans (by (repeat (first | exact Ext.refl _ | assumption | refine Ext.alloc ?_ _ | refine Ext.drew ?_ | refine Ext.setCell ?_ (by first | (simp; done) | (simp; omega) | omega) _ | refine Ext.trans ?_ (by assumption))))))
        | (refine ⟨p, n, cap, rfl, ?_, x1.trans (by (repeat (first | exact Ext.refl _ | assumption | refine Ext.alloc ?_ _ | refine Ext.drew ?_ | refine Ext.setCell ?_ (by first | (simp; done) | (simp; omega) | omega) _ | refine Ext.trans ?_ (by assumption))))⟩; rw [HB.out]; simp only [hk]; simpa using HN.out.ext (x1.trans (by (repeat (first | exact Ext.refl _ | assumption | refine Ext.alloc ?_ _ | refine Ext.drew ?_ | refine Ext.setCell ?_ (by first | (simp; done) | (simp; omega) | omega) _ | refine Ext.trans ?_ (by assumption))))))

set_option maxHeartbeats 1000000 in
theorem ref7_put {A : Nat → Prop} (l : List ByteArray) (x : ByteArray) (w : World) (p : Addr) (n cap : Nat) (h : Nm A w l (some p) n cap) (hA : ∀ k, A k → k < w.heap.size) (hlen : l.length + 1 ≤ 1000000) :
    Calls Tryd.prog 69 #[.slice (some p) n cap, .string x] w (RetNms A (put l x) w) := by
  have KI := Lib.hid (ref7_in x l w (some p) n cap h.le h.max h.row)
  have KW := Lib.hid fun W (hx : Ext w W) => ref7_with l x W p n cap (h.ext hx) (fun k hk => Nat.lt_of_lt_of_le (hA k hk) hx.size) hlen
  have HN := Lib.hid h
  have HP : Hid (put l x = if inB l x then l else l ++ [x]) := rfl
  clear h hA hlen
  cases hin : inB l x
  all_goals
    rw [hin] at KI HP
    go_enter Tryd.func69, Tryd.ntmps69
    go_wp2_with (first | (go_at_call 36; refine KI.out.mono ?_; rintro e w1 ⟨rfl, x1⟩) | (go_at_call 97; refine (KW.out _ x1).mono ?_; rintro e w2 ⟨p2, n2, c2, rfl, hn2, x2⟩; have HN2 := Lib.hid hn2; clear hn2))
    go_ret
    first
      | exact ⟨_, _, _, rfl, by rw [HP.out]; exact HN2.out, x1.trans x2⟩
      | exact ⟨_, _, _, rfl, by rw [HP.out]; exact HN.out.ext x1, x1⟩
end Go.Proofs.YtmomahgedheekaaDoor

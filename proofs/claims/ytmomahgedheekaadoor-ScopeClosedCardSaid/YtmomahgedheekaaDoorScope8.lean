/- The walks of enclaveref07.Free, Exns. -/
import Derived.Test.YtmomahgedheekaaDoorScope5
import Derived.Test.YtmomahgedheekaaDoorRef04c
namespace Go.Proofs.YtmomahgedheekaaDoor
open Go Go.RowKit Go.Sort

theorem Nm.zero (w : World) (T : TypeId) : Nm NoA (w.alloc (.cells #[] T)) [] (some ⟨w.heap.size, 0, none⟩) 0 0 :=
  ⟨Nat.le_refl _, by omega, by simp, IsRow.nil _ _, fun p hp => by cases hp; exact ⟨fun h => h.elim, by simp, rfl⟩⟩
theorem retStrs_nm {A : Nat → Prop} {bd : List ByteArray} {w w' : World} {p : Option Addr} {n cap : Nat} (h : Nm A w' bd p n cap) (hx : Ext w w') : RetStrs bd w (.returned (.slice p n cap)) w' :=
  ⟨p, n, cap, rfl, h.le, h.max, h.row, hx⟩
theorem frees_len (l : List Tm) (j : Nat) : (puts [] ((l.take j).flatMap fun t => t.occ [])).length ≤ Tm.sizes l := by
  have h := gathered_length isFree Hd.name (l.take j)
  rw [← frees_gathered] at h
  exact Nat.le_trans h (Tm.sizes_take_le l j)
theorem exns_len (l : List Tm) (j : Nat) : (puts [] ((l.take j).flatMap fun t => exnsOf t.all)).length ≤ Tm.sizes (l.take j) := by
  have h := gathered_length names_ Hd.exn (l.take j)
  rw [← exns_gathered] at h
  exact h
theorem exnsOf_succ (al : List Tm) (k : Nat) (t : Tm) (g : al[k]? = some t) : exnsOf (al.take (k + 1)) = exnsOf (al.take k) ++ (if names_ [] t.head then [t.head.exn] else []) := by
  rw [List.take_add_one, g, exnsOf_append]
  congr 1
  simp only [Option.toList_some, exnsOf, List.filter_cons, List.filter_nil]
  split <;> simp
set_option maxRecDepth 8000 in
set_option maxHeartbeats 4000000 in
theorem ref7_frees (l : List Tm) (w : World) (a : Option Addr) (len cap : Nat) (hs : Tm.sizes l ≤ 100000) (h1 : len ≤ cap) (h2 : cap ≤ 9223372036854775807) (hl : IsTms w l a len) :
    Calls Tryd.prog 33 #[.slice a len cap] w (RetStrs (freesR l) w) := by
  have HTL := Lib.hid hl
  have HL := Lib.hid hl.length
  clear hl
  obtain ⟨W0, hW0⟩ : ∃ W0, W0 = w.alloc (.cells #[] 9) := ⟨_, rfl⟩
  have x0 : Ext w W0 := by rw [hW0]; exact (Ext.refl _).alloc _
  have HN0 : Hid (Nm NoA W0 [] (some ⟨w.heap.size, 0, none⟩) 0 0) := Lib.hid (by rw [hW0]; exact Nm.zero w _)
  have HW0 := Lib.hid hW0
  clear hW0
  go_enter Tryd.func33, Tryd.ntmps33
  go_wp2_with fail
  rw [← HW0.out]
  go_loopg [9] len (fun g i wr => ∃ j : Nat, g = len - j ∧ j ≤ len ∧ i = .int .i64 j ∧ (∀ t, t ∈ l.take j → t.may = true) ∧ Ext W0 wr)
  case atStart => exact ⟨0, by omega, by omega, rfl, by simp, Ext.refl _⟩
  case round =>
    obtain ⟨j, rfl, hj, rfl, hmay, hx⟩ := hrel
    have HM := Lib.hid hmay
    clear hmay
    by_cases hlt : j < len
    · obtain ⟨x, k, b, o, ak, lenk, capk, g, rfl, hbo, hd, hq, hf, p1, p2, pl⟩ := HTL.out.at8 (x0.trans hx) hlt
      obtain ⟨c0, c1, c2, c3, c4, c5, c6⟩ := hd
      have hsz := Tm.size_at l j _ g
      have CM := Lib.hid (ref4_may (.mk x k) wr (tval x ak lenk capk) (IsTmA.mk_ pl p1 p2 hf) (by omega))
      have G := Lib.hid g
      unfold tval at CM
      clear pl hf g hsz
      cases hm : (Tm.mk x k).may
      all_goals
        rw [hm] at CM
        have HMM := Lib.hid hm
        clear hm
        go_wp2_with (go_at_call 29; refine (CM.out).mono ?_; rintro e w1 ⟨rfl, x1⟩)
      · go_ret
        refine ⟨_, 0, 0, rfl, Nat.le_refl _, by omega, ?_, (x0.trans (hx.trans x1)).alloc _⟩
        have : l.all Tm.may = false := List.all_eq_false.2 ⟨_, List.mem_of_getElem? G.out, by rw [HMM.out]; simp⟩
        unfold freesR
        rw [this]
        exact IsRow.nil _ _
      · go_roundg (len - (j + 1))
        case rel =>
          refine ⟨j + 1, rfl, by omega, by go_num, ?_, hx.trans x1⟩
          intro t ht
          rw [List.take_add_one, G.out] at ht
          simp only [List.mem_append, Option.toList_some, List.mem_singleton] at ht
          rcases ht with ht | rfl
          · exact HM.out t ht
          · exact HMM.out
        case measure => omega
    · obtain rfl : j = len := by omega
      have hall : l.all Tm.may = true := by
        have h := HM.out
        rw [List.take_of_length_le (by rw [← HL.out]; omega)] at h
        exact List.all_eq_true.2 h
      have HALL := Lib.hid hall
      clear hall HM
      go_wp2_with fail
      go_loopg [3, 22] j (fun g s i wq => ∃ (i' : Nat) (pj : Addr) (nj cj : Nat), g = j - i' ∧ i' ≤ j ∧ s = .slice (some pj) nj cj ∧ i = .int .i64 i' ∧ Nm NoA wq (puts [] ((l.take i').flatMap fun t => t.occ [])) (some pj) nj cj ∧ Ext W0 wq)
      case atStart => exact ⟨0, _, _, _, by omega, by omega, rfl, rfl, by simpa [puts_nil] using HN0.out.ext hx, hx⟩
      case round =>
        obtain ⟨i', pj, nj, cj, rfl, hi', rfl, rfl, hnj, hxq⟩ := hrel
        have HNJ := Lib.hid hnj
        clear hnj
        by_cases hlt2 : i' < j
        · obtain ⟨x, k, b, o, ak, lenk, capk, g, rfl, hbo, hd, hq, hf, p1, p2, pl⟩ := HTL.out.at8 (x0.trans hxq) hlt2
          obtain ⟨c0, c1, c2, c3, c4, c5, c6⟩ := hd
          have hsz := Tm.size_at l i' _ g
          have hfl := frees_len l i'
          have HSU := Lib.hid (flat_succ (fun t : Tm => t.occ []) l i' _ g)
          have CF := Lib.hid (ref7_free _ (.mk x k) [] (puts [] ((l.take i').flatMap fun t => t.occ [])) (wr.alloc (.cells #[] 9)) pj ⟨wr.heap.size, 0, none⟩ nj cj 0 0 (tval x ak lenk capk) (Nat.le_refl _) (by simp; omega) (by omega) (HNJ.out.ext ((Ext.refl _).alloc _)) (Nm.zero wr _) (IsTmA.mk_ (pl.ext ((Ext.refl _).alloc _)) p1 p2 hf))
          unfold tval at CF
          clear pl hf g hsz hfl
          go_wp2_with (go_at_call 66; refine (CF.out).mono ?_; rintro e w1 ⟨p3, n3, c3', rfl, hn3, x3⟩; have HN3 := Lib.hid hn3; clear hn3)
          go_roundg (j - (i' + 1))
          case rel => exact ⟨i' + 1, _, _, _, rfl, by omega, rfl, by go_num, by rw [HSU.out, puts_append]; exact HN3.out, hxq.trans (((Ext.refl _).alloc _).trans x3)⟩
          case measure => omega
        · obtain rfl : i' = j := by omega
          go_wp2_with fail
          go_ret
          have ht : l.take i' = l := List.take_of_length_le (by rw [← HL.out]; omega)
          have h := HNJ.out
          rw [ht] at h
          have hr := retStrs_nm h (x0.trans hxq)
          unfold freesR Tm.frees
          rw [HALL.out]
          exact hr
set_option maxRecDepth 8000 in
set_option maxHeartbeats 4000000 in
theorem ref7_exns (l : List Tm) (w : World) (a : Option Addr) (len cap : Nat) (hs : Tm.sizes l ≤ 100000) (h1 : len ≤ cap) (h2 : cap ≤ 9223372036854775807) (hl : IsTms w l a len) :
    Calls Tryd.prog 35 #[.slice a len cap] w (RetStrs (exnsR l) w) := by
  have HTL := Lib.hid hl
  have HL := Lib.hid hl.length
  clear hl
  obtain ⟨W0, hW0⟩ : ∃ W0, W0 = w.alloc (.cells #[] 9) := ⟨_, rfl⟩
  have x0 : Ext w W0 := by rw [hW0]; exact (Ext.refl _).alloc _
  have HN0 : Hid (Nm NoA W0 [] (some ⟨w.heap.size, 0, none⟩) 0 0) := Lib.hid (by rw [hW0]; exact Nm.zero w _)
  have HW0 := Lib.hid hW0
  clear hW0
  go_enter Tryd.func35, Tryd.ntmps35
  go_wp2_with fail
  rw [← HW0.out]
  go_loopg [11] len (fun g i wr => ∃ j : Nat, g = len - j ∧ j ≤ len ∧ i = .int .i64 j ∧ (∀ t, t ∈ l.take j → t.may = true) ∧ Ext W0 wr)
  case atStart => exact ⟨0, by omega, by omega, rfl, by simp, Ext.refl _⟩
  case round =>
    obtain ⟨j, rfl, hj, rfl, hmay, hx⟩ := hrel
    have HM := Lib.hid hmay
    clear hmay
    by_cases hlt : j < len
    · obtain ⟨x, k, b, o, ak, lenk, capk, g, rfl, hbo, hd, hq, hf, p1, p2, pl⟩ := HTL.out.at8 (x0.trans hx) hlt
      obtain ⟨c0, c1, c2, c3, c4, c5, c6⟩ := hd
      have hsz := Tm.size_at l j _ g
      have CM := Lib.hid (ref4_may (.mk x k) wr (tval x ak lenk capk) (IsTmA.mk_ pl p1 p2 hf) (by omega))
      have G := Lib.hid g
      unfold tval at CM
      clear pl hf g hsz
      cases hm : (Tm.mk x k).may
      all_goals
        rw [hm] at CM
        have HMM := Lib.hid hm
        clear hm
        go_wp2_with (go_at_call 29; refine (CM.out).mono ?_; rintro e w1 ⟨rfl, x1⟩)
      · go_ret
        refine ⟨_, 0, 0, rfl, Nat.le_refl _, by omega, ?_, (x0.trans (hx.trans x1)).alloc _⟩
        have : l.all Tm.may = false := List.all_eq_false.2 ⟨_, List.mem_of_getElem? G.out, by rw [HMM.out]; simp⟩
        unfold exnsR
        rw [this]
        exact IsRow.nil _ _
      · go_roundg (len - (j + 1))
        case rel =>
          refine ⟨j + 1, rfl, by omega, by go_num, ?_, hx.trans x1⟩
          intro t ht
          rw [List.take_add_one, G.out] at ht
          simp only [List.mem_append, Option.toList_some, List.mem_singleton] at ht
          rcases ht with ht | rfl
          · exact HM.out t ht
          · exact HMM.out
        case measure => omega
    · obtain rfl : j = len := by omega
      have hall : l.all Tm.may = true := by
        have h := HM.out
        rw [List.take_of_length_le (by rw [← HL.out]; omega)] at h
        exact List.all_eq_true.2 h
      have HALL := Lib.hid hall
      clear hall HM
      go_wp2_with fail
      go_loopg [3, 24] j (fun g s i wq => ∃ (i' : Nat) (pj : Addr) (nj cj : Nat), g = j - i' ∧ i' ≤ j ∧ s = .slice (some pj) nj cj ∧ i = .int .i64 i' ∧ Nm NoA wq (puts [] ((l.take i').flatMap fun t => exnsOf t.all)) (some pj) nj cj ∧ Ext W0 wq)
      case atStart => exact ⟨0, _, _, _, by omega, by omega, rfl, rfl, by simpa [puts_nil] using HN0.out.ext hx, hx⟩
      case round =>
        obtain ⟨i', pj, nj, cj, rfl, hi', rfl, rfl, hnj, hxq⟩ := hrel
        have HNJ := Lib.hid hnj
        clear hnj
        by_cases hlt2 : i' < j
        · obtain ⟨x, k, b, o, ak, lenk, capk, g, rfl, hbo, hd, hq, hf, p1, p2, pl⟩ := HTL.out.at8 (x0.trans hxq) hlt2
          obtain ⟨c0, c1, c2, c3, c4, c5, c6⟩ := hd
          have hsz := Tm.sizes_take_succ l i' _ g
          have hst := Tm.sizes_take_le l (i' + 1)
          have hel := exns_len l i'
          have HSU := Lib.hid (show puts [] ((l.take (i' + 1)).flatMap fun t => exnsOf t.all) = puts (puts [] ((l.take i').flatMap fun t => exnsOf t.all)) (exnsOf (Tm.mk x k).all) from by rw [flat_succ (fun t : Tm => exnsOf t.all) l i' _ g, puts_append])
          have hpos := (Tm.mk x k).size_pos
          have KA := Lib.hid (ref4_all _ (.mk x k) wr wr (tval x ak lenk capk) (Nat.le_refl _) (by omega) (Ext.refl _) (IsTmA.mk_ pl p1 p2 hf))
          unfold tval at KA
          have HAL := Lib.hid (Tm.all_length (.mk x k))
          have hel2 : (puts [] ((l.take i').flatMap fun t => exnsOf t.all)).length + (Tm.mk x k).size ≤ 100000 := by omega
          generalize puts [] ((l.take i').flatMap fun t => exnsOf t.all) = o1 at *
          generalize (Tm.mk x k).all = al at *
          generalize (Tm.mk x k).size = sz at *
          clear pl hf g hsz hst hel
          go_wp2_with (go_at_call 30; refine (KA.out).mono ?_; rintro e w1 ⟨v2, ys, rfl, ho2, hf2, x1⟩; rw [HAL.out] at ho2; obtain ⟨g2, cap2, rfl, hg2, hl2, hn2, hm2, hcells⟩ := owns_open ho2 hpos; have HT2 := Lib.hid ((hf2.ext x1).tms g2 0 (fun j u hu => by simpa using hcells j u hu)); clear ho2 hf2 hcells)
          go_loopg [3, 34] sz (fun g s i wz => ∃ (q : Nat) (pq : Addr) (nq cq : Nat), g = sz - q ∧ q ≤ sz ∧ s = .slice (some pq) nq cq ∧ i = .int .i64 q ∧ Nm NoA wz (puts o1 (exnsOf (al.take q))) (some pq) nq cq ∧ Ext w1 wz)
          case atStart => exact ⟨0, _, _, _, by omega, by omega, rfl, rfl, by simpa [puts_nil, exnsOf] using HNJ.out.ext x1, Ext.refl _⟩
          case round =>
            obtain ⟨q, pq, nq, cq, rfl, hq', rfl, rfl, hnq, hxz⟩ := hrel
            have HNQ := Lib.hid hnq
            clear hnq
            by_cases hlt3 : q < sz
            · obtain ⟨y, ky, b', o', ak', lenk', capk', g, e, hbo', hd', hqy, hfy, p1', p2', pl'⟩ := HT2.out.at8 hxz (i := q) (by rw [HAL.out]; exact hlt3)
              simp at e
              obtain ⟨rfl, rfl⟩ := e
              obtain ⟨e0, e1, e2, e3, e4, e5, e6⟩ := hd'
              simp only [Nat.zero_add] at e0 e1 e2 e3 e4 e5 e6 hqy
              have HES : Hid (exnsOf (al.take (q + 1)) = exnsOf (al.take q) ++ (if names_ [] y then [y.exn] else [])) := Lib.hid (exnsOf_succ al q _ g)
              have hplen := puts_length (exnsOf (al.take q)) o1
              have hxl := exnsOf_length (al.take q)
              have htl : (al.take q).length ≤ q := by rw [List.length_take]; omega
              have KP := Lib.hid fun W (h : Ext wr W) => ref7_put (A := NoA) (puts o1 (exnsOf (al.take q))) y.exn W pq nq cq (HNQ.out.ext h) (fun _ h => h.elim) (by omega)
              have HNM : Hid (names_ [] y = (y.k == 15 || y.k == 16)) := rfl
              clear g pl' hfy hplen hxl htl
              cases h15 : (y.k == 15)
              · cases h16 : (y.k == 16)
                all_goals
                  rw [h15, h16] at HNM
                  rw [HNM.out] at HES
                  go_wp2_with (go_at_call 69; refine (KP.out _ (by (repeat (first | exact Ext.refl _ | assumption | refine Ext.alloc ?_ _ | refine Ext.drew ?_ | refine Ext.setCell ?_ (by first | (simp; done) | (simp; omega) | omega) _ | refine Ext.trans ?_ (by assumption))))).mono ?_; rintro e w3 ⟨p3, n3, c3', rfl, hn3, x3⟩; have HN3 := Lib.hid hn3; clear hn3)
                · go_roundg (sz - (q + 1))
                  case rel => exact ⟨q + 1, _, _, _, rfl, by omega, rfl, by go_num, by rw [HES.out]; simpa using HNQ.out, hxz⟩
                  case measure => omega
                · go_roundg (sz - (q + 1))
                  case rel => exact ⟨q + 1, _, _, _, rfl, by omega, rfl, by go_num, by rw [HES.out]; simpa [puts_append, puts_cons, puts_nil] using HN3.out, hxz.trans x3⟩
                  case measure => omega
              · rw [h15] at HNM
                rw [HNM.out] at HES
                go_wp2_with (go_at_call 69; refine (KP.out _ (by (repeat (first | exact Ext.refl _ | assumption | refine Ext.alloc ?_ _ | refine Ext.drew ?_ | refine Ext.setCell ?_ (by first | (simp; done) | (simp; omega) | omega) _ | refine Ext.trans ?_ (by assumption))))).mono ?_; rintro e w3 ⟨p3, n3, c3', rfl, hn3, x3⟩; have HN3 := Lib.hid hn3; clear hn3)
                go_roundg (sz - (q + 1))
                case rel => exact ⟨q + 1, _, _, _, rfl, by omega, rfl, by go_num, by rw [HES.out]; simpa [puts_append, puts_cons, puts_nil] using HN3.out, hxz.trans x3⟩
                case measure => omega
            · obtain rfl : q = sz := by omega
              have hta : al.take q = al := List.take_of_length_le (by rw [HAL.out]; omega)
              have hnz := HNQ.out
              rw [hta] at hnz
              have HNZ := Lib.hid hnz
              clear hnz hta
              go_wp2_with fail
              go_roundg (j - (i' + 1))
              case rel => exact ⟨i' + 1, _, _, _, rfl, by omega, rfl, by go_num, by rw [HSU.out]; exact HNZ.out, hxq.trans (x1.trans hxz)⟩
              case measure => omega
        · obtain rfl : i' = j := by omega
          go_wp2_with fail
          go_ret
          have ht : l.take i' = l := List.take_of_length_le (by rw [← HL.out]; omega)
          have h := HNJ.out
          rw [ht] at h
          have hr := retStrs_nm h (x0.trans hxq)
          unfold exnsR Tm.exns
          rw [HALL.out]
          exact hr
end Go.Proofs.YtmomahgedheekaaDoor

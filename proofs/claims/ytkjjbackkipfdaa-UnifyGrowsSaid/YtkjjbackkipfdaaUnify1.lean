/- A book in memory. The walks of package unify: Vars, Fresh, has, knows. -/
import Derived.Test.YtkjjbackkipfdaaMemU
import Derived.Test.YtkjjbackkipfdaaTypes2
import Derived.Test.YtkjjbackkipfdaaRef08
import Derived.Test.YtkjjbackkipfdaaPureU11
namespace Go.Proofs.Ytkjjbackkipfdaa
open Go Go.RowKit Go.Sort
variable {A : Nat → Prop}

/-- A book: how many variables, and a map's block. -/
structure BookAtA (A : Nat → Prop) (w : World) (bb mb n : Nat) (S : St) : Prop where
  blk : Blk w bb 58 #[.int .i64 (n : Nat), .map (some mb)]
  map : MapAtA A Try.prog 3 w mb n S
  small : n ≤ 1000000
abbrev BookAt (w : World) (bb mb n : Nat) (S : St) : Prop := BookAtA NoA w bb mb n S
theorem BookAtA.any {w : World} {bb mb n : Nat} {S : St} (h : BookAtA A w bb mb n S) : BookAt w bb mb n S := ⟨h.blk, h.map.any, h.small⟩
theorem BookAtA.ext {w w' : World} {bb mb n : Nat} {S : St} (h : BookAtA A w bb mb n S) (hx : Ext w w') : BookAtA A w' bb mb n S := ⟨h.blk.ext hx, h.map.ext hx, h.small⟩
theorem BookAtA.ne {w : World} {bb mb n : Nat} {S : St} (h : BookAtA A w bb mb n S) : bb ≠ mb := by
  obtain ⟨es, c, hb⟩ := h.map.block
  rintro rfl
  have := h.blk
  unfold Blk at this
  rw [hb] at this
  cases this
theorem BookAtA.c0 {w : World} {bb mb n : Nat} {S : St} (h : BookAtA A w bb mb n S) : w.cell? ⟨bb, 0, none⟩ = some (.int .i64 (n : Nat)) := by have := h.blk.cell 0; simpa using this
theorem BookAtA.c1 {w : World} {bb mb n : Nat} {S : St} (h : BookAtA A w bb mb n S) : w.cell? ⟨bb, 1, none⟩ = some (.map (some mb)) := by have := h.blk.cell 1; simpa using this
/-- The map has turned. -/
theorem BookAtA.turn {w w' : World} {bb mb n : Nat} {S S' : St} (h : BookAtA A w bb mb n S) (hx : ExtX (· = mb) w w') (hM : MapAtA A Try.prog 3 w' mb n S') : BookAtA A w' bb mb n S' :=
  ⟨(hx.block bb h.blk.lt h.ne).trans h.blk, hM, h.small⟩
/-- Types lie in no book. -/
theorem BookAtA.off {w : World} {bb mb n : Nat} {S : St} (h : BookAtA A w bb mb n S) {A : Nat → Prop} {t : Ty} {v : Value} (ht : IsTyA A w t v) : IsTyA (fun j => A j ∨ (j = bb ∨ j = mb)) w t v :=
  ht.offB (B := fun j => j = bb ∨ j = mb) fun p u hp hc k => by
    rcases hp with hp | hp
    · obtain ⟨b, o, sp⟩ := p
      have hp : b = bb := hp
      subst hp
      have hsp := cell_spot hc
      have hsp : sp = none := hsp
      subst hsp
      rw [h.blk.cell o] at hc
      match o, hc with
      | 0, hc => simp at hc; subst hc; simp
      | 1, hc => simp at hc; subst hc; simp
      | o + 2, hc => simp at hc
    · obtain ⟨es, c, hb⟩ := h.map.block
      exact absurd hp (map_nocell hb hc)
theorem BookAtA.tysOff {w : World} {bb mb n : Nat} {S : St} (h : BookAtA A w bb mb n S) {A : Nat → Prop} {l : List Ty} {a : Option Addr} {len : Nat} (ht : IsTysA A w l a len) : IsTysA (fun j => A j ∨ (j = bb ∨ j = mb)) w l a len :=
  ht.offB (B := fun j => j = bb ∨ j = mb) fun p u hp hc k => by
    rcases hp with hp | hp
    · obtain ⟨b, o, sp⟩ := p
      have hp : b = bb := hp
      subst hp
      have hsp := cell_spot hc
      have hsp : sp = none := hsp
      subst hsp
      rw [h.blk.cell o] at hc
      match o, hc with
      | 0, hc => simp at hc; subst hc; simp
      | 1, hc => simp at hc; subst hc; simp
      | o + 2, hc => simp at hc
    · obtain ⟨es, c, hb⟩ := h.map.block
      exact absurd hp (map_nocell hb hc)
/-- A type is kept where a book turns. -/
theorem BookAtA.keep {w w' : World} {bb mb n : Nat} {S : St} (h : BookAtA A w bb mb n S) (hx : ExtX (fun j => j = bb ∨ j = mb) w w') {B : Nat → Prop} {t : Ty} {v : Value} (ht : IsTyA B w t v) : IsTyA B w' t v :=
  (h.off ht).move (fun _ _ h => .inl h) fun _ _ hp hv => hx.cell (fun e => hp (.inr e)) hv
theorem BookAtA.keeps {w w' : World} {bb mb n : Nat} {S : St} (h : BookAtA A w bb mb n S) (hx : ExtX (fun j => j = bb ∨ j = mb) w w') {B : Nat → Prop} {l : List Ty} {a : Option Addr} {len : Nat} (ht : IsTysA B w l a len) : IsTysA B w' l a len :=
  (h.tysOff ht).move (fun _ _ h => .inl h) fun _ _ hp hv => hx.cell (fun e => hp (.inr e)) hv
set_option maxHeartbeats 1000000 in
theorem book_vars {w : World} {bb mb n : Nat} {S : St} (h : BookAtA A w bb mb n S) : Calls Try.prog 20 #[.pointer (some ⟨bb, 0, none⟩)] w fun e w' => e = .returned (.int .i64 (n : Nat)) ∧ Ext w w' := by
  have c0 := h.c0
  clear h
  go_enter Try.func20, Try.ntmps20
  go_wp2_with fail
  go_ret
  exact ⟨rfl, by (exact eX)⟩
set_option maxHeartbeats 1000000 in
theorem nil_vars (w : World) : Calls Try.prog 20 #[.pointer none] w fun e w' => e = .returned (.int .i64 ((0 : Nat) : Int)) ∧ Ext w w' := by
  go_enter Try.func20, Try.ntmps20
  go_wp2_with fail
  go_ret
  exact ⟨rfl, by (exact eX)⟩
/-- A book, or none: how many variables it tells. -/
def Tells1 (pv : Value) (n : Nat) (w : World) : Prop := ∀ W, Ext w W → Calls Try.prog 20 #[pv] W fun e w' => e = .returned (.int .i64 (n : Nat)) ∧ Ext W w'
theorem BookAtA.vars {w : World} {bb mb n : Nat} {S : St} (h : BookAtA A w bb mb n S) : Tells1 (.pointer (some ⟨bb, 0, none⟩)) n w := fun _ hx => book_vars (h.ext hx)
theorem nil_tells (w : World) : Tells1 (.pointer none) 0 w := fun W _ => nil_vars W
theorem Tells1.ext {pv : Value} {n : Nat} {w w' : World} (h : Tells1 pv n w) (hx : Ext w w') : Tells1 pv n w' := fun W k => h W (hx.trans k)
theorem within_mk {n v k : Int} {l : List Ty} : (Ty.mk k v l).within n = (!(decide (k = 5) && decide (n ≤ v)) && Ty.withins n l) := by rw [Ty.within]
theorem withins_no {n : Int} {l : List Ty} {j : Nat} {t : Ty} (h : l[j]? = some t) (ht : t.within n = false) : Ty.withins n l = false := by
  cases hw : Ty.withins n l with
  | false => rfl
  | true => have := (Ty.withins_iff n l).1 hw t (List.mem_of_getElem? h); rw [ht] at this; cases this
theorem take_in {l : List Ty} {j : Nat} {t : Ty} {p : Ty → Prop} (h : l[j]? = some t) (hp : ∀ u, u ∈ l.take j → p u) (ht : p t) : ∀ u, u ∈ l.take (j + 1) → p u := by
  intro u hu
  rw [List.take_add_one, h] at hu
  rcases List.mem_append.1 hu with hu | hu
  · exact hp u hu
  · simp at hu
    subst hu
    exact ht
set_option maxHeartbeats 2000000 in
theorem book_has (pv : Value) (n : Nat) (m : Nat) : ∀ (l : List Ty) (w : World) (a : Option Addr) (len cap : Nat), Ty.sizes l ≤ m → len ≤ cap → cap ≤ 9223372036854775807 → IsTys w l a len → Tells1 pv n w →
    Calls Try.prog 41 #[pv, .slice a len cap] w fun e w' => e = .returned (.bool (Ty.withins n l)) ∧ Ext w w' := by
  induction m with
  | zero =>
    intro l w a len cap hm h1 h2 hl hV
    have h0 := Ty.sizes_length l
    have hl0 := hl.length
    obtain rfl : len = 0 := by omega
    obtain rfl : l = [] := List.eq_nil_of_length_eq_zero (by omega)
    clear hl0 h0 hm hl
    go_enter Try.func41, Try.ntmps41
    go_wp2_with fail
    go_loopg [9] 0 (fun g i wr => i = .int .i64 0 ∧ Ext w wr)
    case atStart => exact ⟨rfl, Ext.refl _⟩
    case round =>
      obtain ⟨rfl, hx⟩ := hrel
      go_wp2_with fail
      go_ret
      exact ⟨rfl, hx⟩
  | succ m ih =>
    intro l w a len cap hm h1 h2 hl hV
    have HL := Lib.hid hl.length
    have HYES : Hid ((∀ u, u ∈ l → u.within n = true) → Ty.withins n l = true) := Lib.hid (Ty.withins_iff n l).2
    have HV := Lib.hid hV
    clear hV
    go_enter Try.func41, Try.ntmps41
    go_wp2_with fail
    go_loopg [9] len (fun g i wr => ∃ j : Nat, g = len - j ∧ j ≤ len ∧ i = .int .i64 j ∧ (∀ u, u ∈ l.take j → u.within n = true) ∧ Ext w wr)
    case atStart => exact ⟨0, by omega, by omega, rfl, by simp, Ext.refl _⟩
    case round =>
      obtain ⟨j, rfl, hj, rfl, hall, hx⟩ := hrel
      have HALL := Lib.hid hall
      clear hall
      by_cases hlt : j < len
      · obtain ⟨t, b, o, c0, c1, c2, g, rfl, q0, q1, q2, qt⟩ := hl.at3 hx hlt
        have hsz := Ty.size_at l j t g
        have HG := Lib.hid g
        clear g
        obtain ⟨k, v, l'⟩ := t
        obtain ⟨a', len', cap', e, g1, g2, _, _, _, _, gl⟩ := qt.open_
        simp at e
        obtain ⟨rfl, rfl, rfl⟩ := e
        simp only [Ty.size] at hsz
        have b0 := cells_regrown (w := wr.alloc (.cells #[.int .u8 k, .int .i64 v, .slice a' len' cap'] 25)) (p := ⟨wr.heap.size, 0, none⟩) (v := .int .u8 k) (by simp [go_sem])
        have b1 := cells_regrown (w := wr.alloc (.cells #[.int .u8 k, .int .i64 v, .slice a' len' cap'] 25)) (p := ⟨wr.heap.size, 1, none⟩) (v := .int .i64 v) (by simp [go_sem])
        have b2 := cells_regrown (w := wr.alloc (.cells #[.int .u8 k, .int .i64 v, .slice a' len' cap'] 25)) (p := ⟨wr.heap.size, 2, none⟩) (v := .slice a' len' cap') (by simp [go_sem])
        have cV := quiet_ext (w := wr.alloc (.cells #[.int .u8 k, .int .i64 v, .slice a' len' cap'] 25)) fun w1 h1 => HV.out w1 ((hx.alloc _).trans h1)
        have cH := quiet_ext (w := wr.alloc (.cells #[.int .u8 k, .int .i64 v, .slice a' len' cap'] 25)) fun w1 h1 => ih l' w1 _ _ _ (by omega) g1 g2 (gl.ext (((Ext.refl wr).alloc _).trans h1)) (HV.out.ext ((hx.alloc _).trans h1))
        have HW : Hid ((Ty.mk k v l').within n = (!(decide (k = 5) && decide ((n : Int) ≤ v)) && Ty.withins n l')) := Lib.hid within_mk
        generalize Ty.withins n l' = wk at *
        clear hsz qt gl
        have hc : (k = 5 ∧ (n : Int) ≤ v) ∨ (k = 5 ∧ ¬ (n : Int) ≤ v) ∨ k ≠ 5 := by omega
        rcases hc with ⟨rfl, hv⟩ | ⟨rfl, hv⟩ | h5
        · have HN := Lib.hid (withins_no HG.out (by rw [HW.out]; simp [hv]))
          go_wp2_with fail
          refine wp_region_quiet_below (by kernel_rfl) (by kernel_rfl) ?_
          repeat (go_big_quiet_step (first | exact cV _ _ | exact cH _ _))
          refine wpQuiet_nil ?_
          intro w1 hq_w1
          have x1 := ext_of_regrown hq_w1
          clear hq_w1
          go_wp2_with fail
          go_ret
          exact ⟨ret_bool HN.out.symm, (hx.alloc _).trans x1⟩
        · have hv2 : v < (n : Int) := by omega
          have hd : decide ((n : Int) ≤ v) = false := decide_eq_false hv
          cases wk with
          | false =>
            have HN := Lib.hid (withins_no HG.out (by rw [HW.out]; simp))
            go_wp2_with fail
            refine wp_region_quiet_below (by kernel_rfl) (by kernel_rfl) ?_
            repeat (go_big_quiet_step (first | exact cV _ _ | exact cH _ _))
            refine wpQuiet_nil ?_
            intro w1 hq_w1
            have x1 := ext_of_regrown hq_w1
            clear hq_w1
            go_wp2_with fail
            go_ret
            exact ⟨ret_bool HN.out.symm, (hx.alloc _).trans x1⟩
          | true =>
            have HN := Lib.hid (take_in (p := fun u => u.within n = true) HG.out HALL.out (by rw [HW.out]; simp; omega))
            go_wp2_with fail
            refine wp_region_quiet_below (by kernel_rfl) (by kernel_rfl) ?_
            repeat (go_big_quiet_step (first | exact cV _ _ | exact cH _ _))
            refine wpQuiet_nil ?_
            intro w1 hq_w1
            have x1 := ext_of_regrown hq_w1
            clear hq_w1
            go_wp2_with fail
            go_roundg (len - (j + 1))
            case rel => exact ⟨j + 1, rfl, by omega, by go_num, HN.out, (hx.alloc _).trans x1⟩
            case measure => omega
        · have h5b : (k == 5) = false := by simpa using h5
          cases wk with
          | false =>
            have HN := Lib.hid (withins_no HG.out (by rw [HW.out]; simp))
            go_wp2_with fail
            refine wp_region_quiet_below (by kernel_rfl) (by kernel_rfl) ?_
            repeat (go_big_quiet_step (first | exact cV _ _ | exact cH _ _))
            refine wpQuiet_nil ?_
            intro w1 hq_w1
            have x1 := ext_of_regrown hq_w1
            clear hq_w1
            go_wp2_with fail
            go_ret
            exact ⟨ret_bool HN.out.symm, (hx.alloc _).trans x1⟩
          | true =>
            have HN := Lib.hid (take_in (p := fun u => u.within n = true) HG.out HALL.out (by rw [HW.out]; simp [h5]))
            clear h5
            go_wp2_with fail
            refine wp_region_quiet_below (by kernel_rfl) (by kernel_rfl) ?_
            repeat (go_big_quiet_step (first | exact cV _ _ | exact cH _ _))
            refine wpQuiet_nil ?_
            intro w1 hq_w1
            have x1 := ext_of_regrown hq_w1
            clear hq_w1
            go_wp2_with fail
            go_roundg (len - (j + 1))
            case rel => exact ⟨j + 1, rfl, by omega, by go_num, HN.out, (hx.alloc _).trans x1⟩
            case measure => omega
      · obtain rfl : j = len := by omega
        have HN := Lib.hid (HYES.out fun u hu => HALL.out u (by rw [List.take_of_length_le (by rw [← HL.out]; omega)]; exact hu))
        go_wp2_with fail
        go_ret
        exact ⟨ret_bool HN.out.symm, hx⟩
set_option maxHeartbeats 2000000 in
theorem book_knows (pv : Value) (n : Nat) (l : List Ty) (w : World) (a : Option Addr) (len cap : Nat) (h1 : len ≤ cap) (h2 : cap ≤ 9223372036854775807) (hl : IsTys w l a len) (hV : Tells1 pv n w) :
    Calls Try.prog 29 #[pv, .slice a len cap] w fun e w' => e = .returned (.bool (knows n l)) ∧ Ext w w' := by
  have HL := Lib.hid hl.length
  have KH := Lib.hid fun W (h : Ext w W) => book_has pv n (Ty.sizes l) l W a len cap (Nat.le_refl _) h1 h2 (hl.ext h) (hV.ext h)
  have HYES : Hid ((∀ u, u ∈ l → u.may = true) → knows n l = Ty.withins n l) := Lib.hid fun h => by
    rw [Bool.eq_iff_iff, Ty.withins_iff]
    unfold knows knows1
    rw [List.all_eq_true]
    exact ⟨fun g t ht => by have := g t ht; rw [Bool.and_eq_true] at this; exact this.2, fun g t ht => by rw [Bool.and_eq_true]; exact ⟨h t ht, g t ht⟩⟩
  have HNO : Hid (∀ (j : Nat) t, l[j]? = some t → t.may = false → knows n l = false) := Lib.hid fun j t hj ht => by
    cases hk : knows n l with
    | false => rfl
    | true =>
      unfold knows knows1 at hk
      have := List.all_eq_true.1 hk t (List.mem_of_getElem? hj)
      rw [ht] at this
      cases this
  generalize knows n l = kn at *
  clear hV
  go_enter Try.func29, Try.ntmps29
  go_wp2_with fail
  go_loopg [9] len (fun g i wr => ∃ j : Nat, g = len - j ∧ j ≤ len ∧ i = .int .i64 j ∧ (∀ u, u ∈ l.take j → u.may = true) ∧ Ext w wr)
  case atStart => exact ⟨0, by omega, by omega, rfl, by simp, Ext.refl _⟩
  case round =>
    obtain ⟨j, rfl, hj, rfl, hall, hx⟩ := hrel
    have HALL := Lib.hid hall
    clear hall
    by_cases hlt : j < len
    · obtain ⟨t, b, o, c0, c1, c2, g, rfl, q0, q1, q2, qt⟩ := hl.at3 hx hlt
      have KM := Lib.hid fun W (h : Ext wr W) => types_may t W (.agg #[c0, c1, c2]) (qt.ext h)
      have HG := Lib.hid g
      clear g
      obtain ⟨k, v, l'⟩ := t
      obtain ⟨a', len', cap', e, -, -, -, -, -, -, -⟩ := qt.open_
      simp at e
      obtain ⟨rfl, rfl, rfl⟩ := e
      clear qt
      cases hm : (Ty.mk k v l').may with
      | false =>
        have HN := Lib.hid (HNO.out j _ HG.out hm)
        rw [hm] at KM
        clear hm
        go_wp2_with (go_at_call 40; refine (KM.out _ (by (exact eX))).mono ?_; rintro e w1 ⟨rfl, x1⟩)
        go_ret
        exact ⟨ret_bool HN.out.symm, (hx.alloc _).trans x1⟩
      | true =>
        have HN := Lib.hid (take_in (p := fun u => u.may = true) HG.out HALL.out hm)
        rw [hm] at KM
        clear hm
        go_wp2_with (go_at_call 40; refine (KM.out _ (by (exact eX))).mono ?_; rintro e w1 ⟨rfl, x1⟩)
        go_roundg (len - (j + 1))
        case rel => exact ⟨j + 1, rfl, by omega, by go_num, HN.out, (hx.alloc _).trans x1⟩
        case measure => omega
    · obtain rfl : j = len := by omega
      have HN := Lib.hid (HYES.out fun u hu => HALL.out u (by rw [List.take_of_length_le (by rw [← HL.out]; omega)]; exact hu))
      go_wp2_with (go_at_call 41; refine (KH.out _ hx).mono ?_; rintro e w1 ⟨rfl, x1⟩)
      go_ret
      exact ⟨ret_bool HN.out.symm, hx.trans x1⟩
end Go.Proofs.Ytkjjbackkipfdaa

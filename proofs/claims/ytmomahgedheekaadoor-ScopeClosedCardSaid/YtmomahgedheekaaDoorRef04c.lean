/- The walks of enclaveref04: All, May. -/
import Derived.Test.YtmomahgedheekaaDoorRef04b
import Derived.Test.YtmomahgedheekaaDoorAppend
import Derived.OwnWalk
namespace Go.Proofs.YtmomahgedheekaaDoor
open Go Go.RowKit Go.Sort

/-- Terms' cells, one behind the other; their kids in memory. -/
def FlatTms (w : World) : List Tm → List Value → Prop
  | [], xs => xs = []
  | t :: l, xs => ∃ a len cap rest, xs = (tcells t.head a len cap).toList ++ rest ∧ t.head.Fits ∧ len ≤ cap ∧ cap ≤ maxLen ∧ IsTms w t.kids a len ∧ FlatTms w l rest
theorem FlatTms.append {w : World} {l l' : List Tm} {xs ys : List Value} (h : FlatTms w l xs) (h' : FlatTms w l' ys) : FlatTms w (l ++ l') (xs ++ ys) := by
  induction l generalizing xs with
  | nil => simp only [FlatTms] at h; subst h; simpa using h'
  | cons t l ih =>
    simp only [FlatTms, List.cons_append] at h ⊢
    obtain ⟨a, len, cap, rest, rfl, hf, h1, h2, hk, hr⟩ := h
    exact ⟨a, len, cap, rest ++ ys, by simp, hf, h1, h2, hk, ih hr⟩
theorem FlatTms.length {w : World} {l : List Tm} {xs : List Value} (h : FlatTms w l xs) : xs.length = l.length * 8 := by
  induction l generalizing xs with
  | nil => simp only [FlatTms] at h; subst h; rfl
  | cons t l ih =>
    simp only [FlatTms] at h
    obtain ⟨a, len, cap, rest, rfl, hf, h1, h2, hk, hr⟩ := h
    rw [List.length_append, ih hr]
    simp [tcells]
    omega
theorem FlatTms.one {w : World} {l : List Tm} {xs : List Value} (h : FlatTms w l xs) : ∀ u ∈ xs, u.oneCell' = true := by
  induction l generalizing xs with
  | nil => simp only [FlatTms] at h; subst h; simp
  | cons t l ih =>
    simp only [FlatTms] at h
    obtain ⟨a, len, cap, rest, rfl, hf, h1, h2, hk, hr⟩ := h
    intro u hu
    rcases List.mem_append.1 hu with hu | hu
    · simp [tcells] at hu
      rcases hu with rfl | rfl | rfl | rfl | rfl | rfl | rfl | rfl <;> rfl
    · exact ih hr u hu
theorem FlatTms.ext {w w' : World} (hx : Ext w w') {l : List Tm} {xs : List Value} (h : FlatTms w l xs) : FlatTms w' l xs := by
  induction l generalizing xs with
  | nil => simpa only [FlatTms] using h
  | cons t l ih =>
    simp only [FlatTms] at h ⊢
    obtain ⟨a, len, cap, rest, rfl, hf, h1, h2, hk, hr⟩ := h
    exact ⟨a, len, cap, rest, rfl, hf, h1, h2, hk.ext hx, ih hr⟩
/-- Such cells in memory are a row of terms. -/
theorem FlatTms.tms {w : World} {l : List Tm} {xs : List Value} (h : FlatTms w l xs) (b o : Nat) (hc : ∀ (j : Nat) u, xs[j]? = some u → w.cell? ⟨b, o + j, none⟩ = some u) : IsTms w l (some ⟨b, o, none⟩) l.length := by
  induction l generalizing xs o with
  | nil => exact IsTmsA.nil _
  | cons t l ih =>
    simp only [FlatTms] at h
    obtain ⟨a, len, cap, rest, rfl, hf, h1, h2, hk, hr⟩ := h
    obtain ⟨x, k⟩ := t
    have hrest := ih hr (o + 8) fun j u hu => by
      have := hc (8 + j) u (by
        rw [List.getElem?_append_right (by simp [tcells])]
        simpa [tcells] using hu)
      rw [show o + 8 + j = o + (8 + j) from by omega]
      exact this
    unfold IsTms IsTmsA
    refine ⟨by simp, b, o, rfl, fun h => h, ?_, by simpa using hrest⟩
    simp only [TmAt]
    exact ⟨⟨hc 0 _ rfl, hc 1 _ rfl, hc 2 _ rfl, hc 3 _ rfl, hc 4 _ rfl, hc 5 _ rfl, hc 6 _ rfl⟩, hf, a, len, cap, hc 7 _ rfl, h1, h2, hk⟩

/-- A call hands back a row of terms of its own. -/
def RetRow (w0 w : World) (l : List Tm) (e : Ending) (w' : World) : Prop := ∃ v xs, e = .returned v ∧ w'.ownsRow w.heap.size 41 8 v l.length xs ∧ FlatTms w0 l xs ∧ Ext w w'
theorem infoTm : (Tryd.prog.info? 41).map (fun i => (i.zero, i.size, i.bytes)) = some (some (.agg #[.int .u8 0, .int .u8 0, .int .i64 0, .int .i64 0, .string ByteArray.empty, .string ByteArray.empty, .string ByteArray.empty, .slice none 0 0]), 8, 96) := by kernel_rfl

set_option maxRecDepth 8000 in
set_option maxHeartbeats 1000000 in
theorem ref4_all (m : Nat) : ∀ (t : Tm) (w0 w : World) (v : Value), t.size ≤ m → t.size ≤ 1000000 → Ext w0 w → IsTm w0 t v → Calls Tryd.prog 30 #[v] w (RetRow w0 w t.all) := by
  induction m with
  | zero => intro t w0 w v h; have := t.size_pos; omega
  | succ m ih =>
    intro t w0 w v hm hs h0 ht
    obtain ⟨x, l⟩ := t
    obtain ⟨a, len, cap, rfl, h1, h2, hf, hl⟩ := ht.open_
    simp only [Tm.size] at hm hs
    have HL := Lib.hid hl.length
    have IH := Lib.hid ih
    have HTL := Lib.hid hl
    have HF := Lib.hid hf
    have H0 := Lib.hid h0
    obtain ⟨i0, hi, hz0, hz1, hz2⟩ := info_parts infoTm
    have HI := Lib.hid (And.intro hi (And.intro hz0 (And.intro hz1 hz2)))
    clear ih ht hf hl h0 hi hz0 hz1 hz2
    go_enter Tryd.func30, Tryd.ntmps30
    go_wp2_with fail
    go_loopg [3, 10] len (fun g vo i wr => ∃ (j : Nat) (xs : List Value), g = len - j ∧ j ≤ len ∧ i = .int .i64 j ∧ wr.ownsRow (w.heap.size + 1) 41 8 vo (1 + Tm.sizes (l.take j)) xs ∧ FlatTms w0 (.mk x l :: Tm.alls (l.take j)) xs ∧ Ext w wr ∧ wr.cell? ⟨w.heap.size, 7, none⟩ = some (.slice a len cap))
    case atStart =>
      refine ⟨0, (tcells x a len cap).toList, by omega, by omega, rfl, ?_, ?_, ((Ext.refl _).alloc _).alloc _, by simp [go_sem]⟩
      · have h := owns_new (w.alloc (.cells #[.int .u8 x.k, .int .u8 x.op, .int .i64 x.pos, .int .i64 x.n, .string x.name, .string x.arg, .string x.exn, .slice a len cap] 41)) (w.heap.size + 1) 41 8 1 (tcells x a len cap).toList (by simp) (by unfold maxLen; omega) rfl
        rw [World.size_alloc] at h
        exact h
      · simp only [List.take_zero, Tm.alls, FlatTms]
        exact ⟨a, len, cap, [], by simp [Tm.head], HF.out, h1, h2, HTL.out, rfl⟩
    case round =>
      obtain ⟨j, xs, rfl, hj, rfl, hown, hflat, hx, hc⟩ := hrel
      have HOWN := Lib.hid hown
      have HFLAT := Lib.hid hflat
      clear hown hflat
      by_cases hlt : j < len
      · obtain ⟨y, k, b, o, ak, lenk, capk, g, rfl, hbo, hd, hq, hfy, p1, p2, pl⟩ := HTL.out.at8 (Ext.refl w0) hlt
        obtain ⟨c0, c1, c2, c3, c4, c5, c6⟩ := hd.move fun i v q => (H0.out.trans hx).cell q
        have c7 := (H0.out.trans hx).cell hq
        have hsz := Tm.size_at l j _ g
        have HSS := Lib.hid (Tm.sizes_take_succ l j _ g)
        have HAS := Lib.hid (Tm.alls_take_succ l j _ g)
        have hle := Tm.sizes_take_le l (j + 1)
        have hss := HSS.out
        have hbound : 1 + Tm.sizes (l.take j) + (Tm.mk y k).size ≤ 1000001 := by omega
        have K := Lib.hid (IH.out (.mk y k) w0 wr (tval y ak lenk capk) (by omega) (by omega) (H0.out.trans hx) (IsTmA.mk_ pl p1 p2 hfy))
        have hposk := (Tm.mk y k).size_pos
        have hal := (Tm.mk y k).all_length
        have HAL := Lib.hid hal
        clear g pl hfy hd hq hss hle hal
        go_wp2_with (first | (at_builtin; refine wpList_append_own _ rfl (.tmp 13) (.tmp 19) 39 rfl (w.heap.size + 1) 41 i0 (.agg #[.int .u8 0, .int .u8 0, .int .i64 0, .int .i64 0, .string ByteArray.empty, .string ByteArray.empty, .string ByteArray.empty, .slice none 0 0]) 8 96 Tryd.underlying39 HI.out.1 HI.out.2.1 HI.out.2.2.1 HI.out.2.2.2 rfl (by decide) _ (1 + Tm.sizes (l.take j)) xs rfl (owns_ext x1 HOWN.out) ⟨g2, 0, none⟩ _ cap2 ys rfl ?c0 ?c1 ?c2 ?c3 ?c4 ?c5 ?_) | (go_at_call 30; refine (K.out).mono ?_; rintro e w1 ⟨v2, ys, rfl, ho2, hf2, x1⟩; rw [HAL.out] at ho2; obtain ⟨g2, cap2, rfl, hg2, hl2, hn2, hm2, hcells⟩ := owns_open ho2 hposk; have HF2 := Lib.hid hf2; have HC2 := Lib.hid hcells; clear ho2 hf2 hcells))
        case c0 => exact HF2.out.length.trans (by rw [HAL.out])
        case c1 =>
          intro i u hu
          rw [Addr.add_lit]
          simpa using HC2.out i u hu
        case c2 => exact HF2.out.one
        case c3 => unfold maxLen; omega
        case c4 => omega
        case c5 => have := x1.size; have := hx.size; have := block_lt_of_cell hc; simp at this; omega
        · intro v3 w3 hown3 hgrow _
          have hbase : ∀ k, Value.ownBlock _ = some k → w.heap.size ≤ k := fun k hk => Nat.le_trans (Nat.le_succ _) (HOWN.out.lt k hk).1
          have hx3 := ext_grown hgrow (hx.trans x1) hbase
          have hc3 := hgrow.cell (a := ⟨w.heap.size, 7, none⟩) (x1.cell hc) (fun e => by have := (HOWN.out.lt _ e.symm).1; simp at this; omega)
          have HO3 := Lib.hid hown3
          have HF3 := Lib.hid (HFLAT.out.append HF2.out)
          clear hown3 hgrow hbase
          go_wp2_with fail
          go_roundg (len - (j + 1))
          case rel =>
            refine ⟨j + 1, xs ++ ys, rfl, by omega, by go_num, ?_, ?_, hx3, hc3⟩
            · rw [HSS.out, ← Nat.add_assoc]; exact HO3.out
            · rw [HAS.out, ← List.cons_append]; exact HF3.out
          case measure => omega
      · obtain rfl : j = len := by omega
        have hall : l.take j = l := List.take_of_length_le (by rw [← HL.out]; omega)
        rw [hall] at HOWN HFLAT
        go_wp2_with fail
        refine bodyPost_ret (v := _) (by simp [results, Tryd.results30, go_sem]; rfl) rfl ⟨_, xs, rfl, ?_, HFLAT.out, hx⟩
        have := owns_base (Nat.le_succ _) HOWN.out
        rw [Tm.all_length]
        exact this

set_option maxRecDepth 8000 in
set_option maxHeartbeats 1000000 in
theorem ref4_may (t : Tm) (w : World) (v : Value) (ht : IsTm w t v) (hs : t.size ≤ 1000000) :
    Calls Tryd.prog 29 #[v] w fun e w' => e = .returned (.bool t.may) ∧ Ext w w' := by
  have K := Lib.hid fun W (h : Ext w W) => ref4_all t.size t w W v (Nat.le_refl _) hs h ht
  have HAL := Lib.hid t.all_length
  have hpos := t.size_pos
  have HM : Hid (t.may = (decide (t.size ≤ 4000) && t.all.all Tm.node)) := by
    show _ = _
    cases t
    rfl
  generalize t.may = res at *
  generalize t.all = al at *
  generalize t.size = sz at *
  obtain ⟨x, l⟩ := t
  obtain ⟨a, len, cap, rfl, h1, h2, hf, hl⟩ := ht.open_
  clear ht hf hl
  by_cases h4 : sz ≤ 4000
  · have hd : decide ((4000 : Int) < (sz : Int)) = false := by simp; omega
    rw [decide_eq_true h4] at HM
    go_enter Tryd.func29, Tryd.ntmps29
    go_wp2_with (go_at_call 30; refine (K.out _ ((Ext.refl _).alloc _)).mono ?_; rintro e w1 ⟨v2, ys, rfl, ho2, hf2, x1⟩; rw [HAL.out] at ho2; obtain ⟨g2, cap2, rfl, hg2, hl2, hn2, hm2, hcells⟩ := owns_open ho2 hpos; have HT2 := Lib.hid ((hf2.ext (((Ext.refl w).alloc _).trans x1)).tms g2 0 (fun j u hu => by simpa using hcells j u hu)); clear ho2 hf2 hcells)
    go_loopg [12] sz (fun g i wr => ∃ j : Nat, g = sz - j ∧ j ≤ sz ∧ i = .int .i64 j ∧ (∀ t, t ∈ al.take j → t.node = true) ∧ Ext w1 wr)
    case atStart => exact ⟨0, by omega, by omega, rfl, by simp, Ext.refl _⟩
    case round =>
      obtain ⟨j, rfl, hj, rfl, hto, hx⟩ := hrel
      have HT := Lib.hid hto
      clear hto
      by_cases hlt : j < sz
      · obtain ⟨y, k, b, o, ak, lenk, capk, g, e, hbo, hd, hq, hfy, p1, p2, pl⟩ := HT2.out.at8 hx (i := j) (by rw [HAL.out]; exact hlt)
        simp at e
        obtain ⟨rfl, rfl⟩ := e
        obtain ⟨c0, c1, c2, c3, c4, c5, c6⟩ := hd
        simp only [Nat.zero_add] at c0 c1 c2 c3 c4 c5 c6 hq
        have KN := Lib.hid (ref4_node (.mk y k) wr (tval y ak lenk capk) (IsTmA.mk_ pl p1 p2 hfy))
        have G := Lib.hid g
        clear g pl hfy
        cases hr : Tm.node (.mk y k)
        all_goals
          rw [hr] at KN
          have HR := Lib.hid hr
          clear hr
          go_wp2_with (go_at_call 63; refine (KN.out).mono ?_; rintro e w2 ⟨rfl, x2⟩)
        · go_ret
          refine ⟨ret_bool ?_, (((Ext.refl w).alloc _).trans x1).trans (hx.trans x2)⟩
          have : al.all Tm.node = false := by
            rw [List.all_eq_false]
            exact ⟨_, List.mem_of_getElem? G.out, by rw [HR.out]; simp⟩
          rw [HM.out, this]
          rfl
        · go_roundg (sz - (j + 1))
          case rel =>
            refine ⟨j + 1, rfl, by omega, by go_num, ?_, hx.trans x2⟩
            intro t ht
            rw [List.take_add_one, G.out] at ht
            simp only [List.mem_append, Option.toList_some, List.mem_singleton] at ht
            rcases ht with ht | rfl
            · exact HT.out t ht
            · exact HR.out
          case measure => omega
      · obtain rfl : j = sz := by omega
        go_wp2_with fail
        go_ret
        refine ⟨ret_bool ?_, (((Ext.refl w).alloc _).trans x1).trans hx⟩
        have h0 := HT.out
        rw [List.take_of_length_le (by rw [HAL.out]; omega)] at h0
        have : al.all Tm.node = true := List.all_eq_true.2 h0
        rw [HM.out, this]
        rfl
  · have hd : decide ((4000 : Int) < (sz : Int)) = true := by simp; omega
    rw [decide_eq_false h4] at HM
    go_enter Tryd.func29, Tryd.ntmps29
    go_wp2_with (go_at_call 30; refine (K.out _ ((Ext.refl _).alloc _)).mono ?_; rintro e w1 ⟨v2, ys, rfl, ho2, hf2, x1⟩; rw [HAL.out] at ho2; obtain ⟨g2, cap2, rfl, hg2, hl2, hn2, hm2, hcells⟩ := owns_open ho2 hpos; clear ho2 hf2 hcells)
    go_ret
    exact ⟨ret_bool (by rw [HM.out]; rfl), ((Ext.refl w).alloc _).trans x1⟩
end Go.Proofs.YtmomahgedheekaaDoor

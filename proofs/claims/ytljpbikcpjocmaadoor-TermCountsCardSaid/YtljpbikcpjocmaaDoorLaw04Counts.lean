/- The walk of the law TermCounts. -/
import Derived.Test.YtljpbikcpjocmaaDoorAw04
import Derived.Test.YtljpbikcpjocmaaDoorTermK
namespace Go.Proofs.YtljpbikcpjocmaaDoor
open Go Go.RowKit Go.Sort

/-- More terms than are gone through. -/
def greats (l : List Tm) : Bool := decide (20 < l.length) || l.any Tm.great

set_option maxRecDepth 8000 in
set_option maxHeartbeats 1000000 in
theorem law04_great (l : List Tm) (w : World) (a : Option Addr) (len cap : Nat) (h1 : len ≤ cap) (h2 : cap ≤ 9223372036854775807) (hl : IsTms w l a len) :
    Calls Tryd.prog 25 #[.slice a len cap] w fun e w' => e = .returned (.bool (greats l)) ∧ Ext w w' := by
  have HL := Lib.hid hl.length
  have HG : Hid (greats l = (decide (20 < l.length) || l.any Tm.great)) := rfl
  by_cases h20 : 20 < len
  · have hd : decide ((20 : Int) < (len : Int)) = true := by simp; omega
    have hres : greats l = true := by rw [HG.out, ← HL.out, decide_eq_true h20]; rfl
    have HR := Lib.hid hres
    clear hres hl
    go_enter Tryd.func25, Tryd.ntmps25
    go_wp2_with fail
    go_ret
    exact ⟨ret_bool HR.out.symm, Ext.refl _⟩
  have hd : decide ((20 : Int) < (len : Int)) = false := by simp; omega
  have hres : greats l = l.any Tm.great := by rw [HG.out, ← HL.out, decide_eq_false h20]; rfl
  have HR := Lib.hid hres
  clear hres h20
  go_enter Tryd.func25, Tryd.ntmps25
  go_wp2_with fail
  go_loopg [3] len (fun g i wr => ∃ j : Nat, g = len - j ∧ j ≤ len ∧ i = .int .i64 j ∧ (∀ t, t ∈ l.take j → t.great = false) ∧ Ext w wr)
  case atStart => exact ⟨0, by omega, by omega, rfl, by simp, Ext.refl _⟩
  case round =>
    obtain ⟨j, rfl, hj, rfl, hto, hx⟩ := hrel
    have HT := Lib.hid hto
    clear hto
    by_cases hlt : j < len
    · obtain ⟨x, k, b, o, ak, lenk, capk, g, rfl, hbo, hdd, hq, hf, p1, p2, pl⟩ := hl.at8 hx hlt
      obtain ⟨c0, c1, c2, c3, c4, c5, c6⟩ := hdd
      have K := Lib.hid (ref4_great (.mk x k) wr (tval x ak lenk capk) (IsTmA.mk_ pl p1 p2 hf))
      have G := Lib.hid g
      clear g pl hf
      cases hr : Tm.great (.mk x k)
      all_goals
        rw [hr] at K
        have HX := Lib.hid hr
        clear hr
        go_wp2_with (go_at_call 19; refine (K.out).mono ?_; rintro e w1 ⟨rfl, x1⟩)
      · go_roundg (len - (j + 1))
        case rel =>
          refine ⟨j + 1, rfl, by omega, by go_num, ?_, hx.trans x1⟩
          intro y hy
          rw [List.take_add_one, G.out] at hy
          simp only [List.mem_append, Option.toList_some, List.mem_singleton] at hy
          rcases hy with hy | rfl
          · exact HT.out y hy
          · exact HX.out
        case measure => omega
      · go_ret
        exact ⟨ret_bool (by rw [HR.out]; exact (List.any_eq_true.2 ⟨_, List.mem_of_getElem? G.out, HX.out⟩).symm), hx.trans x1⟩
    · obtain rfl : j = len := by omega
      go_wp2_with fail
      go_ret
      have h0 := HT.out
      rw [List.take_of_length_le (by rw [← HL.out]; omega)] at h0
      exact ⟨ret_bool (by rw [HR.out]; symm; rw [List.any_eq_false]; intro t ht; rw [h0 t ht]; simp), hx⟩

theorem greats_false {l : List Tm} (h : greats l = false) : l.length ≤ 20 ∧ ∀ t, t ∈ l → t.size ≤ 400 := by
  unfold greats at h
  rw [Bool.or_eq_false_iff, decide_eq_false_iff_not, List.any_eq_false] at h
  exact ⟨by omega, fun t ht => (Tm.not_great (Bool.eq_false_iff.2 (h.2 t ht))).1⟩
theorem sizes_bound (l : List Tm) (h : ∀ t, t ∈ l → t.size ≤ 400) : Tm.sizes l ≤ 400 * l.length := by
  induction l with
  | nil => simp [Tm.sizes]
  | cons t l ih =>
    have h1 := h t (by simp)
    have h2 := ih fun t ht => h t (by simp [ht])
    simp only [Tm.sizes, List.length_cons]
    omega
/-- A row that a slice owns, or none: its terms. -/
theorem owns_tms {w : World} {base n : Nat} {v : Value} {xs : List Value} {l : List Tm} (h : w.ownsRow base 34 8 v n xs) (hf : FlatTms w l xs) (hn : n = l.length) : ∃ a cap, v = .slice a n cap ∧ n ≤ cap ∧ cap ≤ 9223372036854775807 ∧ IsTms w l a n := by
  subst hn
  rcases Nat.eq_zero_or_pos l.length with h0 | h0
  · obtain rfl := List.eq_nil_of_length_eq_zero h0
    rcases h.2 with ⟨rfl, _⟩ | ⟨g, cap, cur, rfl, hg, hh, h1, h2, h3, h4⟩
    · exact ⟨none, 0, rfl, Nat.le_refl _, by omega, IsTmsA.nil _⟩
    · exact ⟨_, cap, rfl, h1, h2, IsTmsA.nil _⟩
  · obtain ⟨g, cap, rfl, hg, hl, h1, h2, hc⟩ := owns_open h h0
    exact ⟨_, cap, rfl, h1, h2, hf.tms g 0 fun j u hu => by simpa using hc j u hu⟩

set_option maxRecDepth 8000 in
set_option maxHeartbeats 4000000 in
theorem law_termCounts (l : List Tm) (kind : Int) (w : World) (a : Option Addr) (len cap : Nat) (h1 : len ≤ cap) (h2' : cap ≤ maxLen) (hl : IsTms w l a len) (_ : 0 ≤ kind) (_ : kind ≤ 255) (hkn : Knob w) :
    Calls Tryd.prog 7 #[.slice a len cap, .int .u8 kind] w (Yes4 w) := by
  have h2 : cap ≤ 9223372036854775807 := h2'
  clear h2'
  have HL := Lib.hid hl.length
  have HTL := Lib.hid hl
  have KG := Lib.hid (law04_great l w a len cap h1 h2 hl)
  have KA := Lib.hid fun W (h : Ext w W) => law04_awake W (hkn.ext h)
  cases hg : greats l
  case true =>
    rw [hg] at KG
    clear hg hl
    go_enter Tryd.func7, Tryd.ntmps7
    go_wp2_with (first | (go_at_call 25; refine (KG.out).mono ?_; rintro e w1 ⟨rfl, x1⟩) | (go_at_call 20; refine (KA.out _ x1).mono ?_; rintro e w2 ⟨rfl, x2⟩))
    go_ret
    exact ⟨rfl, x1.trans x2⟩
  obtain ⟨hl20, h400⟩ := greats_false hg
  rw [hg] at KG
  clear hg
  have hsz := sizes_bound l h400
  have hs : Tm.sizes l ≤ 8000 := by omega
  have KK := Lib.hid fun W (h : Ext w W) => term_kinds l W a len cap (by omega) h1 h2 (hl.ext h)
  have KS := Lib.hid fun W (h : Ext w W) => term_size l W a len cap (by omega) h1 h2 (hl.ext h)
  have KD := Lib.hid fun W (h : Ext w W) => term_depth (Tm.sizes l) l W a len cap (Nat.le_refl _) (by omega) h1 h2 (hl.ext h)
  have KH := Lib.hid fun W (h : Ext w W) => term_has kind l W a len cap h1 h2 (hl.ext h)
  have H400 := Lib.hid h400
  obtain ⟨i0, hi, hz0, hz1, hz2⟩ := info_parts infoTm
  have HI := Lib.hid (And.intro hi (And.intro hz0 (And.intro hz1 hz2)))
  clear hl h400 hi hz0 hz1 hz2 hl20 hsz
  go_enter Tryd.func7, Tryd.ntmps7
  go_wp2_with (go_at_call 25; refine (KG.out).mono ?_; rintro e w1 ⟨rfl, x1⟩)
  go_loopg [5, 6, 7] len (fun g vo dp i wr => ∃ (j : Nat) (xs : List Value), g = len - j ∧ j ≤ len ∧ i = .int .i64 j ∧ wr.ownsRow w.heap.size 34 8 vo (Tm.sizes (l.take j)) xs ∧ FlatTms w (Tm.alls (l.take j)) xs ∧ dp = .int .i64 (Tm.depths (l.take j) : Nat) ∧ Ext w wr)
  case atStart =>
    refine ⟨0, [], by omega, by omega, rfl, ?_, by simp [Tm.alls, FlatTms], by simp [Tm.depths], x1.alloc _⟩
    have h := owns_new w1 w.heap.size 34 8 0 [] x1.size (by unfold maxLen; omega) rfl
    exact h
  case round =>
    obtain ⟨j, xs, rfl, hj, rfl, hown, hflat, rfl, hx⟩ := hrel
    have HOWN := Lib.hid hown
    have HFLAT := Lib.hid hflat
    clear hown hflat
    have hd1 : Tm.depths (l.take j) ≤ 8000 := Nat.le_trans (Tm.depths_sizes _) (Nat.le_trans (Tm.sizes_take_le l j) hs)
    by_cases hlt : j < len
    · obtain ⟨y, k, b, o, ak, lenk, capk, g, rfl, hbo, hdd, hq, hfy, p1, p2, pl⟩ := HTL.out.at8 (Ext.refl w) hlt
      have q0 := fun W (h : Ext w W) => h.cell hdd.c0
      have q1 := fun W (h : Ext w W) => h.cell hdd.c1
      have q2 := fun W (h : Ext w W) => h.cell hdd.c2
      have q3 := fun W (h : Ext w W) => h.cell hdd.c3
      have q4 := fun W (h : Ext w W) => h.cell hdd.c4
      have q5 := fun W (h : Ext w W) => h.cell hdd.c5
      have q6 := fun W (h : Ext w W) => h.cell hdd.c6
      have q7 := fun W (h : Ext w W) => h.cell hq
      have hb0 := block_lt_of_cell hdd.c0
      simp at hb0
      have hb1 := fun W (h : Ext w W) => Nat.lt_of_lt_of_le hb0 h.size
      have HSS := Lib.hid (Tm.sizes_take_succ l j _ g)
      have HAS := Lib.hid (Tm.alls_take_succ l j _ g)
      have HDS := Lib.hid (Tm.depths_take_succ l j _ g)
      have hle := Tm.sizes_take_le l (j + 1)
      have hss := HSS.out
      have hk4 := H400.out _ (List.mem_of_getElem? g)
      have hbound : Tm.sizes (l.take j) + (Tm.mk y k).size ≤ 8000 := by omega
      have K := Lib.hid (ref4_all (Tm.mk y k).size (.mk y k) w wr (tval y ak lenk capk) (Nat.le_refl _) (by omega) hx (IsTmA.mk_ pl p1 p2 hfy))
      have KDP := Lib.hid fun W (h : Ext w W) => ref4_depth (Tm.mk y k).size (.mk y k) W (tval y ak lenk capk) (Nat.le_refl _) (by omega) ((IsTmA.mk_ pl p1 p2 hfy).ext h)
      have hposk := (Tm.mk y k).size_pos
      have HAL := Lib.hid (Tm.mk y k).all_length
      have hdk := Tm.depth_size (.mk y k)
      have hdk2 : (Tm.mk y k).depth ≤ 400 := by omega
      clear g pl hfy hdd hq hss hle hdk
      generalize (Tm.mk y k).depth = dk at *
      go_wp2_with (first | (at_builtin; refine wpList_append_own _ rfl (.tmp 21) (.tmp 26) 32 rfl w.heap.size 34 i0 (.agg #[.int .u8 0, .int .u8 0, .int .i64 0, .int .i64 0, .string ByteArray.empty, .string ByteArray.empty, .string ByteArray.empty, .slice none 0 0]) 8 96 Tryd.underlying32 HI.out.1 HI.out.2.1 HI.out.2.2.1 HI.out.2.2.2 rfl (by decide) _ (Tm.sizes (l.take j)) xs rfl (owns_ext x2 HOWN.out) ⟨g2, 0, none⟩ _ cap2 ys rfl ?c0 ?c1 ?c2 ?c3 ?c4 ?c5 ?_) | (go_at_call 26; refine (K.out).mono ?_; rintro e w2 ⟨v2, ys, rfl, ho2, hf2, x2⟩; rw [HAL.out] at ho2; obtain ⟨g2, cap2, rfl, hg2, hl2, hn2, hm2, hcells⟩ := owns_open ho2 hposk; have HF2 := Lib.hid hf2; have HC2 := Lib.hid hcells; clear ho2 hf2 hcells))
      case c0 => exact HF2.out.length.trans (by rw [HAL.out])
      case c1 =>
        intro i u hu
        rw [Addr.add_lit]
        simpa using HC2.out i u hu
      case c2 => exact HF2.out.one
      case c3 => unfold maxLen; omega
      case c4 => omega
      case c5 => exact (hx.trans x2).size
      · intro v3 w3 hown3 hgrow _
        have hbase : ∀ k, Value.ownBlock _ = some k → w.heap.size ≤ k := fun k hk => (HOWN.out.lt k hk).1
        have hx3 := ext_grown hgrow (hx.trans x2) hbase
        have HO3 := Lib.hid hown3
        have HF3 := Lib.hid (HFLAT.out.append HF2.out)
        clear hown3 hgrow hbase
        go_wp2_with (go_at_call 27; refine (KDP.out _ hx3).mono ?_; rintro e w4 ⟨rfl, x4⟩)
        all_goals
          go_roundg (len - (j + 1))
          case rel =>
            refine ⟨j + 1, xs ++ ys, rfl, by omega, by go_num, ?_, ?_, ?_, hx3.trans x4⟩
            · rw [HSS.out]; exact owns_ext x4 HO3.out
            · rw [HAS.out]; exact HF3.out
            · rw [HDS.out]; exact congrArg (Value.int .i64) (by omega)
          case measure => omega
    · obtain rfl : j = len := by omega
      have hall : l.take j = l := List.take_of_length_le (by rw [← HL.out]; omega)
      rw [hall] at HOWN HFLAT
      rw [hall]
      obtain ⟨av, cv, hve, g1, g2, htv⟩ := owns_tms HOWN.out (HFLAT.out.ext hx) (Tm.alls_length l).symm
      have HTV := Lib.hid htv
      have HAL := Lib.hid (Tm.alls_length l)
      clear htv hall HOWN HFLAT
      subst hve
      go_wp2_with (go_at_call 28; refine (KK.out _ hx).mono ?_; rintro e w2 ⟨bk, ck, rfl, g3, g4, g5, x2⟩)
      have hx2 := hx.trans x2
      have HKR := Lib.hid g5
      have hdm : Tm.depths l ≤ 8000 := Nat.le_trans (Tm.depths_sizes l) hs
      have y0 : Ext w w2 := hx2
      go_wp2_with (first | (go_at_call 23; refine (KS.out _ (by assumption)).mono ?_; rintro e w5 ⟨rfl, x5⟩; have y1 := Ext.trans (by assumption : Ext w _) x5) | (go_at_call 24; refine (KD.out _ (by assumption)).mono ?_; rintro e w6 ⟨rfl, x6⟩; have y2 := Ext.trans (by assumption : Ext w _) x6))
      have hx6 : Ext w2 w6 := x5.trans x6
      go_loopg [9, 10] (Tm.sizes l) (fun g bb i wq => ∃ jj : Nat, g = Tm.sizes l - jj ∧ jj ≤ Tm.sizes l ∧ i = .int .i64 jj ∧ bb = .bool (((Tm.alls l).take jj).any fun t => t.head.k == kind) ∧ Ext w2 wq)
      case atStart => exact ⟨0, by omega, by omega, rfl, by simp, hx6⟩
      case round =>
        obtain ⟨jj, rfl, hjj, rfl, rfl, hxq⟩ := hrel
        by_cases hjl : jj < Tm.sizes l
        · obtain ⟨y, k, b, o, ak, lenk, capk, g, rfl, hbo, hdd, hq, hfy, p1, p2, pl⟩ := HTV.out.at8 (x2.trans hxq) hjl
          obtain ⟨c, b', o', g', rfl, qk⟩ := (HKR.out.ext hxq).byte hjl
          have hck : c = y.k := by
            rw [List.getElem?_map, g] at g'
            simpa [Tm.head] using g'.symm
          subst hck
          have c0 := hdd.c0
          have HTK : Hid ((((Tm.alls l).take (jj + 1)).any fun t => t.head.k == kind) = ((((Tm.alls l).take jj).any fun t => t.head.k == kind) || y.k == kind)) := by
            show _ = _
            rw [List.take_add_one, g]
            simp [Tm.head]
          have k0 := cells_regrown c0
          have k1 := cells_regrown qk
          clear g g' hdd hq hfy pl
          cases hbb : ((Tm.alls l).take jj).any fun t => t.head.k == kind
          all_goals
            rw [hbb] at HTK
            clear hbb
            go_wp2_with fail
            refine wp_region_quiet_below (by kernel_rfl) (by kernel_rfl) ?_
            repeat (go_big_quiet_step (fail))
            refine wpQuiet_nil ?_
            intro wz hq_wz
            have xz := ext_of_regrown hq_wz
            clear hq_wz
            go_wp2_with fail
            go_roundg (Tm.sizes l - (jj + 1))
            case rel => exact ⟨jj + 1, rfl, by omega, by go_num, by rw [HTK.out]; simp, hxq.trans xz⟩
            case measure => omega
        · obtain rfl : jj = Tm.sizes l := by omega
          have htake : (Tm.alls l).take (Tm.sizes l) = Tm.alls l := List.take_of_length_le (by rw [HAL.out]; omega)
          rw [htake]
          clear htake
          have yq : Ext w wr := hx2.trans hxq
          generalize ((Tm.alls l).any fun t => t.head.k == kind) = bh at *
          cases bh
          all_goals
            go_wp2_with (first | (go_at_call 29; refine (KH.out _ yq).mono ?_; rintro e w7 ⟨rfl, x7⟩; have y7 := yq.trans x7) | (go_at_call 20; refine (KA.out _ y7).mono ?_; rintro e w8 ⟨rfl, x8⟩))
            go_ret
            exact ⟨rfl, y7.trans x8⟩
end Go.Proofs.YtljpbikcpjocmaaDoor

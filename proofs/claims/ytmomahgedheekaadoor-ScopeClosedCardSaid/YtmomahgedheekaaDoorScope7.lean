/- The walks of scope.gather, Free, Exns. -/
import Derived.Test.YtmomahgedheekaaDoorScope6
namespace Go.Proofs.YtmomahgedheekaaDoor
open Go Go.RowKit Go.Sort

/-- What hands back a row of texts of its own. -/
def RetRowS (l : List ByteArray) (w : World) (e : Ending) (w' : World) : Prop := ∃ v, e = .returned v ∧ w'.ownsRow w.heap.size 9 1 v l.length (vstr l) ∧ Ext w w'
theorem RetRowS.strs {l : List ByteArray} {w w' : World} {e : Ending} (h : RetRowS l w e w') : RetStrs l w e w' := by
  obtain ⟨v, rfl, ho, hx⟩ := h
  obtain ⟨a, cap, rfl, g1, g2, g3⟩ := owns_row1 ho
  exact ⟨a, _, cap, rfl, g1, g2, g3, hx⟩
/-- What is gathered, if all terms may be. -/
def gatheredR (p : List ByteArray → Hd → Bool) (tx : Hd → ByteArray) (l : List Tm) : List ByteArray := if l.all Tm.may then gathered p tx l else []
set_option maxRecDepth 8000 in
set_option maxHeartbeats 4000000 in
theorem scope_gather (p : List ByteArray → Hd → Bool) (tx : Hd → ByteArray) (KI KT : Nat) (hA : Asks p tx KI KT) (l : List Tm) (w : World) (a : Option Addr) (len cap : Nat) (hs : Tm.sizes l ≤ 100000) (h1 : len ≤ cap) (h2 : cap ≤ 9223372036854775807) (hl : IsTms w l a len) (hkn : Knob w) :
    Calls Tryd.prog 64 #[.func (.func KI) #[] #[], .func (.func KT) #[] #[], .slice a len cap] w (RetRowS (gatheredR p tx l) w) := by
  obtain ⟨W0, hW0⟩ : ∃ W0, W0 = ((w.alloc (.cells #[.func (.func KI) #[] #[]] 88)).alloc (.cells #[.func (.func KT) #[] #[]] 93)).alloc (.cells #[.slice none 0 0] 51) := ⟨_, rfl⟩
  have x0 : Ext w W0 := by rw [hW0]; exact (((Ext.refl _).alloc _).alloc _).alloc _
  have hs0 : w.heap.size + 2 < W0.heap.size := by rw [hW0]; simp
  have bI : Blk W0 w.heap.size 88 #[.func (.func KI) #[] #[]] := by rw [hW0]; exact ((Blk.new w _ _).alloc _).alloc _
  have bT : Blk W0 (w.heap.size + 1) 93 #[.func (.func KT) #[] #[]] := by
    rw [hW0]
    have h := (Blk.new (w.alloc (.cells #[.func (.func KI) #[] #[]] 88)) 93 #[.func (.func KT) #[] #[]]).alloc (.cells #[.slice none 0 0] 51)
    rw [World.size_alloc] at h
    exact h
  have bO : Blk W0 (w.heap.size + 2) 51 #[.slice none 0 0] := by
    rw [hW0]
    have h := Blk.new ((w.alloc (.cells #[.func (.func KI) #[] #[]] 88)).alloc (.cells #[.func (.func KT) #[] #[]] 93)) 51 #[.slice none 0 0]
    rw [World.size_alloc, World.size_alloc] at h
    exact h
  have hR0 : (gGather w.heap.size KI KT).R [] W0 := ⟨_, bO, World.ownsRow_nil _ _ _ _, bI, bT⟩
  have hown0 : ∀ k, (gGather w.heap.size KI KT).own W0 k → w.heap.size ≤ k := by
    intro k hk
    rcases hk with rfl | ⟨v, hv, hk⟩
    · omega
    · rw [bO.cell 0] at hv
      cases hv
      cases hk
  have HW0 := Lib.hid hW0
  have HTL := Lib.hid hl
  have HL := Lib.hid hl.length
  have HR0 := Lib.hid hR0
  have HKN := Lib.hid hkn
  have HOWN := Lib.hid hown0
  have SG := Lib.hid (gather_steps p tx w.heap.size KI KT hA)
  clear hA hW0 hl hR0 hkn hown0 bI bT bO
  go_enter Tryd.func64, Tryd.ntmps64
  go_wp2_with fail
  rw [← HW0.out]
  go_loopg [14] len (fun g i wr => ∃ j : Nat, g = len - j ∧ j ≤ len ∧ i = .int .i64 j ∧ (∀ t, t ∈ l.take j → t.may = true) ∧ Ext W0 wr)
  case atStart => exact ⟨0, by omega, by omega, rfl, by simp, Ext.refl _⟩
  case round =>
    obtain ⟨j, rfl, hj, rfl, hmay, hx⟩ := hrel
    have HM := Lib.hid hmay
    clear hmay
    by_cases hlt : j < len
    · obtain ⟨x, k, b, o, ak, lenk, capk, g, rfl, hbo, hd, hq, hf, p1, p2, pl⟩ := HTL.out.at8 (x0.trans hx) hlt
      obtain ⟨c0, c1, c2, c3, c4, c5, c6⟩ := hd
      have hsz := Tm.size_at l j _ g
      obtain ⟨W1, hW1⟩ : ∃ W1, W1 = wr.alloc (.cells #[.int .u8 x.k, .int .u8 x.op, .int .i64 x.pos, .int .i64 x.n, .string x.name, .string x.arg, .string x.exn, .slice ak lenk capk] 41) := ⟨_, rfl⟩
      have xW : Ext wr W1 := by rw [hW1]; exact (Ext.refl _).alloc _
      have CM := Lib.hid (term_may (.mk x k) W1 (tval x ak lenk capk) (IsTmA.mk_ (pl.ext xW) p1 p2 hf) (HKN.out.ext (x0.trans (hx.trans xW))) (by omega))
      have HW1 := Lib.hid hW1
      have G := Lib.hid g
      unfold tval at CM
      clear hW1 pl hf g hsz
      cases hm : (Tm.mk x k).may
      all_goals
        rw [hm] at CM
        have HMM := Lib.hid hm
        clear hm
        go_wp2_with fail
        rw [← HW1.out]
        refine (CM.out).mono ?_
        rintro e w1 ⟨rfl, x1⟩
        go_wp2_with fail
      · go_ret
        refine ⟨.slice none 0 0, rfl, ?_, x0.trans (hx.trans (xW.trans x1))⟩
        have : l.all Tm.may = false := List.all_eq_false.2 ⟨_, List.mem_of_getElem? G.out, by rw [HMM.out]; simp⟩
        unfold gatheredR
        rw [this]
        exact World.ownsRow_nil _ _ _ _
      · go_roundg (len - (j + 1))
        case rel =>
          refine ⟨j + 1, rfl, by omega, by go_num, ?_, hx.trans (xW.trans x1)⟩
          intro t ht
          rw [List.take_add_one, G.out] at ht
          simp only [List.mem_append, Option.toList_some, List.mem_singleton] at ht
          rcases ht with ht | rfl
          · exact HM.out t ht
          · exact HMM.out
        case measure => omega
    · obtain rfl : j = len := by omega
      have hall : l.all Tm.may = true := by
        have h := HM.out
        rw [List.take_of_length_le (by rw [← HL.out]; omega)] at h
        exact List.all_eq_true.2 h
      have HALL := Lib.hid hall
      clear hall HM
      have hRw := ((gGather w.heap.size KI KT).keep _ _ _ HR0.out hx).1
      have hOw := (gGather w.heap.size KI KT).oext HR0.out hx
      have HRw := Lib.hid hRw
      have HOw := Lib.hid hOw
      clear hRw hOw
      go_wp2_with fail
      go_loopg [24] j (fun g i wq => ∃ i' : Nat, g = j - i' ∧ i' ≤ j ∧ i = .int .i64 i' ∧ (gGather w.heap.size KI KT).R (gathered p tx (l.take i')) wq ∧ OExt (gGather w.heap.size KI KT).own W0 wq)
      case atStart => exact ⟨0, by omega, by omega, rfl, by simpa [gathered, puts_nil] using HRw.out, HOw.out⟩
      case round =>
        obtain ⟨i', rfl, hi', rfl, hRq, hxq⟩ := hrel
        have HRq := Lib.hid hRq
        clear hRq
        by_cases hlt2 : i' < j
        · have hl0 : IsTmsA ((gGather w.heap.size KI KT).own W0) W0 l a j := HTL.out.fresh x0 HOWN.out
          obtain ⟨x, k, b, o, ak, lenk, capk, g, rfl, hbo, hd, hq, hf, p1, p2, pl⟩ := (hl0.oext hxq).at8 (Ext.refl wr) hlt2
          obtain ⟨c0, c1, c2, c3, c4, c5, c6⟩ := hd
          have hsz := Tm.size_at l i' _ g
          have hgl := gathered_length p tx (l.take i')
          have hgt := Tm.sizes_take_le l i'
          have HSU := Lib.hid (flat_succ (fun t : Tm => t.occP p tx []) l i' _ g)
          obtain ⟨W1, hW1⟩ : ∃ W1, W1 = wr.alloc (.cells #[.int .u8 x.k, .int .u8 x.op, .int .i64 x.pos, .int .i64 x.n, .string x.name, .string x.arg, .string x.exn, .slice ak lenk capk] 41) := ⟨_, rfl⟩
          have xW : Ext wr W1 := by rw [hW1]; exact (Ext.refl _).alloc _
          have hR1 := ((gGather w.heap.size KI KT).keep _ _ _ HRq.out xW).1
          have xo := (gGather w.heap.size KI KT).oext HRq.out xW
          have CW := names_walk (gGather w.heap.size KI KT) (gatherF p tx) roomG (fun s bd t n h => by
              unfold roomG gatherF at *
              simp only
              split
              · have := put_length s (tx t.head); omega
              · omega) (fun s n m h1 h2 => by unfold roomG at *; omega) 96 (.pointer (some ⟨w.heap.size, 0, none⟩)) (.pointer (some ⟨w.heap.size + 2, 0, none⟩)) (.pointer (some ⟨w.heap.size + 1, 0, none⟩)) enters_gather1 SG.out _ (.mk x k) [] (gathered p tx (l.take i')) W1 none 0 0 (tval x ak lenk capk) (Nat.le_refl _) (by simp; omega) hR1 (by unfold roomG; omega) (Nm.none_ _ _) (IsTmA.mk_ (pl.oext xo) p1 p2 hf)
          rw [Tm.nwalk_gather] at CW
          simp only at CW
          have CWH := Lib.hid CW
          have XO := Lib.hid (hxq.trans xo)
          have HW1 := Lib.hid hW1
          unfold tval at CWH
          clear hW1 pl hf g hsz hgl hgt CW hl0 hR1 xo
          go_wp2_with fail
          rw [← HW1.out]
          refine (CWH.out).mono ?_
          rintro e w1 ⟨rfl, r1, x1⟩
          have HR1 := Lib.hid r1
          clear r1
          go_wp2_with fail
          go_roundg (j - (i' + 1))
          case rel =>
            refine ⟨i' + 1, rfl, by omega, by go_num, ?_, XO.out.trans x1⟩
            unfold gathered
            rw [HSU.out, puts_append]
            exact HR1.out
          case measure => omega
        · obtain rfl : i' = j := by omega
          obtain ⟨v, hB, ho, _, _⟩ := HRq.out
          obtain ⟨ar, cr, rfl, g1, g2, g3⟩ := owns_row1 ho
          have q0 := hB.cell 0
          have hxx : Ext w wr := ⟨hxq.os.trans (Below.os x0), hxq.tape.trans (Below.tape x0), hxq.output.trans (Below.output x0), Nat.le_trans x0.size hxq.size, fun k hk =>
            (hxq.block k (Nat.lt_of_lt_of_le hk x0.size) (fun h => by have := HOWN.out k h; omega)).1.trans (Below.block x0 k hk)⟩
          have ht : l.take i' = l := List.take_of_length_le (by rw [← HL.out]; omega)
          rw [ht] at q0 ho
          have HO := Lib.hid (owns_base (base' := w.heap.size) (by omega) ho)
          clear hB ho g3
          go_wp2_with fail
          go_ret
          refine ⟨.slice ar _ cr, rfl, ?_, hxx⟩
          unfold gatheredR
          rw [HALL.out]
          exact HO.out

theorem enters_sfree : ∀ args w, (callFunc 58 args).run Tryd.prog w = .ok (.enter 58 args) w := enters_of Tryd.func58 (by kernel_rfl) rfl
theorem enters_sfree1 : ∀ args w, (callFunc 65 args).run Tryd.prog w = .ok (.enter 65 args) w := enters_of Tryd.func65 (by kernel_rfl) rfl
theorem enters_sexns1 : ∀ args w, (callFunc 67 args).run Tryd.prog w = .ok (.enter 67 args) w := enters_of Tryd.func67 (by kernel_rfl) rfl
theorem enters_sexns2 : ∀ args w, (callFunc 68 args).run Tryd.prog w = .ok (.enter 68 args) w := enters_of Tryd.func68 (by kernel_rfl) rfl
set_option maxHeartbeats 400000 in
theorem asks_free : Asks isFree Hd.name 58 65 := by
  refine ⟨enters_sfree, enters_sfree1, fun w bd pp n cp x a len cap h => names_free bd x w pp n cp a len cap h, fun w x a len cap => ?_⟩
  go_enter Tryd.func65, Tryd.ntmps65
  go_wp2_with fail
  go_ret
  exact ⟨rfl, by (repeat (first | exact Ext.refl _ | assumption | refine Ext.alloc ?_ _ | refine Ext.drew ?_ | refine Ext.setCell ?_ (by first | (simp; done) | (simp; omega) | omega) _ | refine Ext.trans ?_ (by assumption)))⟩
set_option maxHeartbeats 400000 in
theorem asks_exns : Asks names_ Hd.exn 67 68 := by
  refine ⟨enters_sexns1, enters_sexns2, fun w bd pp n cp x a len cap h => ?_, fun w x a len cap => ?_⟩
  · have K := Lib.hid fun W => scope_raises bd x W a len cap
    clear h
    go_enter Tryd.func67, Tryd.ntmps67
    go_wp2_with (go_at_call 59; refine (K.out _).mono ?_; rintro e w1 ⟨rfl, x1⟩)
    go_ret
    exact ⟨rfl, ((Ext.refl _).alloc _).trans x1⟩
  · go_enter Tryd.func68, Tryd.ntmps68
    go_wp2_with fail
    go_ret
    exact ⟨rfl, by (repeat (first | exact Ext.refl _ | assumption | refine Ext.alloc ?_ _ | refine Ext.drew ?_ | refine Ext.setCell ?_ (by first | (simp; done) | (simp; omega) | omega) _ | refine Ext.trans ?_ (by assumption)))⟩
set_option maxHeartbeats 400000 in
theorem scope_free_own (l : List Tm) (w : World) (a : Option Addr) (len cap : Nat) (hs : Tm.sizes l ≤ 100000) (h1 : len ≤ cap) (h2 : cap ≤ 9223372036854775807) (hl : IsTms w l a len) (hkn : Knob w) :
    Calls Tryd.prog 31 #[.slice a len cap] w (RetRowS (freesR l) w) := by
  have K := Lib.hid (scope_gather isFree Hd.name _ _ asks_free l w a len cap hs h1 h2 hl hkn)
  clear hl hkn
  go_enter Tryd.func31, Tryd.ntmps31
  go_wp2_with (go_at_call 64; refine K.out.mono ?_; rintro e w1 ⟨v, rfl, ho, x1⟩; have HO := Lib.hid ho; obtain ⟨b, c, rfl, _, _, _⟩ := owns_row1 ho; clear ho)
  go_ret
  exact ⟨_, rfl, by unfold freesR; rw [frees_gathered]; unfold gatheredR at HO; exact HO.out, x1⟩
theorem scope_free (l : List Tm) (w : World) (a : Option Addr) (len cap : Nat) (hs : Tm.sizes l ≤ 100000) (h1 : len ≤ cap) (h2 : cap ≤ 9223372036854775807) (hl : IsTms w l a len) (hkn : Knob w) :
    Calls Tryd.prog 31 #[.slice a len cap] w (RetStrs (freesR l) w) := (scope_free_own l w a len cap hs h1 h2 hl hkn).mono fun _ _ h => h.strs
set_option maxHeartbeats 400000 in
theorem scope_exns_own (l : List Tm) (w : World) (a : Option Addr) (len cap : Nat) (hs : Tm.sizes l ≤ 100000) (h1 : len ≤ cap) (h2 : cap ≤ 9223372036854775807) (hl : IsTms w l a len) (hkn : Knob w) :
    Calls Tryd.prog 34 #[.slice a len cap] w (RetRowS (exnsR l) w) := by
  have K := Lib.hid (scope_gather names_ Hd.exn _ _ asks_exns l w a len cap hs h1 h2 hl hkn)
  clear hl hkn
  go_enter Tryd.func34, Tryd.ntmps34
  go_wp2_with (go_at_call 64; refine K.out.mono ?_; rintro e w1 ⟨v, rfl, ho, x1⟩; have HO := Lib.hid ho; obtain ⟨b, c, rfl, _, _, _⟩ := owns_row1 ho; clear ho)
  go_ret
  exact ⟨_, rfl, by unfold exnsR; rw [exns_gathered]; unfold gatheredR at HO; exact HO.out, x1⟩
theorem scope_exns (l : List Tm) (w : World) (a : Option Addr) (len cap : Nat) (hs : Tm.sizes l ≤ 100000) (h1 : len ≤ cap) (h2 : cap ≤ 9223372036854775807) (hl : IsTms w l a len) (hkn : Knob w) :
    Calls Tryd.prog 34 #[.slice a len cap] w (RetStrs (exnsR l) w) := (scope_exns_own l w a len cap hs h1 h2 hl hkn).mono fun _ _ h => h.strs
end Go.Proofs.YtmomahgedheekaaDoor

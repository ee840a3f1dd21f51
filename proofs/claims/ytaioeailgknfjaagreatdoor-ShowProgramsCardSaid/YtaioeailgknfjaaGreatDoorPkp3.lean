/- Part 3 of the proof: ArgsW, Digits; no condition of ours. -/
import Derived.Test.YtaioeailgknfjaaGreatDoorPkp1
set_option linter.unusedVariables false
set_option linter.unusedSimpArgs false
namespace Go.Proofs.YtaioeailgknfjaaGreatDoor
open Go Go.RowKit Go.Sort
open Go.ChangeShapes Go.WideShapes
theorem choose_list {α : Type} {P : Nat → α → Prop} (n : Nat) (h : ∀ i, i < n → ∃ t, P i t) : ∃ l : List α, l.length = n ∧ ∀ i t, l[i]? = some t → P i t := by
  induction n with
  | zero => exact ⟨[], rfl, fun i t h => by simp at h⟩
  | succ n ih =>
    obtain ⟨l, hl, hp⟩ := ih fun i hi => h i (by omega)
    obtain ⟨t, ht⟩ := h n (by omega)
    refine ⟨l ++ [t], by simp [hl], fun i t' hi => ?_⟩
    rcases Nat.lt_or_ge i n with hlt | hge
    · rw [List.getElem?_append_left (by omega)] at hi
      exact hp i t' hi
    · rw [List.getElem?_append_right (by omega)] at hi
      have : i = n := by
        rcases Nat.lt_or_ge (i - l.length) 1 with h1 | h1
        · omega
        · rw [List.getElem?_eq_none (by simpa using h1)] at hi; cases hi
      subst this
      simp [hl] at hi
      subst hi
      exact ht
section
variable {H : Type} {enc : TypeId × Value → H} {w : World} {base : Nat} {spare : Nat → Bool} {held : Bool}
end
def IsBytes (w : World) (l : List UInt8) (a : Option Addr) (len : Nat) : Prop := IsRow w (vby (il (bs l))) a len
section
variable {H : Type} {enc : TypeId × Value → H} {w : World} {base : Nat} {spare : Nat → Bool} {held : Bool}
end
end Go.Proofs.YtaioeailgknfjaaGreatDoor
namespace Go.Proofs.YtaioeailgknfjaaGreatDoor
open Go.Lib (hid)
open Go Go.RowKit Go.Sort
def Tab (w : World) : Prop := Lib.TabIs Tryz.prog w "internal/strconv.uint64pow10" .u64 Lib.pow10Tab
theorem Tab.ext {w w' : World} (h : Tab w) (hx : Ext w w') : Tab w' := by
  unfold Tab Lib.TabIs World.var? at *
  cases hg : Program.globalNamed Tryz.prog "internal/strconv.uint64pow10" with
  | none => rw [hg] at h; simp at h
  | some g =>
    rw [hg] at h
    simp only [Option.bind_some] at h ⊢
    have hgl : g < w.heap.size := by
      rcases Nat.lt_or_ge g w.heap.size with hlt | hge
      · exact hlt
      · rw [Array.getElem?_eq_none hge] at h; simp at h
    rw [Below.block hx g hgl]
    exact h
theorem ext_of_grow (w : World) (k : Nat) (os : Array Obj) : Ext w (grow (w.drewN k) os) := by
  refine ⟨rfl, rfl, rfl, by simp [grow, World.drewN], fun i hi => ?_⟩
  simp [grow, World.drewN, Array.getElem?_append, hi]
set_option maxHeartbeats 400000 in
theorem words_digits (n : Int) (w : World) (h0 : -9223372036854775808 ≤ n) (h1 : n ≤ 9223372036854775807) (ht : Tab w) :
    Calls Tryz.prog 76 #[.int .i64 n] w fun e w' => e = .returned (.string (bs (Lib.itoa n))) ∧ Ext w w' := by
  have HT := hid ht
  go_enter Tryz.func76, Tryz.ntmps76
  go_wp2_with (go_at_call 104; refine (Tryz.strconv_FormatInt_10 n h0 h1 _ HT.out).mono ?_; rintro e w1 ⟨rfl, hg⟩)
  obtain ⟨k, os, rfl⟩ := hg
  go_ret
  exact ⟨rfl, ext_of_grow w k os⟩
theorem Lib.itoa_nonneg (n : Nat) : Lib.itoa n = Lib.decDigits n := by unfold Lib.itoa; rw [if_neg (by omega)]; simp
theorem Lib.decDigits_small {n : Nat} (h : n < 10) : Lib.decDigits n = [UInt8.ofNat (48 + n)] := by rw [Lib.decDigits, dif_pos h]
theorem Lib.decDigits_big {n : Nat} (h : ¬ n < 10) : Lib.decDigits n = Lib.decDigits (n / 10) ++ [UInt8.ofNat (48 + n % 10)] := by rw [Lib.decDigits, dif_neg h]
theorem one_byte (w : World) (x : Nat) (hx : x ≤ 255) : (convert 22 9 (.slice (some ⟨w.heap.size, 0, none⟩) 1 1)).run Tryz.prog (w.alloc (.cells #[.int .u8 x] 5)) = .ok (.string (bs [UInt8.ofNat x])) (w.alloc (.cells #[.int .u8 x] 5)) := by
  have h := run_convert_bytes_arg (P := Tryz.prog) (w := w.alloc (.cells #[.int .u8 x] 5)) 22 5 Tryz.underlying22 Tryz.underlying5 w.heap.size 0 1 1 [(x : Int)] rfl (fun i hi => by
    obtain rfl : i = 0 := by omega
    simp [go_sem]) 9 Tryz.underlying9
  rw [h]
  rfl
set_option maxRecDepth 8000 in
set_option maxHeartbeats 400000 in
theorem ref_digits_nat (m : Nat) : ∀ (n : Nat) (w : World), n < m → n ≤ 9223372036854775807 →
    Calls Tryz.prog 50 #[.int .i64 n] w fun e w' => e = .returned (.string (bs (Lib.decDigits n))) ∧ Ext w w' := by
  induction m with
  | zero => intro n w h; omega
  | succ m ih =>
    intro n w hm hn
    have h1 : (0 : Int) ≤ n := by omega
    have hd : decide ((n : Int) < 0) = false := by simp
    have hb := one_byte w (48 + n % 10) (by omega)
    obtain ⟨c, hc⟩ : ∃ c, c = bs [UInt8.ofNat (48 + n % 10)] := ⟨_, rfl⟩
    rw [← hc] at hb
    have HC := hid hc
    clear hc
    have e1 : ((48 + n % 10 : Nat) : Int) = 48 + (n : Int) % 10 := by omega
    rw [e1] at hb
    have e2 : (n : Int) / 10 = ((n / 10 : Nat) : Int) := by omega
    have hq := fun W => ih (n / 10) W
    rw [← e2] at hq
    have HQ := hid hq
    clear e1 e2 hq ih
    by_cases h10 : n < 10
    · have HB := hid (Lib.decDigits_small h10)
      go_enter Tryz.func50, Tryz.ntmps50
      go_wp2_with fail
      go_ret
      refine ⟨?_, (Ext.refl w).alloc _⟩
      rw [HB.out]
      have : n % 10 = n := by omega
      rw [this] at HC
      exact congrArg (fun x => Ending.returned (Value.string x)) HC.out
    · have HB := hid (Lib.decDigits_big h10)
      have hlen : (Lib.decDigits (n / 10)).length ≤ 20 := by
        rw [Lib.decDigits_length]
        exact Lib.nDigits_le20 _ (by omega)
      have hcl : c.size = 1 := by rw [HC.out, bs_size]; rfl
      have hs : ¬ 9223372036854775807 < (bs (Lib.decDigits (n / 10))).size + c.size := by rw [bs_size, hcl]; omega
      have hs2 : (bs (Lib.decDigits (n / 10))).size + c.size ≤ 9223372036854775807 := by omega
      generalize hD : bs (Lib.decDigits (n / 10)) = D at *
      have HD := hid hD
      clear hD hcl hlen
      go_enter Tryz.func50, Tryz.ntmps50
      go_wp2_with (go_at_call 50; refine (HQ.out _ (by omega) (by omega)).mono ?_; rintro e w1 ⟨rfl, x1⟩)
      go_ret
      refine ⟨?_, ((Ext.refl w).alloc _).trans x1⟩
      rw [HB.out, ← bs_append, HD.out, ← HC.out]
      rfl
theorem decDigits_min : Lib.decDigits 9223372036854775808 = [57, 50, 50, 51, 51, 55, 50, 48, 51, 54, 56, 53, 52, 55, 55, 53, 56, 48, 56] := by
  iterate 18 rw [Lib.decDigits_big (by decide)]
  rw [Lib.decDigits_small (by decide)]
  decide +kernel
set_option maxRecDepth 8000 in
set_option maxHeartbeats 400000 in
theorem ref_digits (n : Int) (w : World) (h0 : -9223372036854775808 ≤ n) (h1 : n ≤ 9223372036854775807) :
    Calls Tryz.prog 50 #[.int .i64 n] w fun e w' => e = .returned (.string (bs (Lib.itoa n))) ∧ Ext w w' := by
  by_cases hn : 0 ≤ n
  · obtain ⟨k, rfl⟩ := Int.eq_ofNat_of_zero_le hn
    rw [Lib.itoa_nonneg]
    exact ref_digits_nat (k + 1) k w (by omega) (by omega)
  · have hd : decide (n < 0) = true := by simp; omega
    have HI : Hid (Lib.itoa n = 45 :: Lib.decDigits n.natAbs) := by show _ = _; unfold Lib.itoa; rw [if_pos (by omega)]
    by_cases hm : n = -9223372036854775808
    · subst hm
      go_enter Tryz.func50, Tryz.ntmps50
      go_wp2_with fail
      go_ret
      refine ⟨?_, Ext.refl w⟩
      rw [HI.out]
      show _ = Ending.returned (Value.string (bs (45 :: Lib.decDigits 9223372036854775808)))
      rw [decDigits_min]
      rfl
    · have hm2 : -9223372036854775807 ≤ n := by omega
      have hc : Calls Tryz.prog 50 #[.int .i64 (-n)] w fun e w' => e = .returned (.string (bs (Lib.decDigits n.natAbs))) ∧ Ext w w' := by
        have := ref_digits_nat (n.natAbs + 1) n.natAbs w (by omega) (by omega)
        rw [show ((n.natAbs : Nat) : Int) = -n from by omega] at this
        exact this
      have HC := hid hc
      have hlen : (Lib.decDigits n.natAbs).length ≤ 20 := by
        rw [Lib.decDigits_length]
        exact Lib.nDigits_le20 _ (by omega)
      have hs : 1 + (bs (Lib.decDigits n.natAbs)).size ≤ 9223372036854775807 := by rw [bs_size]; omega
      generalize hD : bs (Lib.decDigits n.natAbs) = D at *
      have HD := hid hD
      clear hD hlen hc hm h0
      go_enter Tryz.func50, Tryz.ntmps50
      go_wp2_with (go_at_call 50; refine (HC.out).mono ?_; rintro e w1 ⟨rfl, x1⟩)
      go_ret
      refine ⟨?_, x1⟩
      rw [HI.out]
      show _ = Ending.returned (Value.string (bs ([45] ++ Lib.decDigits n.natAbs)))
      rw [← bs_append, HD.out]
      rfl
end Go.Proofs.YtaioeailgknfjaaGreatDoor

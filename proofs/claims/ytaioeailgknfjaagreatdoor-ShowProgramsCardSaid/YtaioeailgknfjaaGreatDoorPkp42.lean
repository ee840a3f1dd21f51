/- Part 42 of the proof: Ref06; no condition of ours. -/
import Derived.Test.YtaioeailgknfjaaGreatDoorPkp1
import Derived.Test.YtaioeailgknfjaaGreatDoorPkp3
import Derived.Test.YtaioeailgknfjaaGreatDoorPkp5
import Derived.Test.YtaioeailgknfjaaGreatDoorPkp14
import Derived.Test.YtaioeailgknfjaaGreatDoorPkp15
import Derived.Test.YtaioeailgknfjaaGreatDoorPkp31
import Derived.Test.YtaioeailgknfjaaGreatDoorPkp35
set_option linter.unusedVariables false
set_option linter.unusedSimpArgs false
namespace Go.Proofs.YtaioeailgknfjaaGreatDoor
open Go.Lib (hid)
open Go Go.RowKit Go.Sort
set_option maxRecDepth 60000 in
set_option maxHeartbeats 4000000 in
theorem ref6_part (x : Hd) (a : Option Addr) (n c : Nat) (w : World) (h9 : x.k = 9 → 1 ≤ x.op ∧ x.op ≤ 5) : Calls Tryz.prog 85 #[.agg #[.int .u8 x.k, .int .u8 x.op, .int .i64 x.pos, .int .i64 x.n, .string x.name, .string x.arg, .string x.exn, .slice a n c]] w fun e w' => e = .returned (.int .i64 (x.part : Nat)) ∧ Ext w w' := by
  have hx : x.part = x.part := rfl
  conv at hx => rhs; unfold Hd.part
  have HP := hid hx
  generalize x.part = p at *
  clear hx
  by_cases h0 : x.k = 11 ∨ x.k = 12 ∨ x.k = 13 ∨ x.k = 14 ∨ x.k = 16
  · have HQ : Hid (p = 0) := hid (HP.out.trans (if_pos h0))
    clear HP h9
    rcases h0 with e | e | e | e | e
    all_goals
      rw [e]
      clear e
      go_enter Tryz.func85, Tryz.ntmps85
      go_wp2_with fail
      go_ret
      exact ⟨by rw [HQ.out]; rfl, by (exact eX)⟩
  have hp := HP.out
  rw [if_neg h0] at hp
  by_cases h8 : x.k = 8
  · rw [if_pos h8] at hp
    have HQ := hid hp
    clear HP hp h0 h9
    rw [h8]
    clear h8
    go_enter Tryz.func85, Tryz.ntmps85
    go_wp2_with fail
    go_ret
    exact ⟨by rw [HQ.out]; rfl, by (exact eX)⟩
  rw [if_neg h8] at hp
  by_cases h10 : x.k = 10
  · rw [if_pos h10] at hp
    have HQ := hid hp
    clear HP hp h0 h8 h9
    rw [h10]
    clear h10
    go_enter Tryz.func85, Tryz.ntmps85
    go_wp2_with fail
    go_ret
    exact ⟨by rw [HQ.out]; rfl, by (exact eX)⟩
  rw [if_neg h10] at hp
  by_cases hk : x.k = 9
  · rw [if_pos hk] at hp
    have ho := h9 hk
    have hc : x.op = 1 ∨ x.op = 2 ∨ x.op = 3 ∨ x.op = 4 ∨ x.op = 5 := by omega
    clear HP h0 h8 h10 h9 ho
    rw [hk]
    clear hk
    rcases hc with e | e | e | e | e
    all_goals
      rw [e] at hp ⊢
      have HQ := hid hp
      clear e hp
      go_enter Tryz.func85, Tryz.ntmps85
      go_wp2_with fail
      go_ret
      exact ⟨by rw [HQ.out]; rfl, by (exact eX)⟩
  · rw [if_neg hk] at hp
    have HQ := hid hp
    have b11 : (x.k == 11) = false := by simp; omega
    have b12 : (x.k == 12) = false := by simp; omega
    have b13 : (x.k == 13) = false := by simp; omega
    have b14 : (x.k == 14) = false := by simp; omega
    have b16 : (x.k == 16) = false := by simp; omega
    have b8 : (x.k == 8) = false := by simp; omega
    have b10 : (x.k == 10) = false := by simp; omega
    have b9 : (x.k == 9) = false := by simp; omega
    clear HP hp h0 h8 h10 hk h9
    go_enter Tryz.func85, Tryz.ntmps85
    go_wp2_with fail
    go_ret
    exact ⟨by rw [HQ.out]; rfl, by (exact eX)⟩
theorem bs_ext2 {x y : ByteArray} (h : x.data.toList = y.data.toList) : x = y := ByteArray.ext (Array.toList_inj.1 h)
theorem kw_text {t : Tm} (h0 : t.wk ≠ []) {p : Nat} (h : t.part < p) : bs (joinW (t.kw p)) = (⟨#[40, 32]⟩ ++ bs (joinW t.wk)) ++ ⟨#[32, 41]⟩ := by
  have e : t.kw p = (5, s_open) :: (t.wk ++ [(5, s_shut)]) := if_pos h
  rw [e, joinW_cons _ (by simp), joinW_append h0 (by simp)]
  refine bs_ext2 ?_
  simp [ByteArray.data_append, bs_list, joinW, s_open, s_shut]
def TextT (N : Nat) : Prop := ∀ (x : Hd) (ks : List Tm) (w : World) (a : Option Addr) (n c : Nat), (Tm.mk x ks).size ≤ N → (Tm.mk x ks).size ≤ 1000000 → (∀ u, u ∈ (Tm.mk x ks).all → u.node = true) → IsTm w (.mk x ks) (.agg #[.int .u8 x.k, .int .u8 x.op, .int .i64 x.pos, .int .i64 x.n, .string x.name, .string x.arg, .string x.exn, .slice a n c]) →
  Calls Tryz.prog 23 #[.agg #[.int .u8 x.k, .int .u8 x.op, .int .i64 x.pos, .int .i64 x.n, .string x.name, .string x.arg, .string x.exn, .slice a n c]] w fun e w' => e = .returned (.string (bs (joinW (Tm.mk x ks).wk))) ∧ Ext w w'
set_option maxRecDepth 60000 in
set_option maxHeartbeats 4000000 in
theorem ref6_as (N : Nat) (hT : TextT N) (x : Hd) (ks : List Tm) (p : Nat) (w : World) (a : Option Addr) (n c : Nat) (hs : (Tm.mk x ks).size ≤ N) (hz : (Tm.mk x ks).size ≤ 1000000) (hn : ∀ u, u ∈ (Tm.mk x ks).all → u.node = true) (ht : IsTm w (.mk x ks) (.agg #[.int .u8 x.k, .int .u8 x.op, .int .i64 x.pos, .int .i64 x.n, .string x.name, .string x.arg, .string x.exn, .slice a n c])) :
    Calls Tryz.prog 51 #[.agg #[.int .u8 x.k, .int .u8 x.op, .int .i64 x.pos, .int .i64 x.n, .string x.name, .string x.arg, .string x.exn, .slice a n c], .int .i64 (p : Nat)] w fun e w' => e = .returned (.string (bs (joinW ((Tm.mk x ks).kw p)))) ∧ Ext w w' := by
  have ok := node_ok (hn _ (Tm.self_all _))
  have KP := hid fun W => ref6_part x a n c W ok.op9
  have KT := hid fun W (h : Ext w W) => hT x ks W a n c hs hz hn (ht.ext h)
  have hne := wk_pos _ hn
  by_cases hp : x.part < p
  · have HE := hid (kw_text hne (t := .mk x ks) hp)
    have hzp : (x.part : Int) < (p : Int) := by omega
    have hsz : (bs (joinW (Tm.mk x ks).wk)).size ≤ 200000000 := by
      have h1 := joinW_len _ (words_ok _ hn)
      have h2 := wk_size _ hn
      rw [bs_size]
      omega
    generalize bs (joinW ((Tm.mk x ks).kw p)) = J at *
    generalize bs (joinW ((Tm.mk x ks).wk)) = J2 at *
    have n1 : ¬ 9223372036854775807 < 2 + J2.size := by omega
    have n2 : ¬ 9223372036854775807 < 2 + J2.size + 2 := by omega
    clear hp hne ok hs hz hn ht hT hsz
    generalize x.part = q at *
    go_enter Tryz.func51, Tryz.ntmps51
    go_upto_region 2 with (go_at_call 85; refine (KP.out _).mono ?_; rintro e w1 ⟨rfl, x1⟩; obtain ⟨d0, d1, d2, d3, d4, d5, d6, d7⟩ := ((Blk.new w 28 #[.int .u8 x.k, .int .u8 x.op, .int .i64 x.pos, .int .i64 x.n, .string x.name, .string x.arg, .string x.exn, .slice a n c]).ext x1).eight)
    obtain ⟨d0, d1, d2, d3, d4, d5, d6, d7⟩ := ((Blk.new w 28 #[.int .u8 x.k, .int .u8 x.op, .int .i64 x.pos, .int .i64 x.n, .string x.name, .string x.arg, .string x.exn, .slice a n c]).ext x1).eight
    go_wp2_with (go_at_call 23; refine (KT.out _ (by (exact eX))).mono ?_; rintro e w2 ⟨rfl, x2⟩)
    go_ret
    exact ⟨by rw [HE.out]; rfl, by (exact eX)⟩
  · have e1 : (Tm.mk x ks).kw p = (Tm.mk x ks).wk := if_neg hp
    rw [e1]
    have hzp : ¬ (x.part : Int) < (p : Int) := by omega
    generalize joinW ((Tm.mk x ks).wk) = J2 at *
    clear hp hne ok hs hz hn ht hT e1
    generalize x.part = q at *
    go_enter Tryz.func51, Tryz.ntmps51
    go_upto_region 3 with (go_at_call 85; refine (KP.out _).mono ?_; rintro e w1 ⟨rfl, x1⟩; obtain ⟨d0, d1, d2, d3, d4, d5, d6, d7⟩ := ((Blk.new w 28 #[.int .u8 x.k, .int .u8 x.op, .int .i64 x.pos, .int .i64 x.n, .string x.name, .string x.arg, .string x.exn, .slice a n c]).ext x1).eight)
    obtain ⟨d0, d1, d2, d3, d4, d5, d6, d7⟩ := ((Blk.new w 28 #[.int .u8 x.k, .int .u8 x.op, .int .i64 x.pos, .int .i64 x.n, .string x.name, .string x.arg, .string x.exn, .slice a n c]).ext x1).eight
    go_wp2_with (go_at_call 23; refine (KT.out _ (by (exact eX))).mono ?_; rintro e w2 ⟨rfl, x2⟩)
    go_ret
    exact ⟨rfl, by (exact eX)⟩
end Go.Proofs.YtaioeailgknfjaaGreatDoor

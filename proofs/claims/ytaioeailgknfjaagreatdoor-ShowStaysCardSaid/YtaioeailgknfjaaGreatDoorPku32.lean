/- Part 32 of the proof: Parse15; no condition of ours. -/
import Derived.Test.YtaioeailgknfjaaGreatDoorPku19
set_option linter.unusedVariables false
set_option linter.unusedSimpArgs false
namespace Go.Proofs.YtaioeailgknfjaaGreatDoor
open Go Go.RowKit Go.Sort
def RetSub (pb b1 bt : Nat) (x : Hd) (ms : List Tm) (w : World) (r : Res Tm) (e : Ending) (w' : World) : Prop :=
  ExtX (fun b => b = pb ∨ bt ≤ b) w w' ∧ match r with
  | .ok (t, l) => e = .returned (.tuple #[]) ∧ Prs w' pb l ∧ ∃ a' c' xs', Sub8 pb b1 bt x (ms ++ [t]) a' c' xs' w'
  | .error l => e = thrown l
set_option maxRecDepth 8000 in
set_option maxHeartbeats 8000000 in
theorem parse_sub0 (f : Nat) (hE : Does 31 .expr f) (pb b1 bt : Nat) (x : Hd) (ms : List Tm) (a : Option Addr) (c : Nat) (xs : List Value) (l : List Tk) (r : Res Tm) (w : World)  (hS : Sub8 pb b1 bt x ms a c xs w) (hms : ms.length ≤ 2) (h : Prs w pb l) (he : Ended l) (hp : (parseF f .expr l) = some r) :
    Calls Tryz.prog 59 #[.slice none 0 0, .pointer (some ⟨b1, 0, none⟩), .pointer (some ⟨bt, 0, none⟩)] w (RetSub pb b1 bt x ms w r) := by
  have o1 := hS.o1
  have o2 := hS.o2
  have p0 := hS.ptr.cell 0
  simp at p0
  obtain ⟨i0, hi, hz0, hz1', hz2'⟩ := info_parts infoTmP
  have HI := Lib.hid (And.intro hi (And.intro hz0 (And.intro hz1' hz2')))
  clear hi hz0 hz1' hz2'
  have hlp := hS.ptr.lt
  have hzL : ((ms.length : Nat) : Int) < ((ms.length : Nat) : Int) + 1 := by omega
  have HPM := Lib.hid hp
  have HE := Lib.hid hE
  have he1 := he
  have hpm := HPM.out
  obtain ⟨l1, hl1⟩ : ∃ l1, l1 = l := ⟨_, rfl⟩
  subst hl1
  obtain ⟨w2, hw2⟩ : ∃ w2, w2 = w := ⟨_, rfl⟩
  subst hw2
  have P2 := h
  have S2 := hS
  have X2 := Lib.hid (ExtX.refl (A := fun b => b = pb ∨ bt ≤ b) w2)
  clear hS hp h he hE p0
  go_enter Tryz.func59, Tryz.ntmps59
  have n1 := fun W (h : ExtX (fun b => b = pb ∨ bt ≤ b) w2 W) => (S2.ptr.extx h (show ¬ (b1 = pb ∨ bt ≤ b1) by omega)).cell 0
  simp at n1
  have k7 := S2.tm.eight.2.2.2.2.2.2.2
  have hlt2 := S2.tm.lt
  have hcl0 := S2.le
  have hcc0 := S2.cap
  have HS2 := Lib.hid S2
  have HP2 := Lib.hid P2
  have HE1 := Lib.hid he1
  have HPM2 := Lib.hid hpm
  clear S2 P2 he1 hpm HPM
  cases e5 : parseF f .expr l1 with
  | none => have := HPM2.out; rw [e5] at this; cases this
  | some r5 =>
  have KE := Lib.hid fun W (hP : Prs W pb l1) => HE.out pb W l1 r5 hP HE1.out e5
  have hpm := HPM2.out
  rw [e5] at hpm
  obtain rfl : r5 = r := Option.some.inj hpm
  clear hpm
  cases r5 with
  | error l' =>
    clear e5
    go_upto_region 2 with fail
    refine wp_region_held_drew (S := fun w' => ExtX (fun b => b = pb ∨ bt ≤ b) w2 w') (by kernel_rfl) (by (try dsimp only); (exact xX)) (fun hHeld => ?_)
    refine tK 0 (v := ?_) ?_ ?_;rotate_left;(focus (intro w hSw;(try dsimp only at hSw);go_simp;(try with_reducible rfl)));try simp only [Act.put,pA,pB,pC]
    refine tK 2 (v := ?_) ?_ ?_;rotate_left;(focus (intro w hSw;(try dsimp only at hSw);go_simp;(try with_reducible rfl)));try simp only [Act.put,pA,pB,pC]
    refine wpAnyH_ready (rs := [1, 3, 5]) (by kernel_rfl) (by simp) ?_
    refine held_cons 1 rfl (by rfl) (fun K hK => ?_) (held_cons 3 rfl (by rfl) (fun K hK => ?_) (held_cons 5 rfl (by rfl) (fun K hK => ?_) AllReadyH.nil))
    go_simp; refine hK.out _ _ (by (try dsimp only); (exact xX)) (fun hHeld => ?_); clear hK K; try simp only [Act.put,pA,pB,pC]
    refine tK 4 (v := ?_) ?_ ?_;rotate_left;(focus (intro w hSw;(try dsimp only at hSw);go_simp;(try with_reducible rfl)));try simp only [Act.put,pA,pB,pC]
    refine wpAnyH_ready (rs := [3, 5]) (by kernel_rfl) (by simp) ?_
    refine held_cons 3 rfl (by rfl) (fun K hK => ?_) (held_cons 5 rfl (by rfl) (fun K hK => ?_) AllReadyH.nil)
    go_simp; (first | (refine (KE.out _ (HP2.out.ext (by (exact eX)))).mono ?_; intro e w5 hh; obtain ⟨rfl, x5⟩ := hh.error; exact ⟨rfl, X2.out.trans ((by (exact xX) : ExtX (fun b => b = pb ∨ bt ≤ b) w2 _).trans (x5.mono (fun b hb => .inl hb))), rfl⟩))
    go_simp; refine hK.out _ _ (by (try dsimp only); (exact xX)) (fun hHeld => ?_); clear hK K; try simp only [Act.put,pA,pB,pC]
    refine held_do 3 rfl (by kernel_rfl) (by rfl) (fun K hK => ?_); go_simp; (first | (refine (KE.out _ (HP2.out.ext (by (exact eX)))).mono ?_; intro e w5 hh; obtain ⟨rfl, x5⟩ := hh.error; exact ⟨rfl, X2.out.trans ((by (exact xX) : ExtX (fun b => b = pb ∨ bt ≤ b) w2 _).trans (x5.mono (fun b hb => .inl hb))), rfl⟩))
    rotate_left 0
    go_simp; (first | (refine (KE.out _ (HP2.out.ext (by (exact eX)))).mono ?_; intro e w5 hh; obtain ⟨rfl, x5⟩ := hh.error; exact ⟨rfl, X2.out.trans ((by (exact xX) : ExtX (fun b => b = pb ∨ bt ≤ b) w2 _).trans (x5.mono (fun b hb => .inl hb))), rfl⟩))
    go_simp; refine hK.out _ _ (by (try dsimp only); (exact xX)) (fun hHeld => ?_); clear hK K; try simp only [Act.put,pA,pB,pC]
    refine wpAnyH_ready (rs := [1, 3]) (by kernel_rfl) (by simp) ?_
    refine held_cons 1 rfl (by rfl) (fun K hK => ?_) (held_cons 3 rfl (by rfl) (fun K hK => ?_) AllReadyH.nil)
    go_simp; refine hK.out _ _ (by (try dsimp only); (exact xX)) (fun hHeld => ?_); clear hK K; try simp only [Act.put,pA,pB,pC]
    refine tK 4 (v := ?_) ?_ ?_;rotate_left;(focus (intro w hSw;(try dsimp only at hSw);go_simp;(try with_reducible rfl)));try simp only [Act.put,pA,pB,pC]
    refine held_do 3 rfl (by kernel_rfl) (by rfl) (fun K hK => ?_); go_simp; (first | (refine (KE.out _ (HP2.out.ext (by (exact eX)))).mono ?_; intro e w5 hh; obtain ⟨rfl, x5⟩ := hh.error; exact ⟨rfl, X2.out.trans ((by (exact xX) : ExtX (fun b => b = pb ∨ bt ≤ b) w2 _).trans (x5.mono (fun b hb => .inl hb))), rfl⟩))
    rotate_left 0
    go_simp; (first | (refine (KE.out _ (HP2.out.ext (by (exact eX)))).mono ?_; intro e w5 hh; obtain ⟨rfl, x5⟩ := hh.error; exact ⟨rfl, X2.out.trans ((by (exact xX) : ExtX (fun b => b = pb ∨ bt ≤ b) w2 _).trans (x5.mono (fun b hb => .inl hb))), rfl⟩))
  | ok p5 =>
    obtain ⟨⟨xb, kb⟩, l3⟩ := p5
    clear e5 HPM2
    go_upto_region 2 with fail
    refine wp_region_held_drew (S := fun w' => ExtX (fun b => b = pb ∨ bt ≤ b) w2 w') (by kernel_rfl) (by (try dsimp only); (exact xX)) (fun hHeld => ?_)
    refine tK 0 (v := ?_) ?_ ?_;rotate_left;(focus (intro w hSw;(try dsimp only at hSw);go_simp;(try with_reducible rfl)));try simp only [Act.put,pA,pB,pC]
    refine tK 2 (v := ?_) ?_ ?_;rotate_left;(focus (intro w hSw;(try dsimp only at hSw);go_simp;(try with_reducible rfl)));try simp only [Act.put,pA,pB,pC]
    refine wpAnyH_ready (rs := [1, 3, 5]) (by kernel_rfl) (by simp) ?_
    refine held_cons 1 rfl (by rfl) (fun K hK => ?_) (held_cons 3 rfl (by rfl) (fun K hK => ?_) (held_cons 5 rfl (by rfl) (fun K hK => ?_) AllReadyH.nil))
    go_simp; refine hK.out _ _ (by (try dsimp only); (exact xX)) (fun hHeld => ?_); clear hK K; try simp only [Act.put,pA,pB,pC]
    refine tK 4 (v := ?_) ?_ ?_;rotate_left;(focus (intro w hSw;(try dsimp only at hSw);go_simp;(try with_reducible rfl)));try simp only [Act.put,pA,pB,pC]
    refine wpAnyH_ready (rs := [3, 5]) (by kernel_rfl) (by simp) ?_
    refine held_cons 3 rfl (by rfl) (fun K hK => ?_) (held_cons 5 rfl (by rfl) (fun K hK => ?_) AllReadyH.nil)
    go_simp; (first | (refine (KE.out _ (HP2.out.ext (by (exact eX)))).mono ?_; intro e w5 hh; obtain ⟨v5, rfl, ⟨ab, nb, cb, rfl, fb, k1, k2, hTb⟩, hp5, x5⟩ := hh.ok; have y5 : ExtX (· = pb) w2 w5 := (by first | exact ((ExtX.refl w2).drew).trans x5 | exact (((ExtX.refl w2).alloc _).drew).trans x5); have z5 := y5.mono (A' := fun b => b = pb ∨ bt ≤ b) (fun b h => .inl h); have HTb2 := Lib.hid (show IsTmsA (fun b => b < w2.heap.size) w5 kb ab nb from hTb.off (fun b _ hb => (by have hb : b < w2.heap.size := hb; simp; try omega))); have hS5 := HS2.out.extx y5; have e7 := hS5.tm.eight.2.2.2.2.2.2.2; have hl5 := hS5.tm.lt; have HS5 := Lib.hid hS5; have hs5 := y5.size; have HFB := Lib.hid fb; (try (have HQ5 := Lib.hid (show Blk w5 w2.heap.size 28 zeroT from (Blk.new w2 28 zeroT).drew.nez x5 (by omega)))); clear hTb hh hS5)); (try (focus (go_wp2_with fail))); refine hK.out _ _ (by (try dsimp only); (exact xX)) (fun hHeld => ?_); clear hK K; try simp only [Act.put,pA,pB,pC]
    refine held_do 5 rfl (by kernel_rfl) (by rfl) (fun K hK => ?_); go_simp; refine hK.out _ _ (by (try dsimp only); (exact xX)) (fun hHeld => ?_); clear hK K; try simp only [Act.put,pA,pB,pC]
    refine held_do 6 rfl (by kernel_rfl) (by rfl) (fun K hK => ?_); (first | (refine wp_append_mine (.tmp 11) (.tmp 15) 26 rfl (bt + 1) 28 i0 (.agg #[.int .u8 0, .int .u8 0, .int .i64 0, .int .i64 0, .string ⟨#[]⟩, .string ⟨#[]⟩, .string ⟨#[]⟩, .slice none 0 0]) 8 96 Tryz.underlying26 HI.out.1 HI.out.2.1 HI.out.2.2.1 HI.out.2.2.2 rfl (by decide) (Value.slice a ms.length c) ms.length xs rfl HS5.out.own ⟨w2.heap.size, 0, none⟩ 1 1 zeroT.toList rfl rfl (zero_at HQ5.out) zeroT_one (by unfold maxLen; omega) (by omega) (by first | omega | (simp; omega)) ?_; intro v9 w9 ho9 hg9 hw9; have z9 : ExtX (fun b => b = pb ∨ bt ≤ b) w2 w9 := ExtX.grow_ z5 hg9 (fun k hk => .inr (by have := (HS5.out.own.lt k hk).1; omega)); obtain ⟨g5, c5, rfl, hH⟩ := Half8.of HS2.out y5 (Ext.refl w5) HTb2.out k1 k2 HFB.out ho9 hg9 hw9; obtain ⟨q0, q1, q2, q3, q4, q5, q6, q7⟩ := hH.cells; have d7 := hH.tm.eight.2.2.2.2.2.2.2; have d8 := hH.tm.frozen 7; have m0 := hH.own.frozenAt (ms.length * 8); have m1 := hH.own.frozenAt (ms.length * 8 + 1); have m2 := hH.own.frozenAt (ms.length * 8 + 2); have m3 := hH.own.frozenAt (ms.length * 8 + 3); have m4 := hH.own.frozenAt (ms.length * 8 + 4); have m5 := hH.own.frozenAt (ms.length * 8 + 5); have m6 := hH.own.frozenAt (ms.length * 8 + 6); have m7 := hH.own.frozenAt (ms.length * 8 + 7); have hn1 : bt ≠ g5 := (by have := hH.up; omega); have hn2 : g5 ≠ bt := (by have := hH.up; omega); have hlg : g5 < w9.heap.size := block_lt_of_cell q0; have hlt9 := hH.tm.lt; have hP9 := Lib.hid ((hp5).grown_ hg9 (fun k hk => by have := (HS5.out.own.lt k hk).1; omega)); have HH := Lib.hid hH; have hup := hH.up; have hge : bt ≤ g5 := (by omega); have hcl : ms.length + 1 ≤ c5 := hH.le; have hcc := hH.cap; clear hH ho9 hg9 hw9) | (refine wp_append_mine (.tmp 11) (.tmp 15) 26 rfl (bt + 1) 28 i0 (.agg #[.int .u8 0, .int .u8 0, .int .i64 0, .int .i64 0, .string ⟨#[]⟩, .string ⟨#[]⟩, .string ⟨#[]⟩, .slice none 0 0]) 8 96 Tryz.underlying26 HI.out.1 HI.out.2.1 HI.out.2.2.1 HI.out.2.2.2 rfl (by decide) (Value.slice a ms.length c) ms.length xs rfl (HS5.out.own.alloc _) ⟨w5.heap.size, 0, none⟩ 1 1 zeroT.toList rfl rfl (zero_at (Blk.new w5 28 zeroT)) zeroT_one (by unfold maxLen; omega) (by omega) (by first | omega | (simp; omega)) ?_; intro v9 w9 ho9 hg9 hw9; have z9 : ExtX (fun b => b = pb ∨ bt ≤ b) w2 w9 := ExtX.grow_ (z5.then_ ((Ext.refl w5).alloc _)) hg9 (fun k hk => .inr (by have := (HS5.out.own.lt k hk).1; omega)); obtain ⟨g5, c5, rfl, hH⟩ := Half8.of HS2.out y5 ((Ext.refl w5).alloc _) HTb2.out k1 k2 HFB.out ho9 hg9 hw9; obtain ⟨q0, q1, q2, q3, q4, q5, q6, q7⟩ := hH.cells; have d7 := hH.tm.eight.2.2.2.2.2.2.2; have d8 := hH.tm.frozen 7; have m0 := hH.own.frozenAt (ms.length * 8); have m1 := hH.own.frozenAt (ms.length * 8 + 1); have m2 := hH.own.frozenAt (ms.length * 8 + 2); have m3 := hH.own.frozenAt (ms.length * 8 + 3); have m4 := hH.own.frozenAt (ms.length * 8 + 4); have m5 := hH.own.frozenAt (ms.length * 8 + 5); have m6 := hH.own.frozenAt (ms.length * 8 + 6); have m7 := hH.own.frozenAt (ms.length * 8 + 7); have hn1 : bt ≠ g5 := (by have := hH.up; omega); have hn2 : g5 ≠ bt := (by have := hH.up; omega); have hlg : g5 < w9.heap.size := block_lt_of_cell q0; have hlt9 := hH.tm.lt; have hP9 := Lib.hid ((hp5.ext ((Ext.refl w5).alloc _)).grown_ hg9 (fun k hk => by have := (HS5.out.own.lt k hk).1; omega)); have HH := Lib.hid hH; have hup := hH.up; have hge : bt ≤ g5 := (by omega); have hcl : ms.length + 1 ≤ c5 := hH.le; have hcc := hH.cap; clear hH ho9 hg9 hw9)); refine hK.out _ _ (by (try dsimp only); (exact xX)) (fun hHeld => ?_); clear hK K; try simp only [Act.put,pA,pB,pC]
    refine tK 7 (v := ?_) ?_ ?_;rotate_left;(focus (intro w hSw;(try dsimp only at hSw);go_simp;(try with_reducible rfl)));try simp only [Act.put,pA,pB,pC]
    refine tK 9 (v := ?_) ?_ ?_;rotate_left;(focus (intro w hSw;(try dsimp only at hSw);go_simp;(try with_reducible rfl)));try simp only [Act.put,pA,pB,pC]
    refine wpAnyH_ready (rs := [8, 10]) (by kernel_rfl) (by simp) ?_
    refine held_cons 8 rfl (by rfl) (fun K hK => ?_) (held_cons 10 rfl (by rfl) (fun K hK => ?_) AllReadyH.nil)
    go_simp; refine hK.out _ _ (by (try dsimp only); (exact xX)) (fun hHeld => ?_); clear hK K; try simp only [Act.put,pA,pB,pC]
    refine held_do 10 rfl (by kernel_rfl) (by rfl) (fun K hK => ?_); go_simp; refine hK.out _ _ (by (try dsimp only); (exact xX)) (fun hHeld => ?_); clear hK K; try simp only [Act.put,pA,pB,pC]
    refine wpAnyH_done (by kernel_rfl) ?_ _
    rotate_left 1
    go_simp; refine hK.out _ _ (by (try dsimp only); (exact xX)) (fun hHeld => ?_); clear hK K; try simp only [Act.put,pA,pB,pC]
    refine held_do 8 rfl (by kernel_rfl) (by rfl) (fun K hK => ?_); go_simp; refine hK.out _ _ (by (try dsimp only); (exact xX)) (fun hHeld => ?_); clear hK K; try simp only [Act.put,pA,pB,pC]
    refine wpAnyH_done (by kernel_rfl) ?_ _
    rotate_left 1
    go_simp; refine hK.out _ _ (by (try dsimp only); (exact xX)) (fun hHeld => ?_); clear hK K; try simp only [Act.put,pA,pB,pC]
    refine held_do 3 rfl (by kernel_rfl) (by rfl) (fun K hK => ?_); go_simp; (first | (refine (KE.out _ (HP2.out.ext (by (exact eX)))).mono ?_; intro e w5 hh; obtain ⟨v5, rfl, ⟨ab, nb, cb, rfl, fb, k1, k2, hTb⟩, hp5, x5⟩ := hh.ok; have y5 : ExtX (· = pb) w2 w5 := (by first | exact ((ExtX.refl w2).drew).trans x5 | exact (((ExtX.refl w2).alloc _).drew).trans x5); have z5 := y5.mono (A' := fun b => b = pb ∨ bt ≤ b) (fun b h => .inl h); have HTb2 := Lib.hid (show IsTmsA (fun b => b < w2.heap.size) w5 kb ab nb from hTb.off (fun b _ hb => (by have hb : b < w2.heap.size := hb; simp; try omega))); have hS5 := HS2.out.extx y5; have e7 := hS5.tm.eight.2.2.2.2.2.2.2; have hl5 := hS5.tm.lt; have HS5 := Lib.hid hS5; have hs5 := y5.size; have HFB := Lib.hid fb; (try (have HQ5 := Lib.hid (show Blk w5 w2.heap.size 28 zeroT from (Blk.new w2 28 zeroT).drew.nez x5 (by omega)))); clear hTb hh hS5)); (try (focus (go_wp2_with fail))); refine hK.out _ _ (by (try dsimp only); (exact xX)) (fun hHeld => ?_); clear hK K; try simp only [Act.put,pA,pB,pC]
    refine held_do 6 rfl (by kernel_rfl) (by rfl) (fun K hK => ?_); (first | (refine wp_append_mine (.tmp 11) (.tmp 15) 26 rfl (bt + 1) 28 i0 (.agg #[.int .u8 0, .int .u8 0, .int .i64 0, .int .i64 0, .string ⟨#[]⟩, .string ⟨#[]⟩, .string ⟨#[]⟩, .slice none 0 0]) 8 96 Tryz.underlying26 HI.out.1 HI.out.2.1 HI.out.2.2.1 HI.out.2.2.2 rfl (by decide) (Value.slice a ms.length c) ms.length xs rfl HS5.out.own ⟨w2.heap.size, 0, none⟩ 1 1 zeroT.toList rfl rfl (zero_at HQ5.out) zeroT_one (by unfold maxLen; omega) (by omega) (by first | omega | (simp; omega)) ?_; intro v9 w9 ho9 hg9 hw9; have z9 : ExtX (fun b => b = pb ∨ bt ≤ b) w2 w9 := ExtX.grow_ z5 hg9 (fun k hk => .inr (by have := (HS5.out.own.lt k hk).1; omega)); obtain ⟨g5, c5, rfl, hH⟩ := Half8.of HS2.out y5 (Ext.refl w5) HTb2.out k1 k2 HFB.out ho9 hg9 hw9; obtain ⟨q0, q1, q2, q3, q4, q5, q6, q7⟩ := hH.cells; have d7 := hH.tm.eight.2.2.2.2.2.2.2; have d8 := hH.tm.frozen 7; have m0 := hH.own.frozenAt (ms.length * 8); have m1 := hH.own.frozenAt (ms.length * 8 + 1); have m2 := hH.own.frozenAt (ms.length * 8 + 2); have m3 := hH.own.frozenAt (ms.length * 8 + 3); have m4 := hH.own.frozenAt (ms.length * 8 + 4); have m5 := hH.own.frozenAt (ms.length * 8 + 5); have m6 := hH.own.frozenAt (ms.length * 8 + 6); have m7 := hH.own.frozenAt (ms.length * 8 + 7); have hn1 : bt ≠ g5 := (by have := hH.up; omega); have hn2 : g5 ≠ bt := (by have := hH.up; omega); have hlg : g5 < w9.heap.size := block_lt_of_cell q0; have hlt9 := hH.tm.lt; have hP9 := Lib.hid ((hp5).grown_ hg9 (fun k hk => by have := (HS5.out.own.lt k hk).1; omega)); have HH := Lib.hid hH; have hup := hH.up; have hge : bt ≤ g5 := (by omega); have hcl : ms.length + 1 ≤ c5 := hH.le; have hcc := hH.cap; clear hH ho9 hg9 hw9) | (refine wp_append_mine (.tmp 11) (.tmp 15) 26 rfl (bt + 1) 28 i0 (.agg #[.int .u8 0, .int .u8 0, .int .i64 0, .int .i64 0, .string ⟨#[]⟩, .string ⟨#[]⟩, .string ⟨#[]⟩, .slice none 0 0]) 8 96 Tryz.underlying26 HI.out.1 HI.out.2.1 HI.out.2.2.1 HI.out.2.2.2 rfl (by decide) (Value.slice a ms.length c) ms.length xs rfl (HS5.out.own.alloc _) ⟨w5.heap.size, 0, none⟩ 1 1 zeroT.toList rfl rfl (zero_at (Blk.new w5 28 zeroT)) zeroT_one (by unfold maxLen; omega) (by omega) (by first | omega | (simp; omega)) ?_; intro v9 w9 ho9 hg9 hw9; have z9 : ExtX (fun b => b = pb ∨ bt ≤ b) w2 w9 := ExtX.grow_ (z5.then_ ((Ext.refl w5).alloc _)) hg9 (fun k hk => .inr (by have := (HS5.out.own.lt k hk).1; omega)); obtain ⟨g5, c5, rfl, hH⟩ := Half8.of HS2.out y5 ((Ext.refl w5).alloc _) HTb2.out k1 k2 HFB.out ho9 hg9 hw9; obtain ⟨q0, q1, q2, q3, q4, q5, q6, q7⟩ := hH.cells; have d7 := hH.tm.eight.2.2.2.2.2.2.2; have d8 := hH.tm.frozen 7; have m0 := hH.own.frozenAt (ms.length * 8); have m1 := hH.own.frozenAt (ms.length * 8 + 1); have m2 := hH.own.frozenAt (ms.length * 8 + 2); have m3 := hH.own.frozenAt (ms.length * 8 + 3); have m4 := hH.own.frozenAt (ms.length * 8 + 4); have m5 := hH.own.frozenAt (ms.length * 8 + 5); have m6 := hH.own.frozenAt (ms.length * 8 + 6); have m7 := hH.own.frozenAt (ms.length * 8 + 7); have hn1 : bt ≠ g5 := (by have := hH.up; omega); have hn2 : g5 ≠ bt := (by have := hH.up; omega); have hlg : g5 < w9.heap.size := block_lt_of_cell q0; have hlt9 := hH.tm.lt; have hP9 := Lib.hid ((hp5.ext ((Ext.refl w5).alloc _)).grown_ hg9 (fun k hk => by have := (HS5.out.own.lt k hk).1; omega)); have HH := Lib.hid hH; have hup := hH.up; have hge : bt ≤ g5 := (by omega); have hcl : ms.length + 1 ≤ c5 := hH.le; have hcc := hH.cap; clear hH ho9 hg9 hw9)); refine hK.out _ _ (by (try dsimp only); (exact xX)) (fun hHeld => ?_); clear hK K; try simp only [Act.put,pA,pB,pC]
    refine tK 7 (v := ?_) ?_ ?_;rotate_left;(focus (intro w hSw;(try dsimp only at hSw);go_simp;(try with_reducible rfl)));try simp only [Act.put,pA,pB,pC]
    refine tK 9 (v := ?_) ?_ ?_;rotate_left;(focus (intro w hSw;(try dsimp only at hSw);go_simp;(try with_reducible rfl)));try simp only [Act.put,pA,pB,pC]
    refine wpAnyH_ready (rs := [8, 10]) (by kernel_rfl) (by simp) ?_
    refine held_cons 8 rfl (by rfl) (fun K hK => ?_) (held_cons 10 rfl (by rfl) (fun K hK => ?_) AllReadyH.nil)
    go_simp; refine hK.out _ _ (by (try dsimp only); (exact xX)) (fun hHeld => ?_); clear hK K; try simp only [Act.put,pA,pB,pC]
    refine held_do 10 rfl (by kernel_rfl) (by rfl) (fun K hK => ?_); go_simp; refine hK.out _ _ (by (try dsimp only); (exact xX)) (fun hHeld => ?_); clear hK K; try simp only [Act.put,pA,pB,pC]
    refine wpAnyH_done (by kernel_rfl) ?_ _
    rotate_left 1
    go_simp; refine hK.out _ _ (by (try dsimp only); (exact xX)) (fun hHeld => ?_); clear hK K; try simp only [Act.put,pA,pB,pC]
    refine held_do 8 rfl (by kernel_rfl) (by rfl) (fun K hK => ?_); go_simp; refine hK.out _ _ (by (try dsimp only); (exact xX)) (fun hHeld => ?_); clear hK K; try simp only [Act.put,pA,pB,pC]
    refine wpAnyH_done (by kernel_rfl) ?_ _
    rotate_left 1
    go_simp; (first | (refine (KE.out _ (HP2.out.ext (by (exact eX)))).mono ?_; intro e w5 hh; obtain ⟨v5, rfl, ⟨ab, nb, cb, rfl, fb, k1, k2, hTb⟩, hp5, x5⟩ := hh.ok; have y5 : ExtX (· = pb) w2 w5 := (by first | exact ((ExtX.refl w2).drew).trans x5 | exact (((ExtX.refl w2).alloc _).drew).trans x5); have z5 := y5.mono (A' := fun b => b = pb ∨ bt ≤ b) (fun b h => .inl h); have HTb2 := Lib.hid (show IsTmsA (fun b => b < w2.heap.size) w5 kb ab nb from hTb.off (fun b _ hb => (by have hb : b < w2.heap.size := hb; simp; try omega))); have hS5 := HS2.out.extx y5; have e7 := hS5.tm.eight.2.2.2.2.2.2.2; have hl5 := hS5.tm.lt; have HS5 := Lib.hid hS5; have hs5 := y5.size; have HFB := Lib.hid fb; (try (have HQ5 := Lib.hid (show Blk w5 w2.heap.size 28 zeroT from (Blk.new w2 28 zeroT).drew.nez x5 (by omega)))); clear hTb hh hS5)); (try (focus (go_wp2_with fail))); refine hK.out _ _ (by (try dsimp only); (exact xX)) (fun hHeld => ?_); clear hK K; try simp only [Act.put,pA,pB,pC]
    refine wpAnyH_ready (rs := [1, 5]) (by kernel_rfl) (by simp) ?_
    refine held_cons 1 rfl (by rfl) (fun K hK => ?_) (held_cons 5 rfl (by rfl) (fun K hK => ?_) AllReadyH.nil)
    go_simp; refine hK.out _ _ (by (try dsimp only); (exact xX)) (fun hHeld => ?_); clear hK K; try simp only [Act.put,pA,pB,pC]
    refine tK 4 (v := ?_) ?_ ?_;rotate_left;(focus (intro w hSw;(try dsimp only at hSw);go_simp;(try with_reducible rfl)));try simp only [Act.put,pA,pB,pC]
    refine held_do 5 rfl (by kernel_rfl) (by rfl) (fun K hK => ?_); go_simp; refine hK.out _ _ (by (try dsimp only); (exact xX)) (fun hHeld => ?_); clear hK K; try simp only [Act.put,pA,pB,pC]
    refine held_do 6 rfl (by kernel_rfl) (by rfl) (fun K hK => ?_); (first | (refine wp_append_mine (.tmp 11) (.tmp 15) 26 rfl (bt + 1) 28 i0 (.agg #[.int .u8 0, .int .u8 0, .int .i64 0, .int .i64 0, .string ⟨#[]⟩, .string ⟨#[]⟩, .string ⟨#[]⟩, .slice none 0 0]) 8 96 Tryz.underlying26 HI.out.1 HI.out.2.1 HI.out.2.2.1 HI.out.2.2.2 rfl (by decide) (Value.slice a ms.length c) ms.length xs rfl HS5.out.own ⟨w2.heap.size, 0, none⟩ 1 1 zeroT.toList rfl rfl (zero_at HQ5.out) zeroT_one (by unfold maxLen; omega) (by omega) (by first | omega | (simp; omega)) ?_; intro v9 w9 ho9 hg9 hw9; have z9 : ExtX (fun b => b = pb ∨ bt ≤ b) w2 w9 := ExtX.grow_ z5 hg9 (fun k hk => .inr (by have := (HS5.out.own.lt k hk).1; omega)); obtain ⟨g5, c5, rfl, hH⟩ := Half8.of HS2.out y5 (Ext.refl w5) HTb2.out k1 k2 HFB.out ho9 hg9 hw9; obtain ⟨q0, q1, q2, q3, q4, q5, q6, q7⟩ := hH.cells; have d7 := hH.tm.eight.2.2.2.2.2.2.2; have d8 := hH.tm.frozen 7; have m0 := hH.own.frozenAt (ms.length * 8); have m1 := hH.own.frozenAt (ms.length * 8 + 1); have m2 := hH.own.frozenAt (ms.length * 8 + 2); have m3 := hH.own.frozenAt (ms.length * 8 + 3); have m4 := hH.own.frozenAt (ms.length * 8 + 4); have m5 := hH.own.frozenAt (ms.length * 8 + 5); have m6 := hH.own.frozenAt (ms.length * 8 + 6); have m7 := hH.own.frozenAt (ms.length * 8 + 7); have hn1 : bt ≠ g5 := (by have := hH.up; omega); have hn2 : g5 ≠ bt := (by have := hH.up; omega); have hlg : g5 < w9.heap.size := block_lt_of_cell q0; have hlt9 := hH.tm.lt; have hP9 := Lib.hid ((hp5).grown_ hg9 (fun k hk => by have := (HS5.out.own.lt k hk).1; omega)); have HH := Lib.hid hH; have hup := hH.up; have hge : bt ≤ g5 := (by omega); have hcl : ms.length + 1 ≤ c5 := hH.le; have hcc := hH.cap; clear hH ho9 hg9 hw9) | (refine wp_append_mine (.tmp 11) (.tmp 15) 26 rfl (bt + 1) 28 i0 (.agg #[.int .u8 0, .int .u8 0, .int .i64 0, .int .i64 0, .string ⟨#[]⟩, .string ⟨#[]⟩, .string ⟨#[]⟩, .slice none 0 0]) 8 96 Tryz.underlying26 HI.out.1 HI.out.2.1 HI.out.2.2.1 HI.out.2.2.2 rfl (by decide) (Value.slice a ms.length c) ms.length xs rfl (HS5.out.own.alloc _) ⟨w5.heap.size, 0, none⟩ 1 1 zeroT.toList rfl rfl (zero_at (Blk.new w5 28 zeroT)) zeroT_one (by unfold maxLen; omega) (by omega) (by first | omega | (simp; omega)) ?_; intro v9 w9 ho9 hg9 hw9; have z9 : ExtX (fun b => b = pb ∨ bt ≤ b) w2 w9 := ExtX.grow_ (z5.then_ ((Ext.refl w5).alloc _)) hg9 (fun k hk => .inr (by have := (HS5.out.own.lt k hk).1; omega)); obtain ⟨g5, c5, rfl, hH⟩ := Half8.of HS2.out y5 ((Ext.refl w5).alloc _) HTb2.out k1 k2 HFB.out ho9 hg9 hw9; obtain ⟨q0, q1, q2, q3, q4, q5, q6, q7⟩ := hH.cells; have d7 := hH.tm.eight.2.2.2.2.2.2.2; have d8 := hH.tm.frozen 7; have m0 := hH.own.frozenAt (ms.length * 8); have m1 := hH.own.frozenAt (ms.length * 8 + 1); have m2 := hH.own.frozenAt (ms.length * 8 + 2); have m3 := hH.own.frozenAt (ms.length * 8 + 3); have m4 := hH.own.frozenAt (ms.length * 8 + 4); have m5 := hH.own.frozenAt (ms.length * 8 + 5); have m6 := hH.own.frozenAt (ms.length * 8 + 6); have m7 := hH.own.frozenAt (ms.length * 8 + 7); have hn1 : bt ≠ g5 := (by have := hH.up; omega); have hn2 : g5 ≠ bt := (by have := hH.up; omega); have hlg : g5 < w9.heap.size := block_lt_of_cell q0; have hlt9 := hH.tm.lt; have hP9 := Lib.hid ((hp5.ext ((Ext.refl w5).alloc _)).grown_ hg9 (fun k hk => by have := (HS5.out.own.lt k hk).1; omega)); have HH := Lib.hid hH; have hup := hH.up; have hge : bt ≤ g5 := (by omega); have hcl : ms.length + 1 ≤ c5 := hH.le; have hcc := hH.cap; clear hH ho9 hg9 hw9)); refine hK.out _ _ (by (try dsimp only); (exact xX)) (fun hHeld => ?_); clear hK K; try simp only [Act.put,pA,pB,pC]
    refine tK 7 (v := ?_) ?_ ?_;rotate_left;(focus (intro w hSw;(try dsimp only at hSw);go_simp;(try with_reducible rfl)));try simp only [Act.put,pA,pB,pC]
    refine tK 9 (v := ?_) ?_ ?_;rotate_left;(focus (intro w hSw;(try dsimp only at hSw);go_simp;(try with_reducible rfl)));try simp only [Act.put,pA,pB,pC]
    refine wpAnyH_ready (rs := [8, 10]) (by kernel_rfl) (by simp) ?_
    refine held_cons 8 rfl (by rfl) (fun K hK => ?_) (held_cons 10 rfl (by rfl) (fun K hK => ?_) AllReadyH.nil)
    go_simp; refine hK.out _ _ (by (try dsimp only); (exact xX)) (fun hHeld => ?_); clear hK K; try simp only [Act.put,pA,pB,pC]
    refine held_do 10 rfl (by kernel_rfl) (by rfl) (fun K hK => ?_); go_simp; refine hK.out _ _ (by (try dsimp only); (exact xX)) (fun hHeld => ?_); clear hK K; try simp only [Act.put,pA,pB,pC]
    refine wpAnyH_done (by kernel_rfl) ?_ _
    rotate_left 1
    go_simp; refine hK.out _ _ (by (try dsimp only); (exact xX)) (fun hHeld => ?_); clear hK K; try simp only [Act.put,pA,pB,pC]
    refine held_do 8 rfl (by kernel_rfl) (by rfl) (fun K hK => ?_); go_simp; refine hK.out _ _ (by (try dsimp only); (exact xX)) (fun hHeld => ?_); clear hK K; try simp only [Act.put,pA,pB,pC]
    refine wpAnyH_done (by kernel_rfl) ?_ _
    rotate_left 1
    go_simp; refine hK.out _ _ (by (try dsimp only); (exact xX)) (fun hHeld => ?_); clear hK K; try simp only [Act.put,pA,pB,pC]
    refine held_do 1 rfl (by kernel_rfl) (by rfl) (fun K hK => ?_); go_simp; refine hK.out _ _ (by (try dsimp only); (exact xX)) (fun hHeld => ?_); clear hK K; try simp only [Act.put,pA,pB,pC]
    refine tK 4 (v := ?_) ?_ ?_;rotate_left;(focus (intro w hSw;(try dsimp only at hSw);go_simp;(try with_reducible rfl)));try simp only [Act.put,pA,pB,pC]
    refine held_do 6 rfl (by kernel_rfl) (by rfl) (fun K hK => ?_); (first | (refine wp_append_mine (.tmp 11) (.tmp 15) 26 rfl (bt + 1) 28 i0 (.agg #[.int .u8 0, .int .u8 0, .int .i64 0, .int .i64 0, .string ⟨#[]⟩, .string ⟨#[]⟩, .string ⟨#[]⟩, .slice none 0 0]) 8 96 Tryz.underlying26 HI.out.1 HI.out.2.1 HI.out.2.2.1 HI.out.2.2.2 rfl (by decide) (Value.slice a ms.length c) ms.length xs rfl HS5.out.own ⟨w2.heap.size, 0, none⟩ 1 1 zeroT.toList rfl rfl (zero_at HQ5.out) zeroT_one (by unfold maxLen; omega) (by omega) (by first | omega | (simp; omega)) ?_; intro v9 w9 ho9 hg9 hw9; have z9 : ExtX (fun b => b = pb ∨ bt ≤ b) w2 w9 := ExtX.grow_ z5 hg9 (fun k hk => .inr (by have := (HS5.out.own.lt k hk).1; omega)); obtain ⟨g5, c5, rfl, hH⟩ := Half8.of HS2.out y5 (Ext.refl w5) HTb2.out k1 k2 HFB.out ho9 hg9 hw9; obtain ⟨q0, q1, q2, q3, q4, q5, q6, q7⟩ := hH.cells; have d7 := hH.tm.eight.2.2.2.2.2.2.2; have d8 := hH.tm.frozen 7; have m0 := hH.own.frozenAt (ms.length * 8); have m1 := hH.own.frozenAt (ms.length * 8 + 1); have m2 := hH.own.frozenAt (ms.length * 8 + 2); have m3 := hH.own.frozenAt (ms.length * 8 + 3); have m4 := hH.own.frozenAt (ms.length * 8 + 4); have m5 := hH.own.frozenAt (ms.length * 8 + 5); have m6 := hH.own.frozenAt (ms.length * 8 + 6); have m7 := hH.own.frozenAt (ms.length * 8 + 7); have hn1 : bt ≠ g5 := (by have := hH.up; omega); have hn2 : g5 ≠ bt := (by have := hH.up; omega); have hlg : g5 < w9.heap.size := block_lt_of_cell q0; have hlt9 := hH.tm.lt; have hP9 := Lib.hid ((hp5).grown_ hg9 (fun k hk => by have := (HS5.out.own.lt k hk).1; omega)); have HH := Lib.hid hH; have hup := hH.up; have hge : bt ≤ g5 := (by omega); have hcl : ms.length + 1 ≤ c5 := hH.le; have hcc := hH.cap; clear hH ho9 hg9 hw9) | (refine wp_append_mine (.tmp 11) (.tmp 15) 26 rfl (bt + 1) 28 i0 (.agg #[.int .u8 0, .int .u8 0, .int .i64 0, .int .i64 0, .string ⟨#[]⟩, .string ⟨#[]⟩, .string ⟨#[]⟩, .slice none 0 0]) 8 96 Tryz.underlying26 HI.out.1 HI.out.2.1 HI.out.2.2.1 HI.out.2.2.2 rfl (by decide) (Value.slice a ms.length c) ms.length xs rfl (HS5.out.own.alloc _) ⟨w5.heap.size, 0, none⟩ 1 1 zeroT.toList rfl rfl (zero_at (Blk.new w5 28 zeroT)) zeroT_one (by unfold maxLen; omega) (by omega) (by first | omega | (simp; omega)) ?_; intro v9 w9 ho9 hg9 hw9; have z9 : ExtX (fun b => b = pb ∨ bt ≤ b) w2 w9 := ExtX.grow_ (z5.then_ ((Ext.refl w5).alloc _)) hg9 (fun k hk => .inr (by have := (HS5.out.own.lt k hk).1; omega)); obtain ⟨g5, c5, rfl, hH⟩ := Half8.of HS2.out y5 ((Ext.refl w5).alloc _) HTb2.out k1 k2 HFB.out ho9 hg9 hw9; obtain ⟨q0, q1, q2, q3, q4, q5, q6, q7⟩ := hH.cells; have d7 := hH.tm.eight.2.2.2.2.2.2.2; have d8 := hH.tm.frozen 7; have m0 := hH.own.frozenAt (ms.length * 8); have m1 := hH.own.frozenAt (ms.length * 8 + 1); have m2 := hH.own.frozenAt (ms.length * 8 + 2); have m3 := hH.own.frozenAt (ms.length * 8 + 3); have m4 := hH.own.frozenAt (ms.length * 8 + 4); have m5 := hH.own.frozenAt (ms.length * 8 + 5); have m6 := hH.own.frozenAt (ms.length * 8 + 6); have m7 := hH.own.frozenAt (ms.length * 8 + 7); have hn1 : bt ≠ g5 := (by have := hH.up; omega); have hn2 : g5 ≠ bt := (by have := hH.up; omega); have hlg : g5 < w9.heap.size := block_lt_of_cell q0; have hlt9 := hH.tm.lt; have hP9 := Lib.hid ((hp5.ext ((Ext.refl w5).alloc _)).grown_ hg9 (fun k hk => by have := (HS5.out.own.lt k hk).1; omega)); have HH := Lib.hid hH; have hup := hH.up; have hge : bt ≤ g5 := (by omega); have hcl : ms.length + 1 ≤ c5 := hH.le; have hcc := hH.cap; clear hH ho9 hg9 hw9)); refine hK.out _ _ (by (try dsimp only); (exact xX)) (fun hHeld => ?_); clear hK K; try simp only [Act.put,pA,pB,pC]
    refine tK 7 (v := ?_) ?_ ?_;rotate_left;(focus (intro w hSw;(try dsimp only at hSw);go_simp;(try with_reducible rfl)));try simp only [Act.put,pA,pB,pC]
    refine tK 9 (v := ?_) ?_ ?_;rotate_left;(focus (intro w hSw;(try dsimp only at hSw);go_simp;(try with_reducible rfl)));try simp only [Act.put,pA,pB,pC]
    refine wpAnyH_ready (rs := [8, 10]) (by kernel_rfl) (by simp) ?_
    refine held_cons 8 rfl (by rfl) (fun K hK => ?_) (held_cons 10 rfl (by rfl) (fun K hK => ?_) AllReadyH.nil)
    go_simp; refine hK.out _ _ (by (try dsimp only); (exact xX)) (fun hHeld => ?_); clear hK K; try simp only [Act.put,pA,pB,pC]
    refine held_do 10 rfl (by kernel_rfl) (by rfl) (fun K hK => ?_); go_simp; refine hK.out _ _ (by (try dsimp only); (exact xX)) (fun hHeld => ?_); clear hK K; try simp only [Act.put,pA,pB,pC]
    refine wpAnyH_done (by kernel_rfl) ?_ _
    rotate_left 1
    go_simp; refine hK.out _ _ (by (try dsimp only); (exact xX)) (fun hHeld => ?_); clear hK K; try simp only [Act.put,pA,pB,pC]
    refine held_do 8 rfl (by kernel_rfl) (by rfl) (fun K hK => ?_); go_simp; refine hK.out _ _ (by (try dsimp only); (exact xX)) (fun hHeld => ?_); clear hK K; try simp only [Act.put,pA,pB,pC]
    refine wpAnyH_done (by kernel_rfl) ?_ _
    rotate_left 1
    go_simp; refine hK.out _ _ (by (try dsimp only); (exact xX)) (fun hHeld => ?_); clear hK K; try simp only [Act.put,pA,pB,pC]
    refine wpAnyH_ready (rs := [1, 3]) (by kernel_rfl) (by simp) ?_
    refine held_cons 1 rfl (by rfl) (fun K hK => ?_) (held_cons 3 rfl (by rfl) (fun K hK => ?_) AllReadyH.nil)
    go_simp; refine hK.out _ _ (by (try dsimp only); (exact xX)) (fun hHeld => ?_); clear hK K; try simp only [Act.put,pA,pB,pC]
    refine tK 4 (v := ?_) ?_ ?_;rotate_left;(focus (intro w hSw;(try dsimp only at hSw);go_simp;(try with_reducible rfl)));try simp only [Act.put,pA,pB,pC]
    refine held_do 3 rfl (by kernel_rfl) (by rfl) (fun K hK => ?_); go_simp; (first | (refine (KE.out _ (HP2.out.ext (by (exact eX)))).mono ?_; intro e w5 hh; obtain ⟨v5, rfl, ⟨ab, nb, cb, rfl, fb, k1, k2, hTb⟩, hp5, x5⟩ := hh.ok; have y5 : ExtX (· = pb) w2 w5 := (by first | exact ((ExtX.refl w2).drew).trans x5 | exact (((ExtX.refl w2).alloc _).drew).trans x5); have z5 := y5.mono (A' := fun b => b = pb ∨ bt ≤ b) (fun b h => .inl h); have HTb2 := Lib.hid (show IsTmsA (fun b => b < w2.heap.size) w5 kb ab nb from hTb.off (fun b _ hb => (by have hb : b < w2.heap.size := hb; simp; try omega))); have hS5 := HS2.out.extx y5; have e7 := hS5.tm.eight.2.2.2.2.2.2.2; have hl5 := hS5.tm.lt; have HS5 := Lib.hid hS5; have hs5 := y5.size; have HFB := Lib.hid fb; (try (have HQ5 := Lib.hid (show Blk w5 w2.heap.size 28 zeroT from (Blk.new w2 28 zeroT).drew.nez x5 (by omega)))); clear hTb hh hS5)); (try (focus (go_wp2_with fail))); refine hK.out _ _ (by (try dsimp only); (exact xX)) (fun hHeld => ?_); clear hK K; try simp only [Act.put,pA,pB,pC]
    refine held_do 6 rfl (by kernel_rfl) (by rfl) (fun K hK => ?_); (first | (refine wp_append_mine (.tmp 11) (.tmp 15) 26 rfl (bt + 1) 28 i0 (.agg #[.int .u8 0, .int .u8 0, .int .i64 0, .int .i64 0, .string ⟨#[]⟩, .string ⟨#[]⟩, .string ⟨#[]⟩, .slice none 0 0]) 8 96 Tryz.underlying26 HI.out.1 HI.out.2.1 HI.out.2.2.1 HI.out.2.2.2 rfl (by decide) (Value.slice a ms.length c) ms.length xs rfl HS5.out.own ⟨w2.heap.size, 0, none⟩ 1 1 zeroT.toList rfl rfl (zero_at HQ5.out) zeroT_one (by unfold maxLen; omega) (by omega) (by first | omega | (simp; omega)) ?_; intro v9 w9 ho9 hg9 hw9; have z9 : ExtX (fun b => b = pb ∨ bt ≤ b) w2 w9 := ExtX.grow_ z5 hg9 (fun k hk => .inr (by have := (HS5.out.own.lt k hk).1; omega)); obtain ⟨g5, c5, rfl, hH⟩ := Half8.of HS2.out y5 (Ext.refl w5) HTb2.out k1 k2 HFB.out ho9 hg9 hw9; obtain ⟨q0, q1, q2, q3, q4, q5, q6, q7⟩ := hH.cells; have d7 := hH.tm.eight.2.2.2.2.2.2.2; have d8 := hH.tm.frozen 7; have m0 := hH.own.frozenAt (ms.length * 8); have m1 := hH.own.frozenAt (ms.length * 8 + 1); have m2 := hH.own.frozenAt (ms.length * 8 + 2); have m3 := hH.own.frozenAt (ms.length * 8 + 3); have m4 := hH.own.frozenAt (ms.length * 8 + 4); have m5 := hH.own.frozenAt (ms.length * 8 + 5); have m6 := hH.own.frozenAt (ms.length * 8 + 6); have m7 := hH.own.frozenAt (ms.length * 8 + 7); have hn1 : bt ≠ g5 := (by have := hH.up; omega); have hn2 : g5 ≠ bt := (by have := hH.up; omega); have hlg : g5 < w9.heap.size := block_lt_of_cell q0; have hlt9 := hH.tm.lt; have hP9 := Lib.hid ((hp5).grown_ hg9 (fun k hk => by have := (HS5.out.own.lt k hk).1; omega)); have HH := Lib.hid hH; have hup := hH.up; have hge : bt ≤ g5 := (by omega); have hcl : ms.length + 1 ≤ c5 := hH.le; have hcc := hH.cap; clear hH ho9 hg9 hw9) | (refine wp_append_mine (.tmp 11) (.tmp 15) 26 rfl (bt + 1) 28 i0 (.agg #[.int .u8 0, .int .u8 0, .int .i64 0, .int .i64 0, .string ⟨#[]⟩, .string ⟨#[]⟩, .string ⟨#[]⟩, .slice none 0 0]) 8 96 Tryz.underlying26 HI.out.1 HI.out.2.1 HI.out.2.2.1 HI.out.2.2.2 rfl (by decide) (Value.slice a ms.length c) ms.length xs rfl (HS5.out.own.alloc _) ⟨w5.heap.size, 0, none⟩ 1 1 zeroT.toList rfl rfl (zero_at (Blk.new w5 28 zeroT)) zeroT_one (by unfold maxLen; omega) (by omega) (by first | omega | (simp; omega)) ?_; intro v9 w9 ho9 hg9 hw9; have z9 : ExtX (fun b => b = pb ∨ bt ≤ b) w2 w9 := ExtX.grow_ (z5.then_ ((Ext.refl w5).alloc _)) hg9 (fun k hk => .inr (by have := (HS5.out.own.lt k hk).1; omega)); obtain ⟨g5, c5, rfl, hH⟩ := Half8.of HS2.out y5 ((Ext.refl w5).alloc _) HTb2.out k1 k2 HFB.out ho9 hg9 hw9; obtain ⟨q0, q1, q2, q3, q4, q5, q6, q7⟩ := hH.cells; have d7 := hH.tm.eight.2.2.2.2.2.2.2; have d8 := hH.tm.frozen 7; have m0 := hH.own.frozenAt (ms.length * 8); have m1 := hH.own.frozenAt (ms.length * 8 + 1); have m2 := hH.own.frozenAt (ms.length * 8 + 2); have m3 := hH.own.frozenAt (ms.length * 8 + 3); have m4 := hH.own.frozenAt (ms.length * 8 + 4); have m5 := hH.own.frozenAt (ms.length * 8 + 5); have m6 := hH.own.frozenAt (ms.length * 8 + 6); have m7 := hH.own.frozenAt (ms.length * 8 + 7); have hn1 : bt ≠ g5 := (by have := hH.up; omega); have hn2 : g5 ≠ bt := (by have := hH.up; omega); have hlg : g5 < w9.heap.size := block_lt_of_cell q0; have hlt9 := hH.tm.lt; have hP9 := Lib.hid ((hp5.ext ((Ext.refl w5).alloc _)).grown_ hg9 (fun k hk => by have := (HS5.out.own.lt k hk).1; omega)); have HH := Lib.hid hH; have hup := hH.up; have hge : bt ≤ g5 := (by omega); have hcl : ms.length + 1 ≤ c5 := hH.le; have hcc := hH.cap; clear hH ho9 hg9 hw9)); refine hK.out _ _ (by (try dsimp only); (exact xX)) (fun hHeld => ?_); clear hK K; try simp only [Act.put,pA,pB,pC]
    refine tK 7 (v := ?_) ?_ ?_;rotate_left;(focus (intro w hSw;(try dsimp only at hSw);go_simp;(try with_reducible rfl)));try simp only [Act.put,pA,pB,pC]
    refine tK 9 (v := ?_) ?_ ?_;rotate_left;(focus (intro w hSw;(try dsimp only at hSw);go_simp;(try with_reducible rfl)));try simp only [Act.put,pA,pB,pC]
    refine wpAnyH_ready (rs := [8, 10]) (by kernel_rfl) (by simp) ?_
    refine held_cons 8 rfl (by rfl) (fun K hK => ?_) (held_cons 10 rfl (by rfl) (fun K hK => ?_) AllReadyH.nil)
    go_simp; refine hK.out _ _ (by (try dsimp only); (exact xX)) (fun hHeld => ?_); clear hK K; try simp only [Act.put,pA,pB,pC]
    refine held_do 10 rfl (by kernel_rfl) (by rfl) (fun K hK => ?_); go_simp; refine hK.out _ _ (by (try dsimp only); (exact xX)) (fun hHeld => ?_); clear hK K; try simp only [Act.put,pA,pB,pC]
    refine wpAnyH_done (by kernel_rfl) ?_ _
    rotate_left 1
    go_simp; refine hK.out _ _ (by (try dsimp only); (exact xX)) (fun hHeld => ?_); clear hK K; try simp only [Act.put,pA,pB,pC]
    refine held_do 8 rfl (by kernel_rfl) (by rfl) (fun K hK => ?_); go_simp; refine hK.out _ _ (by (try dsimp only); (exact xX)) (fun hHeld => ?_); clear hK K; try simp only [Act.put,pA,pB,pC]
    refine wpAnyH_done (by kernel_rfl) ?_ _
    rotate_left 1
    go_simp; (first | (refine (KE.out _ (HP2.out.ext (by (exact eX)))).mono ?_; intro e w5 hh; obtain ⟨v5, rfl, ⟨ab, nb, cb, rfl, fb, k1, k2, hTb⟩, hp5, x5⟩ := hh.ok; have y5 : ExtX (· = pb) w2 w5 := (by first | exact ((ExtX.refl w2).drew).trans x5 | exact (((ExtX.refl w2).alloc _).drew).trans x5); have z5 := y5.mono (A' := fun b => b = pb ∨ bt ≤ b) (fun b h => .inl h); have HTb2 := Lib.hid (show IsTmsA (fun b => b < w2.heap.size) w5 kb ab nb from hTb.off (fun b _ hb => (by have hb : b < w2.heap.size := hb; simp; try omega))); have hS5 := HS2.out.extx y5; have e7 := hS5.tm.eight.2.2.2.2.2.2.2; have hl5 := hS5.tm.lt; have HS5 := Lib.hid hS5; have hs5 := y5.size; have HFB := Lib.hid fb; (try (have HQ5 := Lib.hid (show Blk w5 w2.heap.size 28 zeroT from (Blk.new w2 28 zeroT).drew.nez x5 (by omega)))); clear hTb hh hS5)); (try (focus (go_wp2_with fail))); refine hK.out _ _ (by (try dsimp only); (exact xX)) (fun hHeld => ?_); clear hK K; try simp only [Act.put,pA,pB,pC]
    refine held_do 1 rfl (by kernel_rfl) (by rfl) (fun K hK => ?_); go_simp; refine hK.out _ _ (by (try dsimp only); (exact xX)) (fun hHeld => ?_); clear hK K; try simp only [Act.put,pA,pB,pC]
    refine tK 4 (v := ?_) ?_ ?_;rotate_left;(focus (intro w hSw;(try dsimp only at hSw);go_simp;(try with_reducible rfl)));try simp only [Act.put,pA,pB,pC]
    refine held_do 6 rfl (by kernel_rfl) (by rfl) (fun K hK => ?_); (first | (refine wp_append_mine (.tmp 11) (.tmp 15) 26 rfl (bt + 1) 28 i0 (.agg #[.int .u8 0, .int .u8 0, .int .i64 0, .int .i64 0, .string ⟨#[]⟩, .string ⟨#[]⟩, .string ⟨#[]⟩, .slice none 0 0]) 8 96 Tryz.underlying26 HI.out.1 HI.out.2.1 HI.out.2.2.1 HI.out.2.2.2 rfl (by decide) (Value.slice a ms.length c) ms.length xs rfl HS5.out.own ⟨w2.heap.size, 0, none⟩ 1 1 zeroT.toList rfl rfl (zero_at HQ5.out) zeroT_one (by unfold maxLen; omega) (by omega) (by first | omega | (simp; omega)) ?_; intro v9 w9 ho9 hg9 hw9; have z9 : ExtX (fun b => b = pb ∨ bt ≤ b) w2 w9 := ExtX.grow_ z5 hg9 (fun k hk => .inr (by have := (HS5.out.own.lt k hk).1; omega)); obtain ⟨g5, c5, rfl, hH⟩ := Half8.of HS2.out y5 (Ext.refl w5) HTb2.out k1 k2 HFB.out ho9 hg9 hw9; obtain ⟨q0, q1, q2, q3, q4, q5, q6, q7⟩ := hH.cells; have d7 := hH.tm.eight.2.2.2.2.2.2.2; have d8 := hH.tm.frozen 7; have m0 := hH.own.frozenAt (ms.length * 8); have m1 := hH.own.frozenAt (ms.length * 8 + 1); have m2 := hH.own.frozenAt (ms.length * 8 + 2); have m3 := hH.own.frozenAt (ms.length * 8 + 3); have m4 := hH.own.frozenAt (ms.length * 8 + 4); have m5 := hH.own.frozenAt (ms.length * 8 + 5); have m6 := hH.own.frozenAt (ms.length * 8 + 6); have m7 := hH.own.frozenAt (ms.length * 8 + 7); have hn1 : bt ≠ g5 := (by have := hH.up; omega); have hn2 : g5 ≠ bt := (by have := hH.up; omega); have hlg : g5 < w9.heap.size := block_lt_of_cell q0; have hlt9 := hH.tm.lt; have hP9 := Lib.hid ((hp5).grown_ hg9 (fun k hk => by have := (HS5.out.own.lt k hk).1; omega)); have HH := Lib.hid hH; have hup := hH.up; have hge : bt ≤ g5 := (by omega); have hcl : ms.length + 1 ≤ c5 := hH.le; have hcc := hH.cap; clear hH ho9 hg9 hw9) | (refine wp_append_mine (.tmp 11) (.tmp 15) 26 rfl (bt + 1) 28 i0 (.agg #[.int .u8 0, .int .u8 0, .int .i64 0, .int .i64 0, .string ⟨#[]⟩, .string ⟨#[]⟩, .string ⟨#[]⟩, .slice none 0 0]) 8 96 Tryz.underlying26 HI.out.1 HI.out.2.1 HI.out.2.2.1 HI.out.2.2.2 rfl (by decide) (Value.slice a ms.length c) ms.length xs rfl (HS5.out.own.alloc _) ⟨w5.heap.size, 0, none⟩ 1 1 zeroT.toList rfl rfl (zero_at (Blk.new w5 28 zeroT)) zeroT_one (by unfold maxLen; omega) (by omega) (by first | omega | (simp; omega)) ?_; intro v9 w9 ho9 hg9 hw9; have z9 : ExtX (fun b => b = pb ∨ bt ≤ b) w2 w9 := ExtX.grow_ (z5.then_ ((Ext.refl w5).alloc _)) hg9 (fun k hk => .inr (by have := (HS5.out.own.lt k hk).1; omega)); obtain ⟨g5, c5, rfl, hH⟩ := Half8.of HS2.out y5 ((Ext.refl w5).alloc _) HTb2.out k1 k2 HFB.out ho9 hg9 hw9; obtain ⟨q0, q1, q2, q3, q4, q5, q6, q7⟩ := hH.cells; have d7 := hH.tm.eight.2.2.2.2.2.2.2; have d8 := hH.tm.frozen 7; have m0 := hH.own.frozenAt (ms.length * 8); have m1 := hH.own.frozenAt (ms.length * 8 + 1); have m2 := hH.own.frozenAt (ms.length * 8 + 2); have m3 := hH.own.frozenAt (ms.length * 8 + 3); have m4 := hH.own.frozenAt (ms.length * 8 + 4); have m5 := hH.own.frozenAt (ms.length * 8 + 5); have m6 := hH.own.frozenAt (ms.length * 8 + 6); have m7 := hH.own.frozenAt (ms.length * 8 + 7); have hn1 : bt ≠ g5 := (by have := hH.up; omega); have hn2 : g5 ≠ bt := (by have := hH.up; omega); have hlg : g5 < w9.heap.size := block_lt_of_cell q0; have hlt9 := hH.tm.lt; have hP9 := Lib.hid ((hp5.ext ((Ext.refl w5).alloc _)).grown_ hg9 (fun k hk => by have := (HS5.out.own.lt k hk).1; omega)); have HH := Lib.hid hH; have hup := hH.up; have hge : bt ≤ g5 := (by omega); have hcl : ms.length + 1 ≤ c5 := hH.le; have hcc := hH.cap; clear hH ho9 hg9 hw9)); refine hK.out _ _ (by (try dsimp only); (exact xX)) (fun hHeld => ?_); clear hK K; try simp only [Act.put,pA,pB,pC]
    refine tK 7 (v := ?_) ?_ ?_;rotate_left;(focus (intro w hSw;(try dsimp only at hSw);go_simp;(try with_reducible rfl)));try simp only [Act.put,pA,pB,pC]
    refine tK 9 (v := ?_) ?_ ?_;rotate_left;(focus (intro w hSw;(try dsimp only at hSw);go_simp;(try with_reducible rfl)));try simp only [Act.put,pA,pB,pC]
    refine wpAnyH_ready (rs := [8, 10]) (by kernel_rfl) (by simp) ?_
    refine held_cons 8 rfl (by rfl) (fun K hK => ?_) (held_cons 10 rfl (by rfl) (fun K hK => ?_) AllReadyH.nil)
    go_simp; refine hK.out _ _ (by (try dsimp only); (exact xX)) (fun hHeld => ?_); clear hK K; try simp only [Act.put,pA,pB,pC]
    refine held_do 10 rfl (by kernel_rfl) (by rfl) (fun K hK => ?_); go_simp; refine hK.out _ _ (by (try dsimp only); (exact xX)) (fun hHeld => ?_); clear hK K; try simp only [Act.put,pA,pB,pC]
    refine wpAnyH_done (by kernel_rfl) ?_ _
    rotate_left 1
    go_simp; refine hK.out _ _ (by (try dsimp only); (exact xX)) (fun hHeld => ?_); clear hK K; try simp only [Act.put,pA,pB,pC]
    refine held_do 8 rfl (by kernel_rfl) (by rfl) (fun K hK => ?_); go_simp; refine hK.out _ _ (by (try dsimp only); (exact xX)) (fun hHeld => ?_); clear hK K; try simp only [Act.put,pA,pB,pC]
    refine wpAnyH_done (by kernel_rfl) ?_ _
    rotate_left 1
    all_goals
      have hP := hP9.out
      have hgp : pb < g5 := by omega
      have hbp : pb < bt := by omega
      have L1 := HH.out.lay
      have L2 := HH.out.lay2
      refine bodyPost_end (v := .tuple #[]) (results_none rfl _ _ _) rfl ⟨X2.out.trans hHeld, rfl, by clear hHeld L1 L2; (exact prX), ?_⟩
      refine ⟨some ⟨g5, 0, none⟩, c5, xs ++ (tcells (Tm.mk xb kb).head ab nb cb).toList, ?_⟩
      have em : Tm.mk (Tm.mk xb kb).head kb = Tm.mk xb kb := rfl
      rw [em] at L1 L2
      first
        | (with_reducible exact L1)
        | (with_reducible exact L2)
set_option maxRecDepth 8000 in
set_option maxHeartbeats 8000000 in
theorem parse_sub1 (f : Nat) (hE : Does 31 .expr f) (pb b1 bt : Nat) (x : Hd) (ms : List Tm) (a : Option Addr) (c : Nat) (xs : List Value) (l : List Tk) (r : Res Tm) (w : World) (y : ByteArray) (ar : Option Addr) (hr : IsRow w (vstr [y]) ar 1) (hS : Sub8 pb b1 bt x ms a c xs w) (hms : ms.length ≤ 2) (h : Prs w pb l) (he : Ended l) (hp : (andThen (some (getW y l)) fun _ l1 => parseF f .expr l1) = some r) :
    Calls Tryz.prog 59 #[.slice ar 1 1, .pointer (some ⟨b1, 0, none⟩), .pointer (some ⟨bt, 0, none⟩)] w (RetSub pb b1 bt x ms w r) := by
  have o1 := hS.o1
  have o2 := hS.o2
  have p0 := hS.ptr.cell 0
  simp at p0
  obtain ⟨i0, hi, hz0, hz1', hz2'⟩ := info_parts infoTmP
  have HI := Lib.hid (And.intro hi (And.intro hz0 (And.intro hz1' hz2')))
  clear hi hz0 hz1' hz2'
  have hlp := hS.ptr.lt
  have hzL : ((ms.length : Nat) : Int) < ((ms.length : Nat) : Int) + 1 := by omega
  have KW := Lib.hid (parse_word [y] pb l w ar 1 1 (Nat.le_refl _) (by omega) hr h he)
  have HS := Lib.hid hS
  have HPM := Lib.hid hp
  have HE0 := Lib.hid he
  have HE := Lib.hid hE
  clear hS hp h he hE hr
  go_enter Tryz.func59, Tryz.ntmps59
  go_wp2_with fail
  refine KW.out.mono ?_
  intro e w2 hh
  have hpm := HPM.out
  rcases getWs_one y l with ⟨l', e1, e2⟩ | ⟨l1, e1, e2, -⟩
  · rw [e1] at hh
    rw [e2] at hpm
    cases hpm
    obtain ⟨rfl, x2⟩ := hh.error
    exact ⟨rfl, x2.mono (fun b hb => .inl hb), rfl⟩
  rw [e1] at hh
  have he1 : Ended l1 := getW_ended HE0.out e2
  rw [e2, andThen_ok] at hpm
  obtain ⟨v2, rfl, ⟨k2, q2, rfl⟩, P2, x2⟩ := hh.ok
  have S2 := HS.out.extx x2
  have X2 := Lib.hid (x2.mono (A' := fun b => b = pb ∨ bt ≤ b) (fun b hb => .inl hb))
  clear hh e1 e2 x2 p0
  have n1 := fun W (h : ExtX (fun b => b = pb ∨ bt ≤ b) w2 W) => (S2.ptr.extx h (show ¬ (b1 = pb ∨ bt ≤ b1) by omega)).cell 0
  simp at n1
  have k7 := S2.tm.eight.2.2.2.2.2.2.2
  have hlt2 := S2.tm.lt
  have hcl0 := S2.le
  have hcc0 := S2.cap
  have HS2 := Lib.hid S2
  have HP2 := Lib.hid P2
  have HE1 := Lib.hid he1
  have HPM2 := Lib.hid hpm
  clear S2 P2 he1 hpm HPM
  cases e5 : parseF f .expr l1 with
  | none => have := HPM2.out; rw [e5] at this; cases this
  | some r5 =>
  have KE := Lib.hid fun W (hP : Prs W pb l1) => HE.out pb W l1 r5 hP HE1.out e5
  have hpm := HPM2.out
  rw [e5] at hpm
  obtain rfl : r5 = r := Option.some.inj hpm
  clear hpm
  cases r5 with
  | error l' =>
    clear e5
    go_upto_region 2 with fail
    refine wp_region_held_drew (S := fun w' => ExtX (fun b => b = pb ∨ bt ≤ b) w2 w') (by kernel_rfl) (by (try dsimp only); (exact xX)) (fun hHeld => ?_)
    refine tK 0 (v := ?_) ?_ ?_;rotate_left;(focus (intro w hSw;(try dsimp only at hSw);go_simp;(try with_reducible rfl)));try simp only [Act.put,pA,pB,pC]
    refine tK 2 (v := ?_) ?_ ?_;rotate_left;(focus (intro w hSw;(try dsimp only at hSw);go_simp;(try with_reducible rfl)));try simp only [Act.put,pA,pB,pC]
    refine wpAnyH_ready (rs := [1, 3, 5]) (by kernel_rfl) (by simp) ?_
    refine held_cons 1 rfl (by rfl) (fun K hK => ?_) (held_cons 3 rfl (by rfl) (fun K hK => ?_) (held_cons 5 rfl (by rfl) (fun K hK => ?_) AllReadyH.nil))
    go_simp; refine hK.out _ _ (by (try dsimp only); (exact xX)) (fun hHeld => ?_); clear hK K; try simp only [Act.put,pA,pB,pC]
    refine tK 4 (v := ?_) ?_ ?_;rotate_left;(focus (intro w hSw;(try dsimp only at hSw);go_simp;(try with_reducible rfl)));try simp only [Act.put,pA,pB,pC]
    refine wpAnyH_ready (rs := [3, 5]) (by kernel_rfl) (by simp) ?_
    refine held_cons 3 rfl (by rfl) (fun K hK => ?_) (held_cons 5 rfl (by rfl) (fun K hK => ?_) AllReadyH.nil)
    go_simp; (first | (refine (KE.out _ (HP2.out.ext (by (exact eX)))).mono ?_; intro e w5 hh; obtain ⟨rfl, x5⟩ := hh.error; exact ⟨rfl, X2.out.trans ((by (exact xX) : ExtX (fun b => b = pb ∨ bt ≤ b) w2 _).trans (x5.mono (fun b hb => .inl hb))), rfl⟩))
    go_simp; refine hK.out _ _ (by (try dsimp only); (exact xX)) (fun hHeld => ?_); clear hK K; try simp only [Act.put,pA,pB,pC]
    refine held_do 3 rfl (by kernel_rfl) (by rfl) (fun K hK => ?_); go_simp; (first | (refine (KE.out _ (HP2.out.ext (by (exact eX)))).mono ?_; intro e w5 hh; obtain ⟨rfl, x5⟩ := hh.error; exact ⟨rfl, X2.out.trans ((by (exact xX) : ExtX (fun b => b = pb ∨ bt ≤ b) w2 _).trans (x5.mono (fun b hb => .inl hb))), rfl⟩))
    rotate_left 0
    go_simp; (first | (refine (KE.out _ (HP2.out.ext (by (exact eX)))).mono ?_; intro e w5 hh; obtain ⟨rfl, x5⟩ := hh.error; exact ⟨rfl, X2.out.trans ((by (exact xX) : ExtX (fun b => b = pb ∨ bt ≤ b) w2 _).trans (x5.mono (fun b hb => .inl hb))), rfl⟩))
    go_simp; refine hK.out _ _ (by (try dsimp only); (exact xX)) (fun hHeld => ?_); clear hK K; try simp only [Act.put,pA,pB,pC]
    refine wpAnyH_ready (rs := [1, 3]) (by kernel_rfl) (by simp) ?_
    refine held_cons 1 rfl (by rfl) (fun K hK => ?_) (held_cons 3 rfl (by rfl) (fun K hK => ?_) AllReadyH.nil)
    go_simp; refine hK.out _ _ (by (try dsimp only); (exact xX)) (fun hHeld => ?_); clear hK K; try simp only [Act.put,pA,pB,pC]
    refine tK 4 (v := ?_) ?_ ?_;rotate_left;(focus (intro w hSw;(try dsimp only at hSw);go_simp;(try with_reducible rfl)));try simp only [Act.put,pA,pB,pC]
    refine held_do 3 rfl (by kernel_rfl) (by rfl) (fun K hK => ?_); go_simp; (first | (refine (KE.out _ (HP2.out.ext (by (exact eX)))).mono ?_; intro e w5 hh; obtain ⟨rfl, x5⟩ := hh.error; exact ⟨rfl, X2.out.trans ((by (exact xX) : ExtX (fun b => b = pb ∨ bt ≤ b) w2 _).trans (x5.mono (fun b hb => .inl hb))), rfl⟩))
    rotate_left 0
    go_simp; (first | (refine (KE.out _ (HP2.out.ext (by (exact eX)))).mono ?_; intro e w5 hh; obtain ⟨rfl, x5⟩ := hh.error; exact ⟨rfl, X2.out.trans ((by (exact xX) : ExtX (fun b => b = pb ∨ bt ≤ b) w2 _).trans (x5.mono (fun b hb => .inl hb))), rfl⟩))
  | ok p5 =>
    obtain ⟨⟨xb, kb⟩, l3⟩ := p5
    clear e5 HPM2
    go_upto_region 2 with fail
    refine wp_region_held_drew (S := fun w' => ExtX (fun b => b = pb ∨ bt ≤ b) w2 w') (by kernel_rfl) (by (try dsimp only); (exact xX)) (fun hHeld => ?_)
    refine tK 0 (v := ?_) ?_ ?_;rotate_left;(focus (intro w hSw;(try dsimp only at hSw);go_simp;(try with_reducible rfl)));try simp only [Act.put,pA,pB,pC]
    refine tK 2 (v := ?_) ?_ ?_;rotate_left;(focus (intro w hSw;(try dsimp only at hSw);go_simp;(try with_reducible rfl)));try simp only [Act.put,pA,pB,pC]
    refine wpAnyH_ready (rs := [1, 3, 5]) (by kernel_rfl) (by simp) ?_
    refine held_cons 1 rfl (by rfl) (fun K hK => ?_) (held_cons 3 rfl (by rfl) (fun K hK => ?_) (held_cons 5 rfl (by rfl) (fun K hK => ?_) AllReadyH.nil))
    go_simp; refine hK.out _ _ (by (try dsimp only); (exact xX)) (fun hHeld => ?_); clear hK K; try simp only [Act.put,pA,pB,pC]
    refine tK 4 (v := ?_) ?_ ?_;rotate_left;(focus (intro w hSw;(try dsimp only at hSw);go_simp;(try with_reducible rfl)));try simp only [Act.put,pA,pB,pC]
    refine wpAnyH_ready (rs := [3, 5]) (by kernel_rfl) (by simp) ?_
    refine held_cons 3 rfl (by rfl) (fun K hK => ?_) (held_cons 5 rfl (by rfl) (fun K hK => ?_) AllReadyH.nil)
    go_simp; (first | (refine (KE.out _ (HP2.out.ext (by (exact eX)))).mono ?_; intro e w5 hh; obtain ⟨v5, rfl, ⟨ab, nb, cb, rfl, fb, k1, k2, hTb⟩, hp5, x5⟩ := hh.ok; have y5 : ExtX (· = pb) w2 w5 := (by first | exact ((ExtX.refl w2).drew).trans x5 | exact (((ExtX.refl w2).alloc _).drew).trans x5); have z5 := y5.mono (A' := fun b => b = pb ∨ bt ≤ b) (fun b h => .inl h); have HTb2 := Lib.hid (show IsTmsA (fun b => b < w2.heap.size) w5 kb ab nb from hTb.off (fun b _ hb => (by have hb : b < w2.heap.size := hb; simp; try omega))); have hS5 := HS2.out.extx y5; have e7 := hS5.tm.eight.2.2.2.2.2.2.2; have hl5 := hS5.tm.lt; have HS5 := Lib.hid hS5; have hs5 := y5.size; have HFB := Lib.hid fb; (try (have HQ5 := Lib.hid (show Blk w5 w2.heap.size 28 zeroT from (Blk.new w2 28 zeroT).drew.nez x5 (by omega)))); clear hTb hh hS5)); (try (focus (go_wp2_with fail))); refine hK.out _ _ (by (try dsimp only); (exact xX)) (fun hHeld => ?_); clear hK K; try simp only [Act.put,pA,pB,pC]
    refine held_do 5 rfl (by kernel_rfl) (by rfl) (fun K hK => ?_); go_simp; refine hK.out _ _ (by (try dsimp only); (exact xX)) (fun hHeld => ?_); clear hK K; try simp only [Act.put,pA,pB,pC]
    refine held_do 6 rfl (by kernel_rfl) (by rfl) (fun K hK => ?_); (first | (refine wp_append_mine (.tmp 11) (.tmp 15) 26 rfl (bt + 1) 28 i0 (.agg #[.int .u8 0, .int .u8 0, .int .i64 0, .int .i64 0, .string ⟨#[]⟩, .string ⟨#[]⟩, .string ⟨#[]⟩, .slice none 0 0]) 8 96 Tryz.underlying26 HI.out.1 HI.out.2.1 HI.out.2.2.1 HI.out.2.2.2 rfl (by decide) (Value.slice a ms.length c) ms.length xs rfl HS5.out.own ⟨w2.heap.size, 0, none⟩ 1 1 zeroT.toList rfl rfl (zero_at HQ5.out) zeroT_one (by unfold maxLen; omega) (by omega) (by first | omega | (simp; omega)) ?_; intro v9 w9 ho9 hg9 hw9; have z9 : ExtX (fun b => b = pb ∨ bt ≤ b) w2 w9 := ExtX.grow_ z5 hg9 (fun k hk => .inr (by have := (HS5.out.own.lt k hk).1; omega)); obtain ⟨g5, c5, rfl, hH⟩ := Half8.of HS2.out y5 (Ext.refl w5) HTb2.out k1 k2 HFB.out ho9 hg9 hw9; obtain ⟨q0, q1, q2, q3, q4, q5, q6, q7⟩ := hH.cells; have d7 := hH.tm.eight.2.2.2.2.2.2.2; have d8 := hH.tm.frozen 7; have m0 := hH.own.frozenAt (ms.length * 8); have m1 := hH.own.frozenAt (ms.length * 8 + 1); have m2 := hH.own.frozenAt (ms.length * 8 + 2); have m3 := hH.own.frozenAt (ms.length * 8 + 3); have m4 := hH.own.frozenAt (ms.length * 8 + 4); have m5 := hH.own.frozenAt (ms.length * 8 + 5); have m6 := hH.own.frozenAt (ms.length * 8 + 6); have m7 := hH.own.frozenAt (ms.length * 8 + 7); have hn1 : bt ≠ g5 := (by have := hH.up; omega); have hn2 : g5 ≠ bt := (by have := hH.up; omega); have hlg : g5 < w9.heap.size := block_lt_of_cell q0; have hlt9 := hH.tm.lt; have hP9 := Lib.hid ((hp5).grown_ hg9 (fun k hk => by have := (HS5.out.own.lt k hk).1; omega)); have HH := Lib.hid hH; have hup := hH.up; have hge : bt ≤ g5 := (by omega); have hcl : ms.length + 1 ≤ c5 := hH.le; have hcc := hH.cap; clear hH ho9 hg9 hw9) | (refine wp_append_mine (.tmp 11) (.tmp 15) 26 rfl (bt + 1) 28 i0 (.agg #[.int .u8 0, .int .u8 0, .int .i64 0, .int .i64 0, .string ⟨#[]⟩, .string ⟨#[]⟩, .string ⟨#[]⟩, .slice none 0 0]) 8 96 Tryz.underlying26 HI.out.1 HI.out.2.1 HI.out.2.2.1 HI.out.2.2.2 rfl (by decide) (Value.slice a ms.length c) ms.length xs rfl (HS5.out.own.alloc _) ⟨w5.heap.size, 0, none⟩ 1 1 zeroT.toList rfl rfl (zero_at (Blk.new w5 28 zeroT)) zeroT_one (by unfold maxLen; omega) (by omega) (by first | omega | (simp; omega)) ?_; intro v9 w9 ho9 hg9 hw9; have z9 : ExtX (fun b => b = pb ∨ bt ≤ b) w2 w9 := ExtX.grow_ (z5.then_ ((Ext.refl w5).alloc _)) hg9 (fun k hk => .inr (by have := (HS5.out.own.lt k hk).1; omega)); obtain ⟨g5, c5, rfl, hH⟩ := Half8.of HS2.out y5 ((Ext.refl w5).alloc _) HTb2.out k1 k2 HFB.out ho9 hg9 hw9; obtain ⟨q0, q1, q2, q3, q4, q5, q6, q7⟩ := hH.cells; have d7 := hH.tm.eight.2.2.2.2.2.2.2; have d8 := hH.tm.frozen 7; have m0 := hH.own.frozenAt (ms.length * 8); have m1 := hH.own.frozenAt (ms.length * 8 + 1); have m2 := hH.own.frozenAt (ms.length * 8 + 2); have m3 := hH.own.frozenAt (ms.length * 8 + 3); have m4 := hH.own.frozenAt (ms.length * 8 + 4); have m5 := hH.own.frozenAt (ms.length * 8 + 5); have m6 := hH.own.frozenAt (ms.length * 8 + 6); have m7 := hH.own.frozenAt (ms.length * 8 + 7); have hn1 : bt ≠ g5 := (by have := hH.up; omega); have hn2 : g5 ≠ bt := (by have := hH.up; omega); have hlg : g5 < w9.heap.size := block_lt_of_cell q0; have hlt9 := hH.tm.lt; have hP9 := Lib.hid ((hp5.ext ((Ext.refl w5).alloc _)).grown_ hg9 (fun k hk => by have := (HS5.out.own.lt k hk).1; omega)); have HH := Lib.hid hH; have hup := hH.up; have hge : bt ≤ g5 := (by omega); have hcl : ms.length + 1 ≤ c5 := hH.le; have hcc := hH.cap; clear hH ho9 hg9 hw9)); refine hK.out _ _ (by (try dsimp only); (exact xX)) (fun hHeld => ?_); clear hK K; try simp only [Act.put,pA,pB,pC]
    refine tK 7 (v := ?_) ?_ ?_;rotate_left;(focus (intro w hSw;(try dsimp only at hSw);go_simp;(try with_reducible rfl)));try simp only [Act.put,pA,pB,pC]
    refine tK 9 (v := ?_) ?_ ?_;rotate_left;(focus (intro w hSw;(try dsimp only at hSw);go_simp;(try with_reducible rfl)));try simp only [Act.put,pA,pB,pC]
    refine wpAnyH_ready (rs := [8, 10]) (by kernel_rfl) (by simp) ?_
    refine held_cons 8 rfl (by rfl) (fun K hK => ?_) (held_cons 10 rfl (by rfl) (fun K hK => ?_) AllReadyH.nil)
    go_simp; refine hK.out _ _ (by (try dsimp only); (exact xX)) (fun hHeld => ?_); clear hK K; try simp only [Act.put,pA,pB,pC]
    refine held_do 10 rfl (by kernel_rfl) (by rfl) (fun K hK => ?_); go_simp; refine hK.out _ _ (by (try dsimp only); (exact xX)) (fun hHeld => ?_); clear hK K; try simp only [Act.put,pA,pB,pC]
    refine wpAnyH_done (by kernel_rfl) ?_ _
    rotate_left 1
    go_simp; refine hK.out _ _ (by (try dsimp only); (exact xX)) (fun hHeld => ?_); clear hK K; try simp only [Act.put,pA,pB,pC]
    refine held_do 8 rfl (by kernel_rfl) (by rfl) (fun K hK => ?_); go_simp; refine hK.out _ _ (by (try dsimp only); (exact xX)) (fun hHeld => ?_); clear hK K; try simp only [Act.put,pA,pB,pC]
    refine wpAnyH_done (by kernel_rfl) ?_ _
    rotate_left 1
    go_simp; refine hK.out _ _ (by (try dsimp only); (exact xX)) (fun hHeld => ?_); clear hK K; try simp only [Act.put,pA,pB,pC]
    refine held_do 3 rfl (by kernel_rfl) (by rfl) (fun K hK => ?_); go_simp; (first | (refine (KE.out _ (HP2.out.ext (by (exact eX)))).mono ?_; intro e w5 hh; obtain ⟨v5, rfl, ⟨ab, nb, cb, rfl, fb, k1, k2, hTb⟩, hp5, x5⟩ := hh.ok; have y5 : ExtX (· = pb) w2 w5 := (by first | exact ((ExtX.refl w2).drew).trans x5 | exact (((ExtX.refl w2).alloc _).drew).trans x5); have z5 := y5.mono (A' := fun b => b = pb ∨ bt ≤ b) (fun b h => .inl h); have HTb2 := Lib.hid (show IsTmsA (fun b => b < w2.heap.size) w5 kb ab nb from hTb.off (fun b _ hb => (by have hb : b < w2.heap.size := hb; simp; try omega))); have hS5 := HS2.out.extx y5; have e7 := hS5.tm.eight.2.2.2.2.2.2.2; have hl5 := hS5.tm.lt; have HS5 := Lib.hid hS5; have hs5 := y5.size; have HFB := Lib.hid fb; (try (have HQ5 := Lib.hid (show Blk w5 w2.heap.size 28 zeroT from (Blk.new w2 28 zeroT).drew.nez x5 (by omega)))); clear hTb hh hS5)); (try (focus (go_wp2_with fail))); refine hK.out _ _ (by (try dsimp only); (exact xX)) (fun hHeld => ?_); clear hK K; try simp only [Act.put,pA,pB,pC]
    refine held_do 6 rfl (by kernel_rfl) (by rfl) (fun K hK => ?_); (first | (refine wp_append_mine (.tmp 11) (.tmp 15) 26 rfl (bt + 1) 28 i0 (.agg #[.int .u8 0, .int .u8 0, .int .i64 0, .int .i64 0, .string ⟨#[]⟩, .string ⟨#[]⟩, .string ⟨#[]⟩, .slice none 0 0]) 8 96 Tryz.underlying26 HI.out.1 HI.out.2.1 HI.out.2.2.1 HI.out.2.2.2 rfl (by decide) (Value.slice a ms.length c) ms.length xs rfl HS5.out.own ⟨w2.heap.size, 0, none⟩ 1 1 zeroT.toList rfl rfl (zero_at HQ5.out) zeroT_one (by unfold maxLen; omega) (by omega) (by first | omega | (simp; omega)) ?_; intro v9 w9 ho9 hg9 hw9; have z9 : ExtX (fun b => b = pb ∨ bt ≤ b) w2 w9 := ExtX.grow_ z5 hg9 (fun k hk => .inr (by have := (HS5.out.own.lt k hk).1; omega)); obtain ⟨g5, c5, rfl, hH⟩ := Half8.of HS2.out y5 (Ext.refl w5) HTb2.out k1 k2 HFB.out ho9 hg9 hw9; obtain ⟨q0, q1, q2, q3, q4, q5, q6, q7⟩ := hH.cells; have d7 := hH.tm.eight.2.2.2.2.2.2.2; have d8 := hH.tm.frozen 7; have m0 := hH.own.frozenAt (ms.length * 8); have m1 := hH.own.frozenAt (ms.length * 8 + 1); have m2 := hH.own.frozenAt (ms.length * 8 + 2); have m3 := hH.own.frozenAt (ms.length * 8 + 3); have m4 := hH.own.frozenAt (ms.length * 8 + 4); have m5 := hH.own.frozenAt (ms.length * 8 + 5); have m6 := hH.own.frozenAt (ms.length * 8 + 6); have m7 := hH.own.frozenAt (ms.length * 8 + 7); have hn1 : bt ≠ g5 := (by have := hH.up; omega); have hn2 : g5 ≠ bt := (by have := hH.up; omega); have hlg : g5 < w9.heap.size := block_lt_of_cell q0; have hlt9 := hH.tm.lt; have hP9 := Lib.hid ((hp5).grown_ hg9 (fun k hk => by have := (HS5.out.own.lt k hk).1; omega)); have HH := Lib.hid hH; have hup := hH.up; have hge : bt ≤ g5 := (by omega); have hcl : ms.length + 1 ≤ c5 := hH.le; have hcc := hH.cap; clear hH ho9 hg9 hw9) | (refine wp_append_mine (.tmp 11) (.tmp 15) 26 rfl (bt + 1) 28 i0 (.agg #[.int .u8 0, .int .u8 0, .int .i64 0, .int .i64 0, .string ⟨#[]⟩, .string ⟨#[]⟩, .string ⟨#[]⟩, .slice none 0 0]) 8 96 Tryz.underlying26 HI.out.1 HI.out.2.1 HI.out.2.2.1 HI.out.2.2.2 rfl (by decide) (Value.slice a ms.length c) ms.length xs rfl (HS5.out.own.alloc _) ⟨w5.heap.size, 0, none⟩ 1 1 zeroT.toList rfl rfl (zero_at (Blk.new w5 28 zeroT)) zeroT_one (by unfold maxLen; omega) (by omega) (by first | omega | (simp; omega)) ?_; intro v9 w9 ho9 hg9 hw9; have z9 : ExtX (fun b => b = pb ∨ bt ≤ b) w2 w9 := ExtX.grow_ (z5.then_ ((Ext.refl w5).alloc _)) hg9 (fun k hk => .inr (by have := (HS5.out.own.lt k hk).1; omega)); obtain ⟨g5, c5, rfl, hH⟩ := Half8.of HS2.out y5 ((Ext.refl w5).alloc _) HTb2.out k1 k2 HFB.out ho9 hg9 hw9; obtain ⟨q0, q1, q2, q3, q4, q5, q6, q7⟩ := hH.cells; have d7 := hH.tm.eight.2.2.2.2.2.2.2; have d8 := hH.tm.frozen 7; have m0 := hH.own.frozenAt (ms.length * 8); have m1 := hH.own.frozenAt (ms.length * 8 + 1); have m2 := hH.own.frozenAt (ms.length * 8 + 2); have m3 := hH.own.frozenAt (ms.length * 8 + 3); have m4 := hH.own.frozenAt (ms.length * 8 + 4); have m5 := hH.own.frozenAt (ms.length * 8 + 5); have m6 := hH.own.frozenAt (ms.length * 8 + 6); have m7 := hH.own.frozenAt (ms.length * 8 + 7); have hn1 : bt ≠ g5 := (by have := hH.up; omega); have hn2 : g5 ≠ bt := (by have := hH.up; omega); have hlg : g5 < w9.heap.size := block_lt_of_cell q0; have hlt9 := hH.tm.lt; have hP9 := Lib.hid ((hp5.ext ((Ext.refl w5).alloc _)).grown_ hg9 (fun k hk => by have := (HS5.out.own.lt k hk).1; omega)); have HH := Lib.hid hH; have hup := hH.up; have hge : bt ≤ g5 := (by omega); have hcl : ms.length + 1 ≤ c5 := hH.le; have hcc := hH.cap; clear hH ho9 hg9 hw9)); refine hK.out _ _ (by (try dsimp only); (exact xX)) (fun hHeld => ?_); clear hK K; try simp only [Act.put,pA,pB,pC]
    refine tK 7 (v := ?_) ?_ ?_;rotate_left;(focus (intro w hSw;(try dsimp only at hSw);go_simp;(try with_reducible rfl)));try simp only [Act.put,pA,pB,pC]
    refine tK 9 (v := ?_) ?_ ?_;rotate_left;(focus (intro w hSw;(try dsimp only at hSw);go_simp;(try with_reducible rfl)));try simp only [Act.put,pA,pB,pC]
    refine wpAnyH_ready (rs := [8, 10]) (by kernel_rfl) (by simp) ?_
    refine held_cons 8 rfl (by rfl) (fun K hK => ?_) (held_cons 10 rfl (by rfl) (fun K hK => ?_) AllReadyH.nil)
    go_simp; refine hK.out _ _ (by (try dsimp only); (exact xX)) (fun hHeld => ?_); clear hK K; try simp only [Act.put,pA,pB,pC]
    refine held_do 10 rfl (by kernel_rfl) (by rfl) (fun K hK => ?_); go_simp; refine hK.out _ _ (by (try dsimp only); (exact xX)) (fun hHeld => ?_); clear hK K; try simp only [Act.put,pA,pB,pC]
    refine wpAnyH_done (by kernel_rfl) ?_ _
    rotate_left 1
    go_simp; refine hK.out _ _ (by (try dsimp only); (exact xX)) (fun hHeld => ?_); clear hK K; try simp only [Act.put,pA,pB,pC]
    refine held_do 8 rfl (by kernel_rfl) (by rfl) (fun K hK => ?_); go_simp; refine hK.out _ _ (by (try dsimp only); (exact xX)) (fun hHeld => ?_); clear hK K; try simp only [Act.put,pA,pB,pC]
    refine wpAnyH_done (by kernel_rfl) ?_ _
    rotate_left 1
    go_simp; (first | (refine (KE.out _ (HP2.out.ext (by (exact eX)))).mono ?_; intro e w5 hh; obtain ⟨v5, rfl, ⟨ab, nb, cb, rfl, fb, k1, k2, hTb⟩, hp5, x5⟩ := hh.ok; have y5 : ExtX (· = pb) w2 w5 := (by first | exact ((ExtX.refl w2).drew).trans x5 | exact (((ExtX.refl w2).alloc _).drew).trans x5); have z5 := y5.mono (A' := fun b => b = pb ∨ bt ≤ b) (fun b h => .inl h); have HTb2 := Lib.hid (show IsTmsA (fun b => b < w2.heap.size) w5 kb ab nb from hTb.off (fun b _ hb => (by have hb : b < w2.heap.size := hb; simp; try omega))); have hS5 := HS2.out.extx y5; have e7 := hS5.tm.eight.2.2.2.2.2.2.2; have hl5 := hS5.tm.lt; have HS5 := Lib.hid hS5; have hs5 := y5.size; have HFB := Lib.hid fb; (try (have HQ5 := Lib.hid (show Blk w5 w2.heap.size 28 zeroT from (Blk.new w2 28 zeroT).drew.nez x5 (by omega)))); clear hTb hh hS5)); (try (focus (go_wp2_with fail))); refine hK.out _ _ (by (try dsimp only); (exact xX)) (fun hHeld => ?_); clear hK K; try simp only [Act.put,pA,pB,pC]
    refine wpAnyH_ready (rs := [1, 5]) (by kernel_rfl) (by simp) ?_
    refine held_cons 1 rfl (by rfl) (fun K hK => ?_) (held_cons 5 rfl (by rfl) (fun K hK => ?_) AllReadyH.nil)
    go_simp; refine hK.out _ _ (by (try dsimp only); (exact xX)) (fun hHeld => ?_); clear hK K; try simp only [Act.put,pA,pB,pC]
    refine tK 4 (v := ?_) ?_ ?_;rotate_left;(focus (intro w hSw;(try dsimp only at hSw);go_simp;(try with_reducible rfl)));try simp only [Act.put,pA,pB,pC]
    refine held_do 5 rfl (by kernel_rfl) (by rfl) (fun K hK => ?_); go_simp; refine hK.out _ _ (by (try dsimp only); (exact xX)) (fun hHeld => ?_); clear hK K; try simp only [Act.put,pA,pB,pC]
    refine held_do 6 rfl (by kernel_rfl) (by rfl) (fun K hK => ?_); (first | (refine wp_append_mine (.tmp 11) (.tmp 15) 26 rfl (bt + 1) 28 i0 (.agg #[.int .u8 0, .int .u8 0, .int .i64 0, .int .i64 0, .string ⟨#[]⟩, .string ⟨#[]⟩, .string ⟨#[]⟩, .slice none 0 0]) 8 96 Tryz.underlying26 HI.out.1 HI.out.2.1 HI.out.2.2.1 HI.out.2.2.2 rfl (by decide) (Value.slice a ms.length c) ms.length xs rfl HS5.out.own ⟨w2.heap.size, 0, none⟩ 1 1 zeroT.toList rfl rfl (zero_at HQ5.out) zeroT_one (by unfold maxLen; omega) (by omega) (by first | omega | (simp; omega)) ?_; intro v9 w9 ho9 hg9 hw9; have z9 : ExtX (fun b => b = pb ∨ bt ≤ b) w2 w9 := ExtX.grow_ z5 hg9 (fun k hk => .inr (by have := (HS5.out.own.lt k hk).1; omega)); obtain ⟨g5, c5, rfl, hH⟩ := Half8.of HS2.out y5 (Ext.refl w5) HTb2.out k1 k2 HFB.out ho9 hg9 hw9; obtain ⟨q0, q1, q2, q3, q4, q5, q6, q7⟩ := hH.cells; have d7 := hH.tm.eight.2.2.2.2.2.2.2; have d8 := hH.tm.frozen 7; have m0 := hH.own.frozenAt (ms.length * 8); have m1 := hH.own.frozenAt (ms.length * 8 + 1); have m2 := hH.own.frozenAt (ms.length * 8 + 2); have m3 := hH.own.frozenAt (ms.length * 8 + 3); have m4 := hH.own.frozenAt (ms.length * 8 + 4); have m5 := hH.own.frozenAt (ms.length * 8 + 5); have m6 := hH.own.frozenAt (ms.length * 8 + 6); have m7 := hH.own.frozenAt (ms.length * 8 + 7); have hn1 : bt ≠ g5 := (by have := hH.up; omega); have hn2 : g5 ≠ bt := (by have := hH.up; omega); have hlg : g5 < w9.heap.size := block_lt_of_cell q0; have hlt9 := hH.tm.lt; have hP9 := Lib.hid ((hp5).grown_ hg9 (fun k hk => by have := (HS5.out.own.lt k hk).1; omega)); have HH := Lib.hid hH; have hup := hH.up; have hge : bt ≤ g5 := (by omega); have hcl : ms.length + 1 ≤ c5 := hH.le; have hcc := hH.cap; clear hH ho9 hg9 hw9) | (refine wp_append_mine (.tmp 11) (.tmp 15) 26 rfl (bt + 1) 28 i0 (.agg #[.int .u8 0, .int .u8 0, .int .i64 0, .int .i64 0, .string ⟨#[]⟩, .string ⟨#[]⟩, .string ⟨#[]⟩, .slice none 0 0]) 8 96 Tryz.underlying26 HI.out.1 HI.out.2.1 HI.out.2.2.1 HI.out.2.2.2 rfl (by decide) (Value.slice a ms.length c) ms.length xs rfl (HS5.out.own.alloc _) ⟨w5.heap.size, 0, none⟩ 1 1 zeroT.toList rfl rfl (zero_at (Blk.new w5 28 zeroT)) zeroT_one (by unfold maxLen; omega) (by omega) (by first | omega | (simp; omega)) ?_; intro v9 w9 ho9 hg9 hw9; have z9 : ExtX (fun b => b = pb ∨ bt ≤ b) w2 w9 := ExtX.grow_ (z5.then_ ((Ext.refl w5).alloc _)) hg9 (fun k hk => .inr (by have := (HS5.out.own.lt k hk).1; omega)); obtain ⟨g5, c5, rfl, hH⟩ := Half8.of HS2.out y5 ((Ext.refl w5).alloc _) HTb2.out k1 k2 HFB.out ho9 hg9 hw9; obtain ⟨q0, q1, q2, q3, q4, q5, q6, q7⟩ := hH.cells; have d7 := hH.tm.eight.2.2.2.2.2.2.2; have d8 := hH.tm.frozen 7; have m0 := hH.own.frozenAt (ms.length * 8); have m1 := hH.own.frozenAt (ms.length * 8 + 1); have m2 := hH.own.frozenAt (ms.length * 8 + 2); have m3 := hH.own.frozenAt (ms.length * 8 + 3); have m4 := hH.own.frozenAt (ms.length * 8 + 4); have m5 := hH.own.frozenAt (ms.length * 8 + 5); have m6 := hH.own.frozenAt (ms.length * 8 + 6); have m7 := hH.own.frozenAt (ms.length * 8 + 7); have hn1 : bt ≠ g5 := (by have := hH.up; omega); have hn2 : g5 ≠ bt := (by have := hH.up; omega); have hlg : g5 < w9.heap.size := block_lt_of_cell q0; have hlt9 := hH.tm.lt; have hP9 := Lib.hid ((hp5.ext ((Ext.refl w5).alloc _)).grown_ hg9 (fun k hk => by have := (HS5.out.own.lt k hk).1; omega)); have HH := Lib.hid hH; have hup := hH.up; have hge : bt ≤ g5 := (by omega); have hcl : ms.length + 1 ≤ c5 := hH.le; have hcc := hH.cap; clear hH ho9 hg9 hw9)); refine hK.out _ _ (by (try dsimp only); (exact xX)) (fun hHeld => ?_); clear hK K; try simp only [Act.put,pA,pB,pC]
    refine tK 7 (v := ?_) ?_ ?_;rotate_left;(focus (intro w hSw;(try dsimp only at hSw);go_simp;(try with_reducible rfl)));try simp only [Act.put,pA,pB,pC]
    refine tK 9 (v := ?_) ?_ ?_;rotate_left;(focus (intro w hSw;(try dsimp only at hSw);go_simp;(try with_reducible rfl)));try simp only [Act.put,pA,pB,pC]
    refine wpAnyH_ready (rs := [8, 10]) (by kernel_rfl) (by simp) ?_
    refine held_cons 8 rfl (by rfl) (fun K hK => ?_) (held_cons 10 rfl (by rfl) (fun K hK => ?_) AllReadyH.nil)
    go_simp; refine hK.out _ _ (by (try dsimp only); (exact xX)) (fun hHeld => ?_); clear hK K; try simp only [Act.put,pA,pB,pC]
    refine held_do 10 rfl (by kernel_rfl) (by rfl) (fun K hK => ?_); go_simp; refine hK.out _ _ (by (try dsimp only); (exact xX)) (fun hHeld => ?_); clear hK K; try simp only [Act.put,pA,pB,pC]
    refine wpAnyH_done (by kernel_rfl) ?_ _
    rotate_left 1
    go_simp; refine hK.out _ _ (by (try dsimp only); (exact xX)) (fun hHeld => ?_); clear hK K; try simp only [Act.put,pA,pB,pC]
    refine held_do 8 rfl (by kernel_rfl) (by rfl) (fun K hK => ?_); go_simp; refine hK.out _ _ (by (try dsimp only); (exact xX)) (fun hHeld => ?_); clear hK K; try simp only [Act.put,pA,pB,pC]
    refine wpAnyH_done (by kernel_rfl) ?_ _
    rotate_left 1
    go_simp; refine hK.out _ _ (by (try dsimp only); (exact xX)) (fun hHeld => ?_); clear hK K; try simp only [Act.put,pA,pB,pC]
    refine held_do 1 rfl (by kernel_rfl) (by rfl) (fun K hK => ?_); go_simp; refine hK.out _ _ (by (try dsimp only); (exact xX)) (fun hHeld => ?_); clear hK K; try simp only [Act.put,pA,pB,pC]
    refine tK 4 (v := ?_) ?_ ?_;rotate_left;(focus (intro w hSw;(try dsimp only at hSw);go_simp;(try with_reducible rfl)));try simp only [Act.put,pA,pB,pC]
    refine held_do 6 rfl (by kernel_rfl) (by rfl) (fun K hK => ?_); (first | (refine wp_append_mine (.tmp 11) (.tmp 15) 26 rfl (bt + 1) 28 i0 (.agg #[.int .u8 0, .int .u8 0, .int .i64 0, .int .i64 0, .string ⟨#[]⟩, .string ⟨#[]⟩, .string ⟨#[]⟩, .slice none 0 0]) 8 96 Tryz.underlying26 HI.out.1 HI.out.2.1 HI.out.2.2.1 HI.out.2.2.2 rfl (by decide) (Value.slice a ms.length c) ms.length xs rfl HS5.out.own ⟨w2.heap.size, 0, none⟩ 1 1 zeroT.toList rfl rfl (zero_at HQ5.out) zeroT_one (by unfold maxLen; omega) (by omega) (by first | omega | (simp; omega)) ?_; intro v9 w9 ho9 hg9 hw9; have z9 : ExtX (fun b => b = pb ∨ bt ≤ b) w2 w9 := ExtX.grow_ z5 hg9 (fun k hk => .inr (by have := (HS5.out.own.lt k hk).1; omega)); obtain ⟨g5, c5, rfl, hH⟩ := Half8.of HS2.out y5 (Ext.refl w5) HTb2.out k1 k2 HFB.out ho9 hg9 hw9; obtain ⟨q0, q1, q2, q3, q4, q5, q6, q7⟩ := hH.cells; have d7 := hH.tm.eight.2.2.2.2.2.2.2; have d8 := hH.tm.frozen 7; have m0 := hH.own.frozenAt (ms.length * 8); have m1 := hH.own.frozenAt (ms.length * 8 + 1); have m2 := hH.own.frozenAt (ms.length * 8 + 2); have m3 := hH.own.frozenAt (ms.length * 8 + 3); have m4 := hH.own.frozenAt (ms.length * 8 + 4); have m5 := hH.own.frozenAt (ms.length * 8 + 5); have m6 := hH.own.frozenAt (ms.length * 8 + 6); have m7 := hH.own.frozenAt (ms.length * 8 + 7); have hn1 : bt ≠ g5 := (by have := hH.up; omega); have hn2 : g5 ≠ bt := (by have := hH.up; omega); have hlg : g5 < w9.heap.size := block_lt_of_cell q0; have hlt9 := hH.tm.lt; have hP9 := Lib.hid ((hp5).grown_ hg9 (fun k hk => by have := (HS5.out.own.lt k hk).1; omega)); have HH := Lib.hid hH; have hup := hH.up; have hge : bt ≤ g5 := (by omega); have hcl : ms.length + 1 ≤ c5 := hH.le; have hcc := hH.cap; clear hH ho9 hg9 hw9) | (refine wp_append_mine (.tmp 11) (.tmp 15) 26 rfl (bt + 1) 28 i0 (.agg #[.int .u8 0, .int .u8 0, .int .i64 0, .int .i64 0, .string ⟨#[]⟩, .string ⟨#[]⟩, .string ⟨#[]⟩, .slice none 0 0]) 8 96 Tryz.underlying26 HI.out.1 HI.out.2.1 HI.out.2.2.1 HI.out.2.2.2 rfl (by decide) (Value.slice a ms.length c) ms.length xs rfl (HS5.out.own.alloc _) ⟨w5.heap.size, 0, none⟩ 1 1 zeroT.toList rfl rfl (zero_at (Blk.new w5 28 zeroT)) zeroT_one (by unfold maxLen; omega) (by omega) (by first | omega | (simp; omega)) ?_; intro v9 w9 ho9 hg9 hw9; have z9 : ExtX (fun b => b = pb ∨ bt ≤ b) w2 w9 := ExtX.grow_ (z5.then_ ((Ext.refl w5).alloc _)) hg9 (fun k hk => .inr (by have := (HS5.out.own.lt k hk).1; omega)); obtain ⟨g5, c5, rfl, hH⟩ := Half8.of HS2.out y5 ((Ext.refl w5).alloc _) HTb2.out k1 k2 HFB.out ho9 hg9 hw9; obtain ⟨q0, q1, q2, q3, q4, q5, q6, q7⟩ := hH.cells; have d7 := hH.tm.eight.2.2.2.2.2.2.2; have d8 := hH.tm.frozen 7; have m0 := hH.own.frozenAt (ms.length * 8); have m1 := hH.own.frozenAt (ms.length * 8 + 1); have m2 := hH.own.frozenAt (ms.length * 8 + 2); have m3 := hH.own.frozenAt (ms.length * 8 + 3); have m4 := hH.own.frozenAt (ms.length * 8 + 4); have m5 := hH.own.frozenAt (ms.length * 8 + 5); have m6 := hH.own.frozenAt (ms.length * 8 + 6); have m7 := hH.own.frozenAt (ms.length * 8 + 7); have hn1 : bt ≠ g5 := (by have := hH.up; omega); have hn2 : g5 ≠ bt := (by have := hH.up; omega); have hlg : g5 < w9.heap.size := block_lt_of_cell q0; have hlt9 := hH.tm.lt; have hP9 := Lib.hid ((hp5.ext ((Ext.refl w5).alloc _)).grown_ hg9 (fun k hk => by have := (HS5.out.own.lt k hk).1; omega)); have HH := Lib.hid hH; have hup := hH.up; have hge : bt ≤ g5 := (by omega); have hcl : ms.length + 1 ≤ c5 := hH.le; have hcc := hH.cap; clear hH ho9 hg9 hw9)); refine hK.out _ _ (by (try dsimp only); (exact xX)) (fun hHeld => ?_); clear hK K; try simp only [Act.put,pA,pB,pC]
    refine tK 7 (v := ?_) ?_ ?_;rotate_left;(focus (intro w hSw;(try dsimp only at hSw);go_simp;(try with_reducible rfl)));try simp only [Act.put,pA,pB,pC]
    refine tK 9 (v := ?_) ?_ ?_;rotate_left;(focus (intro w hSw;(try dsimp only at hSw);go_simp;(try with_reducible rfl)));try simp only [Act.put,pA,pB,pC]
    refine wpAnyH_ready (rs := [8, 10]) (by kernel_rfl) (by simp) ?_
    refine held_cons 8 rfl (by rfl) (fun K hK => ?_) (held_cons 10 rfl (by rfl) (fun K hK => ?_) AllReadyH.nil)
    go_simp; refine hK.out _ _ (by (try dsimp only); (exact xX)) (fun hHeld => ?_); clear hK K; try simp only [Act.put,pA,pB,pC]
    refine held_do 10 rfl (by kernel_rfl) (by rfl) (fun K hK => ?_); go_simp; refine hK.out _ _ (by (try dsimp only); (exact xX)) (fun hHeld => ?_); clear hK K; try simp only [Act.put,pA,pB,pC]
    refine wpAnyH_done (by kernel_rfl) ?_ _
    rotate_left 1
    go_simp; refine hK.out _ _ (by (try dsimp only); (exact xX)) (fun hHeld => ?_); clear hK K; try simp only [Act.put,pA,pB,pC]
    refine held_do 8 rfl (by kernel_rfl) (by rfl) (fun K hK => ?_); go_simp; refine hK.out _ _ (by (try dsimp only); (exact xX)) (fun hHeld => ?_); clear hK K; try simp only [Act.put,pA,pB,pC]
    refine wpAnyH_done (by kernel_rfl) ?_ _
    rotate_left 1
    go_simp; refine hK.out _ _ (by (try dsimp only); (exact xX)) (fun hHeld => ?_); clear hK K; try simp only [Act.put,pA,pB,pC]
    refine wpAnyH_ready (rs := [1, 3]) (by kernel_rfl) (by simp) ?_
    refine held_cons 1 rfl (by rfl) (fun K hK => ?_) (held_cons 3 rfl (by rfl) (fun K hK => ?_) AllReadyH.nil)
    go_simp; refine hK.out _ _ (by (try dsimp only); (exact xX)) (fun hHeld => ?_); clear hK K; try simp only [Act.put,pA,pB,pC]
    refine tK 4 (v := ?_) ?_ ?_;rotate_left;(focus (intro w hSw;(try dsimp only at hSw);go_simp;(try with_reducible rfl)));try simp only [Act.put,pA,pB,pC]
    refine held_do 3 rfl (by kernel_rfl) (by rfl) (fun K hK => ?_); go_simp; (first | (refine (KE.out _ (HP2.out.ext (by (exact eX)))).mono ?_; intro e w5 hh; obtain ⟨v5, rfl, ⟨ab, nb, cb, rfl, fb, k1, k2, hTb⟩, hp5, x5⟩ := hh.ok; have y5 : ExtX (· = pb) w2 w5 := (by first | exact ((ExtX.refl w2).drew).trans x5 | exact (((ExtX.refl w2).alloc _).drew).trans x5); have z5 := y5.mono (A' := fun b => b = pb ∨ bt ≤ b) (fun b h => .inl h); have HTb2 := Lib.hid (show IsTmsA (fun b => b < w2.heap.size) w5 kb ab nb from hTb.off (fun b _ hb => (by have hb : b < w2.heap.size := hb; simp; try omega))); have hS5 := HS2.out.extx y5; have e7 := hS5.tm.eight.2.2.2.2.2.2.2; have hl5 := hS5.tm.lt; have HS5 := Lib.hid hS5; have hs5 := y5.size; have HFB := Lib.hid fb; (try (have HQ5 := Lib.hid (show Blk w5 w2.heap.size 28 zeroT from (Blk.new w2 28 zeroT).drew.nez x5 (by omega)))); clear hTb hh hS5)); (try (focus (go_wp2_with fail))); refine hK.out _ _ (by (try dsimp only); (exact xX)) (fun hHeld => ?_); clear hK K; try simp only [Act.put,pA,pB,pC]
    refine held_do 6 rfl (by kernel_rfl) (by rfl) (fun K hK => ?_); (first | (refine wp_append_mine (.tmp 11) (.tmp 15) 26 rfl (bt + 1) 28 i0 (.agg #[.int .u8 0, .int .u8 0, .int .i64 0, .int .i64 0, .string ⟨#[]⟩, .string ⟨#[]⟩, .string ⟨#[]⟩, .slice none 0 0]) 8 96 Tryz.underlying26 HI.out.1 HI.out.2.1 HI.out.2.2.1 HI.out.2.2.2 rfl (by decide) (Value.slice a ms.length c) ms.length xs rfl HS5.out.own ⟨w2.heap.size, 0, none⟩ 1 1 zeroT.toList rfl rfl (zero_at HQ5.out) zeroT_one (by unfold maxLen; omega) (by omega) (by first | omega | (simp; omega)) ?_; intro v9 w9 ho9 hg9 hw9; have z9 : ExtX (fun b => b = pb ∨ bt ≤ b) w2 w9 := ExtX.grow_ z5 hg9 (fun k hk => .inr (by have := (HS5.out.own.lt k hk).1; omega)); obtain ⟨g5, c5, rfl, hH⟩ := Half8.of HS2.out y5 (Ext.refl w5) HTb2.out k1 k2 HFB.out ho9 hg9 hw9; obtain ⟨q0, q1, q2, q3, q4, q5, q6, q7⟩ := hH.cells; have d7 := hH.tm.eight.2.2.2.2.2.2.2; have d8 := hH.tm.frozen 7; have m0 := hH.own.frozenAt (ms.length * 8); have m1 := hH.own.frozenAt (ms.length * 8 + 1); have m2 := hH.own.frozenAt (ms.length * 8 + 2); have m3 := hH.own.frozenAt (ms.length * 8 + 3); have m4 := hH.own.frozenAt (ms.length * 8 + 4); have m5 := hH.own.frozenAt (ms.length * 8 + 5); have m6 := hH.own.frozenAt (ms.length * 8 + 6); have m7 := hH.own.frozenAt (ms.length * 8 + 7); have hn1 : bt ≠ g5 := (by have := hH.up; omega); have hn2 : g5 ≠ bt := (by have := hH.up; omega); have hlg : g5 < w9.heap.size := block_lt_of_cell q0; have hlt9 := hH.tm.lt; have hP9 := Lib.hid ((hp5).grown_ hg9 (fun k hk => by have := (HS5.out.own.lt k hk).1; omega)); have HH := Lib.hid hH; have hup := hH.up; have hge : bt ≤ g5 := (by omega); have hcl : ms.length + 1 ≤ c5 := hH.le; have hcc := hH.cap; clear hH ho9 hg9 hw9) | (refine wp_append_mine (.tmp 11) (.tmp 15) 26 rfl (bt + 1) 28 i0 (.agg #[.int .u8 0, .int .u8 0, .int .i64 0, .int .i64 0, .string ⟨#[]⟩, .string ⟨#[]⟩, .string ⟨#[]⟩, .slice none 0 0]) 8 96 Tryz.underlying26 HI.out.1 HI.out.2.1 HI.out.2.2.1 HI.out.2.2.2 rfl (by decide) (Value.slice a ms.length c) ms.length xs rfl (HS5.out.own.alloc _) ⟨w5.heap.size, 0, none⟩ 1 1 zeroT.toList rfl rfl (zero_at (Blk.new w5 28 zeroT)) zeroT_one (by unfold maxLen; omega) (by omega) (by first | omega | (simp; omega)) ?_; intro v9 w9 ho9 hg9 hw9; have z9 : ExtX (fun b => b = pb ∨ bt ≤ b) w2 w9 := ExtX.grow_ (z5.then_ ((Ext.refl w5).alloc _)) hg9 (fun k hk => .inr (by have := (HS5.out.own.lt k hk).1; omega)); obtain ⟨g5, c5, rfl, hH⟩ := Half8.of HS2.out y5 ((Ext.refl w5).alloc _) HTb2.out k1 k2 HFB.out ho9 hg9 hw9; obtain ⟨q0, q1, q2, q3, q4, q5, q6, q7⟩ := hH.cells; have d7 := hH.tm.eight.2.2.2.2.2.2.2; have d8 := hH.tm.frozen 7; have m0 := hH.own.frozenAt (ms.length * 8); have m1 := hH.own.frozenAt (ms.length * 8 + 1); have m2 := hH.own.frozenAt (ms.length * 8 + 2); have m3 := hH.own.frozenAt (ms.length * 8 + 3); have m4 := hH.own.frozenAt (ms.length * 8 + 4); have m5 := hH.own.frozenAt (ms.length * 8 + 5); have m6 := hH.own.frozenAt (ms.length * 8 + 6); have m7 := hH.own.frozenAt (ms.length * 8 + 7); have hn1 : bt ≠ g5 := (by have := hH.up; omega); have hn2 : g5 ≠ bt := (by have := hH.up; omega); have hlg : g5 < w9.heap.size := block_lt_of_cell q0; have hlt9 := hH.tm.lt; have hP9 := Lib.hid ((hp5.ext ((Ext.refl w5).alloc _)).grown_ hg9 (fun k hk => by have := (HS5.out.own.lt k hk).1; omega)); have HH := Lib.hid hH; have hup := hH.up; have hge : bt ≤ g5 := (by omega); have hcl : ms.length + 1 ≤ c5 := hH.le; have hcc := hH.cap; clear hH ho9 hg9 hw9)); refine hK.out _ _ (by (try dsimp only); (exact xX)) (fun hHeld => ?_); clear hK K; try simp only [Act.put,pA,pB,pC]
    refine tK 7 (v := ?_) ?_ ?_;rotate_left;(focus (intro w hSw;(try dsimp only at hSw);go_simp;(try with_reducible rfl)));try simp only [Act.put,pA,pB,pC]
    refine tK 9 (v := ?_) ?_ ?_;rotate_left;(focus (intro w hSw;(try dsimp only at hSw);go_simp;(try with_reducible rfl)));try simp only [Act.put,pA,pB,pC]
    refine wpAnyH_ready (rs := [8, 10]) (by kernel_rfl) (by simp) ?_
    refine held_cons 8 rfl (by rfl) (fun K hK => ?_) (held_cons 10 rfl (by rfl) (fun K hK => ?_) AllReadyH.nil)
    go_simp; refine hK.out _ _ (by (try dsimp only); (exact xX)) (fun hHeld => ?_); clear hK K; try simp only [Act.put,pA,pB,pC]
    refine held_do 10 rfl (by kernel_rfl) (by rfl) (fun K hK => ?_); go_simp; refine hK.out _ _ (by (try dsimp only); (exact xX)) (fun hHeld => ?_); clear hK K; try simp only [Act.put,pA,pB,pC]
    refine wpAnyH_done (by kernel_rfl) ?_ _
    rotate_left 1
    go_simp; refine hK.out _ _ (by (try dsimp only); (exact xX)) (fun hHeld => ?_); clear hK K; try simp only [Act.put,pA,pB,pC]
    refine held_do 8 rfl (by kernel_rfl) (by rfl) (fun K hK => ?_); go_simp; refine hK.out _ _ (by (try dsimp only); (exact xX)) (fun hHeld => ?_); clear hK K; try simp only [Act.put,pA,pB,pC]
    refine wpAnyH_done (by kernel_rfl) ?_ _
    rotate_left 1
    go_simp; (first | (refine (KE.out _ (HP2.out.ext (by (exact eX)))).mono ?_; intro e w5 hh; obtain ⟨v5, rfl, ⟨ab, nb, cb, rfl, fb, k1, k2, hTb⟩, hp5, x5⟩ := hh.ok; have y5 : ExtX (· = pb) w2 w5 := (by first | exact ((ExtX.refl w2).drew).trans x5 | exact (((ExtX.refl w2).alloc _).drew).trans x5); have z5 := y5.mono (A' := fun b => b = pb ∨ bt ≤ b) (fun b h => .inl h); have HTb2 := Lib.hid (show IsTmsA (fun b => b < w2.heap.size) w5 kb ab nb from hTb.off (fun b _ hb => (by have hb : b < w2.heap.size := hb; simp; try omega))); have hS5 := HS2.out.extx y5; have e7 := hS5.tm.eight.2.2.2.2.2.2.2; have hl5 := hS5.tm.lt; have HS5 := Lib.hid hS5; have hs5 := y5.size; have HFB := Lib.hid fb; (try (have HQ5 := Lib.hid (show Blk w5 w2.heap.size 28 zeroT from (Blk.new w2 28 zeroT).drew.nez x5 (by omega)))); clear hTb hh hS5)); (try (focus (go_wp2_with fail))); refine hK.out _ _ (by (try dsimp only); (exact xX)) (fun hHeld => ?_); clear hK K; try simp only [Act.put,pA,pB,pC]
    refine held_do 1 rfl (by kernel_rfl) (by rfl) (fun K hK => ?_); go_simp; refine hK.out _ _ (by (try dsimp only); (exact xX)) (fun hHeld => ?_); clear hK K; try simp only [Act.put,pA,pB,pC]
    refine tK 4 (v := ?_) ?_ ?_;rotate_left;(focus (intro w hSw;(try dsimp only at hSw);go_simp;(try with_reducible rfl)));try simp only [Act.put,pA,pB,pC]
    refine held_do 6 rfl (by kernel_rfl) (by rfl) (fun K hK => ?_); (first | (refine wp_append_mine (.tmp 11) (.tmp 15) 26 rfl (bt + 1) 28 i0 (.agg #[.int .u8 0, .int .u8 0, .int .i64 0, .int .i64 0, .string ⟨#[]⟩, .string ⟨#[]⟩, .string ⟨#[]⟩, .slice none 0 0]) 8 96 Tryz.underlying26 HI.out.1 HI.out.2.1 HI.out.2.2.1 HI.out.2.2.2 rfl (by decide) (Value.slice a ms.length c) ms.length xs rfl HS5.out.own ⟨w2.heap.size, 0, none⟩ 1 1 zeroT.toList rfl rfl (zero_at HQ5.out) zeroT_one (by unfold maxLen; omega) (by omega) (by first | omega | (simp; omega)) ?_; intro v9 w9 ho9 hg9 hw9; have z9 : ExtX (fun b => b = pb ∨ bt ≤ b) w2 w9 := ExtX.grow_ z5 hg9 (fun k hk => .inr (by have := (HS5.out.own.lt k hk).1; omega)); obtain ⟨g5, c5, rfl, hH⟩ := Half8.of HS2.out y5 (Ext.refl w5) HTb2.out k1 k2 HFB.out ho9 hg9 hw9; obtain ⟨q0, q1, q2, q3, q4, q5, q6, q7⟩ := hH.cells; have d7 := hH.tm.eight.2.2.2.2.2.2.2; have d8 := hH.tm.frozen 7; have m0 := hH.own.frozenAt (ms.length * 8); have m1 := hH.own.frozenAt (ms.length * 8 + 1); have m2 := hH.own.frozenAt (ms.length * 8 + 2); have m3 := hH.own.frozenAt (ms.length * 8 + 3); have m4 := hH.own.frozenAt (ms.length * 8 + 4); have m5 := hH.own.frozenAt (ms.length * 8 + 5); have m6 := hH.own.frozenAt (ms.length * 8 + 6); have m7 := hH.own.frozenAt (ms.length * 8 + 7); have hn1 : bt ≠ g5 := (by have := hH.up; omega); have hn2 : g5 ≠ bt := (by have := hH.up; omega); have hlg : g5 < w9.heap.size := block_lt_of_cell q0; have hlt9 := hH.tm.lt; have hP9 := Lib.hid ((hp5).grown_ hg9 (fun k hk => by have := (HS5.out.own.lt k hk).1; omega)); have HH := Lib.hid hH; have hup := hH.up; have hge : bt ≤ g5 := (by omega); have hcl : ms.length + 1 ≤ c5 := hH.le; have hcc := hH.cap; clear hH ho9 hg9 hw9) | (refine wp_append_mine (.tmp 11) (.tmp 15) 26 rfl (bt + 1) 28 i0 (.agg #[.int .u8 0, .int .u8 0, .int .i64 0, .int .i64 0, .string ⟨#[]⟩, .string ⟨#[]⟩, .string ⟨#[]⟩, .slice none 0 0]) 8 96 Tryz.underlying26 HI.out.1 HI.out.2.1 HI.out.2.2.1 HI.out.2.2.2 rfl (by decide) (Value.slice a ms.length c) ms.length xs rfl (HS5.out.own.alloc _) ⟨w5.heap.size, 0, none⟩ 1 1 zeroT.toList rfl rfl (zero_at (Blk.new w5 28 zeroT)) zeroT_one (by unfold maxLen; omega) (by omega) (by first | omega | (simp; omega)) ?_; intro v9 w9 ho9 hg9 hw9; have z9 : ExtX (fun b => b = pb ∨ bt ≤ b) w2 w9 := ExtX.grow_ (z5.then_ ((Ext.refl w5).alloc _)) hg9 (fun k hk => .inr (by have := (HS5.out.own.lt k hk).1; omega)); obtain ⟨g5, c5, rfl, hH⟩ := Half8.of HS2.out y5 ((Ext.refl w5).alloc _) HTb2.out k1 k2 HFB.out ho9 hg9 hw9; obtain ⟨q0, q1, q2, q3, q4, q5, q6, q7⟩ := hH.cells; have d7 := hH.tm.eight.2.2.2.2.2.2.2; have d8 := hH.tm.frozen 7; have m0 := hH.own.frozenAt (ms.length * 8); have m1 := hH.own.frozenAt (ms.length * 8 + 1); have m2 := hH.own.frozenAt (ms.length * 8 + 2); have m3 := hH.own.frozenAt (ms.length * 8 + 3); have m4 := hH.own.frozenAt (ms.length * 8 + 4); have m5 := hH.own.frozenAt (ms.length * 8 + 5); have m6 := hH.own.frozenAt (ms.length * 8 + 6); have m7 := hH.own.frozenAt (ms.length * 8 + 7); have hn1 : bt ≠ g5 := (by have := hH.up; omega); have hn2 : g5 ≠ bt := (by have := hH.up; omega); have hlg : g5 < w9.heap.size := block_lt_of_cell q0; have hlt9 := hH.tm.lt; have hP9 := Lib.hid ((hp5.ext ((Ext.refl w5).alloc _)).grown_ hg9 (fun k hk => by have := (HS5.out.own.lt k hk).1; omega)); have HH := Lib.hid hH; have hup := hH.up; have hge : bt ≤ g5 := (by omega); have hcl : ms.length + 1 ≤ c5 := hH.le; have hcc := hH.cap; clear hH ho9 hg9 hw9)); refine hK.out _ _ (by (try dsimp only); (exact xX)) (fun hHeld => ?_); clear hK K; try simp only [Act.put,pA,pB,pC]
    refine tK 7 (v := ?_) ?_ ?_;rotate_left;(focus (intro w hSw;(try dsimp only at hSw);go_simp;(try with_reducible rfl)));try simp only [Act.put,pA,pB,pC]
    refine tK 9 (v := ?_) ?_ ?_;rotate_left;(focus (intro w hSw;(try dsimp only at hSw);go_simp;(try with_reducible rfl)));try simp only [Act.put,pA,pB,pC]
    refine wpAnyH_ready (rs := [8, 10]) (by kernel_rfl) (by simp) ?_
    refine held_cons 8 rfl (by rfl) (fun K hK => ?_) (held_cons 10 rfl (by rfl) (fun K hK => ?_) AllReadyH.nil)
    go_simp; refine hK.out _ _ (by (try dsimp only); (exact xX)) (fun hHeld => ?_); clear hK K; try simp only [Act.put,pA,pB,pC]
    refine held_do 10 rfl (by kernel_rfl) (by rfl) (fun K hK => ?_); go_simp; refine hK.out _ _ (by (try dsimp only); (exact xX)) (fun hHeld => ?_); clear hK K; try simp only [Act.put,pA,pB,pC]
    refine wpAnyH_done (by kernel_rfl) ?_ _
    rotate_left 1
    go_simp; refine hK.out _ _ (by (try dsimp only); (exact xX)) (fun hHeld => ?_); clear hK K; try simp only [Act.put,pA,pB,pC]
    refine held_do 8 rfl (by kernel_rfl) (by rfl) (fun K hK => ?_); go_simp; refine hK.out _ _ (by (try dsimp only); (exact xX)) (fun hHeld => ?_); clear hK K; try simp only [Act.put,pA,pB,pC]
    refine wpAnyH_done (by kernel_rfl) ?_ _
    rotate_left 1
    all_goals
      have hP := hP9.out
      have hgp : pb < g5 := by omega
      have hbp : pb < bt := by omega
      have L1 := HH.out.lay
      have L2 := HH.out.lay2
      refine bodyPost_end (v := .tuple #[]) (results_none rfl _ _ _) rfl ⟨X2.out.trans hHeld, rfl, by clear hHeld L1 L2; (exact prX), ?_⟩
      refine ⟨some ⟨g5, 0, none⟩, c5, xs ++ (tcells (Tm.mk xb kb).head ab nb cb).toList, ?_⟩
      have em : Tm.mk (Tm.mk xb kb).head kb = Tm.mk xb kb := rfl
      rw [em] at L1 L2
      first
        | (with_reducible exact L1)
        | (with_reducible exact L2)
theorem ExtX.shrink {w W0 W : World} {pb bt : Nat} (h0 : ExtX (· = pb) w W0) (h : ExtX (fun b => b = pb ∨ bt ≤ b) W0 W) (hb : w.heap.size ≤ bt) : ExtX (· = pb) w W :=
  ⟨h.os.trans h0.os, h.tape.trans h0.tape, h.output.trans h0.output, Nat.le_trans h0.size h.size, fun k hk ha => (h.block k (Nat.lt_of_lt_of_le hk h0.size) (by
    rintro (e | e)
    · exact ha e
    · omega)).trans (h0.block k hk ha)⟩
theorem Sub8.put {pb b1 bt : Nat} {x : Hd} {ms : List Tm} {a : Option Addr} {c : Nat} {xs : List Value} {w : World} (h : Sub8 pb b1 bt x ms a c xs w) (i : Nat) (u : Value) (x' : Hd)
    (e : (#[.int .u8 x.k, .int .u8 x.op, .int .i64 x.pos, .int .i64 x.n, .string x.name, .string x.arg, .string x.exn, .slice a ms.length c] : Array Value).setIfInBounds i u = #[.int .u8 x'.k, .int .u8 x'.op, .int .i64 x'.pos, .int .i64 x'.n, .string x'.name, .string x'.arg, .string x'.exn, .slice a ms.length c]) :
    Sub8 pb b1 bt x' ms a c xs (w.setCell ⟨bt, i, none⟩ u) := by
  have o2 := h.o2
  refine ⟨h.ptr.far (p := ⟨bt, i, none⟩) (by show b1 ≠ bt; omega) u, by have := h.tm.set_ i u; rw [e] at this; exact this, ?_, ?_, h.le, h.cap, h.o1, o2⟩
  · refine h.own.kept (row := some bt) ⟨rfl, rfl, rfl, by simp [World.setCell], fun k _ hk => Below.heap_setCell _ _ _ _ (fun e => hk (by simp at e; rw [e]))⟩ ?_
    cases hv : (Value.slice a ms.length c).ownBlock with
    | none => exact .inl rfl
    | some k =>
      refine .inr ?_
      intro e
      have := (h.own.lt k hv).1
      have := Option.some.inj e
      omega
  · exact h.flat.move (fun _ _ h => h) fun p v hp hv => (World.cell?_setCell_other _ _ p _ (fun e => hp (.inl (by subst e; exact Nat.le_refl _)))).trans hv
theorem Sub8.tms {pb b1 bt : Nat} {x : Hd} {ms : List Tm} {a : Option Addr} {c : Nat} {xs : List Value} {w : World} (h : Sub8 pb b1 bt x ms a c xs w) : IsTmsA (fun b => b ≤ bt) w ms a ms.length := by
  rcases Nat.eq_zero_or_pos ms.length with h0 | h0
  · obtain rfl := List.eq_nil_of_length_eq_zero h0
    exact IsTmsA.nil _
  · obtain ⟨g, cap, e, hg, hl, h1, h2, hc⟩ := owns_open h.own h0
    simp at e
    obtain ⟨rfl, rfl⟩ := e
    exact h.flat.tms (fun b hb => .inl hb) g 0 (by omega) fun j u hu => by simpa using hc j u hu
theorem Sub8.start {pb b1 : Nat} {x : Hd} {w : World} (hp : Blk w b1 60 #[.pointer (some ⟨pb, 0, none⟩)]) (o1 : pb < b1) :
    Sub8 pb b1 w.heap.size x [] none 0 [] (w.alloc (.cells #[.int .u8 x.k, .int .u8 x.op, .int .i64 x.pos, .int .i64 x.n, .string x.name, .string x.arg, .string x.exn, .slice none 0 0] 28)) :=
  ⟨hp.alloc _, Blk.new w _ _, World.ownsRow_nil _ _ _ _, rfl, Nat.le_refl _, by omega, o1, hp.lt⟩
structure LaidE (pb z0 : Nat) (w w1 : World) (x : Hd) (ks : List Tm) (a : Option Addr) (n c : Nat) (l : List Tk) : Prop where
  z : Blk w1 z0 28 #[.int .u8 0, .int .u8 0, .int .i64 0, .int .i64 0, .string ⟨#[]⟩, .string ⟨#[]⟩, .string ⟨#[]⟩, .slice none 0 0]
  fits : x.Fits
  le : n ≤ c
  cap : c ≤ 9223372036854775807
  tms : IsTmsA (fun b => b ≤ z0) w1 ks a n
  prs : Prs w1 pb l
  ext : ExtX (· = pb) w w1
  lt : pb < z0
  up : w.heap.size ≤ z0
theorem LaidE.ret {pb z0 : Nat} {w w1 : World} {x : Hd} {ks : List Tm} {a : Option Addr} {n c : Nat} {l : List Tk} (h : LaidE pb z0 w w1 x ks a n c l) {fn : Func} {act : Act}
    (hr : ∀ w2 : World, w2.cell? ⟨z0, 0, none⟩ = some (.int .u8 x.k) → w2.cell? ⟨z0, 1, none⟩ = some (.int .u8 x.op) → w2.cell? ⟨z0, 2, none⟩ = some (.int .i64 x.pos) → w2.cell? ⟨z0, 3, none⟩ = some (.int .i64 x.n) → w2.cell? ⟨z0, 4, none⟩ = some (.string x.name) → w2.cell? ⟨z0, 5, none⟩ = some (.string x.arg) → w2.cell? ⟨z0, 6, none⟩ = some (.string x.exn) → w2.cell? ⟨z0, 7, none⟩ = some (.slice a n c) →
      (results fn act.tmps).run Tryz.prog w2 = .ok (.agg #[.int .u8 x.k, .int .u8 x.op, .int .i64 x.pos, .int .i64 x.n, .string x.name, .string x.arg, .string x.exn, .slice a n c]) w2) (hd : act.defers = []) :
    bodyPost Tryz.prog fn (RetP pb w (IsNew w.heap.size) (.ok (.mk x ks, l))) .ret act ((((((((w1.setCell ⟨z0, 0, none⟩ (.int .u8 x.k)).setCell ⟨z0, 1, none⟩ (.int .u8 x.op)).setCell ⟨z0, 2, none⟩ (.int .i64 x.pos)).setCell ⟨z0, 3, none⟩ (.int .i64 x.n)).setCell ⟨z0, 4, none⟩ (.string x.name)).setCell ⟨z0, 5, none⟩ (.string x.arg)).setCell ⟨z0, 6, none⟩ (.string x.exn)).setCell ⟨z0, 7, none⟩ (.slice a n c)) := by
  have hZ9 := h.z.lay8 (u0 := .int .u8 x.k) (u1 := .int .u8 x.op) (u2 := .int .i64 x.pos) (u3 := .int .i64 x.n) (u4 := .string x.name) (u5 := .string x.arg) (u6 := .string x.exn) (u7 := .slice a n c)
  have up := h.up
  refine ret8 hZ9 (fun ⟨r0, r1, r2, r3, r4, r5, r6, r7⟩ => hr _ r0 r1 r2 r3 r4 r5 r6 r7) hd ⟨h.ext.set8 (.inr up), _, rfl, ⟨a, n, c, rfl, h.fits, h.le, h.cap, ?_⟩, h.prs.set8 h.lt⟩
  exact (h.tms.set8 (Nat.le_refl _)).off fun b _ hb => (by have hb : b < w.heap.size := hb; show b ≤ z0; omega)
theorem andThen_assoc {α β γ : Type} (r : Option (Res α)) (k : α → List Tk → Option (Res β)) (k' : β → List Tk → Option (Res γ)) : andThen (andThen r k) k' = andThen r fun a l => andThen (k a l) k' := by
  cases r with
  | none => rfl
  | some x =>
    cases x with
    | error l => rfl
    | ok p => rfl
theorem isT_mem {x : ByteArray} {xs : List ByteArray} {l : List Tk} (hx : x ∈ xs) (h : isT [x] l = true) : isT xs l = true := by
  obtain ⟨t, r, rfl, -, ht, hk⟩ := isT_ne h
  have ht : t.text = x := by simpa using ht
  have : inB xs t.text = true := by rw [inB_iff, ht]; exact hx
  rw [isT_cons, this]
  rcases hk with hk | hk <;> simp [hk]
theorem isT_other {x y : ByteArray} {l : List Tk} (h : isT [x] l = true) (hne : x ≠ y) : isT [y] l = false := by
  obtain ⟨t, r, rfl, -, ht, hk⟩ := isT_ne h
  have ht : t.text = x := by simpa using ht
  cases hy : isT [y] (t :: r) with
  | false => rfl
  | true =>
    have := isT_text hy
    exact (hne (ht.symm.trans this)).elim
theorem sub_ended0 {f : Nat} {l l' : List Tk} {t : Tm} (he : Ended l) (h : parseF f .expr l = some (.ok (t, l'))) : Ended l' := (parseF_told he h).1
theorem sub_ended {f : Nat} {y : ByteArray} {l l' : List Tk} {t : Tm} (he : Ended l) (h : (andThen (some (getW y l)) fun _ l1 => parseF f .expr l1) = some (.ok (t, l'))) : Ended l' := by
  obtain ⟨_, l1, e1, e2⟩ := andThen_inv h
  have hw : getW y l = .ok ((), l1) := Option.some.inj e1
  exact sub_ended0 (getW_ended he hw) e2
theorem row_new2 (w : World) (o o2 : Obj) (t : TypeId) (l : List Value) : IsRow (((w.alloc o).alloc o2).alloc (.cells l.toArray t)) l (some ⟨w.heap.size + 1 + 1, 0, none⟩) l.length := by
  have := IsRow.new ((w.alloc o).alloc o2) t l
  rw [World.size_alloc, World.size_alloc] at this
  exact this
end Go.Proofs.YtaioeailgknfjaaGreatDoor

/- Part 27 of the proof: Show1; no condition of ours. -/
import Derived.Test.YtaioeailgknfjaaGreatDoorPkp1
import Derived.Test.YtaioeailgknfjaaGreatDoorPkp3
import Derived.Test.YtaioeailgknfjaaGreatDoorPkp5
import Derived.Test.YtaioeailgknfjaaGreatDoorPkp14
import Derived.Test.YtaioeailgknfjaaGreatDoorPkp20
import Derived.Test.YtaioeailgknfjaaGreatDoorPkp26
set_option linter.unusedVariables false
set_option linter.unusedSimpArgs false
namespace Go.Proofs.YtaioeailgknfjaaGreatDoor
open Go.Lib (hid)
open Go Go.RowKit Go.Sort
def TabG (g : Nat) (w : World) : Prop := ∃ w0, Tab w0 ∧ w0.heap.size ≤ g ∧ Ext w0 w
theorem TabG.ext {g : Nat} {w w' : World} (h : TabG g w) (hx : Ext w w') : TabG g w' := by
  obtain ⟨w0, h1, h2, h3⟩ := h
  exact ⟨w0, h1, h2, h3.trans hx⟩
theorem TabG.x {X : Nat → Prop} {g : Nat} {w w' : World} (h : TabG g w) (hx : ExtX X w w') (hX : ∀ b, X b → g ≤ b) : TabG g w' := by
  obtain ⟨w0, h1, h2, h3⟩ := h
  exact ⟨w0, h1, h2, ExtX.ext h3 hx (fun b hb => Nat.le_trans h2 (hX b hb))⟩
theorem TabG.tab {g : Nat} {w : World} (h : TabG g w) : Tab w := by
  obtain ⟨w0, h1, h2, h3⟩ := h
  exact h1.ext h3
structure WrAt (w : World) (g : Nat) (v : Value) (ws : List ByteArray) : Prop where
  blk : Blk w g 85 #[v]
  row : w.ownsRow (g + 1) 9 1 v ws.length (vstr ws)
  tab : TabG g w
def WrX (g : Nat) (v : Value) (b : Nat) : Prop := b = g ∨ v.ownBlock = some b
def RetWr (w : World) (g : Nat) (v : Value) (ws : List ByteArray) (e : Ending) (w' : World) : Prop :=
  e = .returned (.tuple #[]) ∧ ∃ v', WrAt w' g v' ws ∧ (v'.ownBlock = v.ownBlock ∨ ∀ k, v'.ownBlock = some k → w.heap.size ≤ k) ∧ ExtX (WrX g v) w w'
theorem WrAt.lt {w : World} {g : Nat} {v : Value} {ws : List ByteArray} (h : WrAt w g v ws) : g < w.heap.size := h.blk.lt
theorem WrAt.own {w : World} {g : Nat} {v : Value} {ws : List ByteArray} (h : WrAt w g v ws) {k : Nat} (e : v.ownBlock = some k) : g < k ∧ k < w.heap.size := by
  have := h.row.lt k e
  omega
theorem WrAt.x {w : World} {g : Nat} {v : Value} {ws : List ByteArray} (h : WrAt w g v ws) {b : Nat} (e : WrX g v b) : b < w.heap.size := by
  rcases e with rfl | e
  · exact h.lt
  · exact (h.own e).2
theorem WrAt.ext {w w' : World} {g : Nat} {v : Value} {ws : List ByteArray} (h : WrAt w g v ws) (hx : Ext w w') : WrAt w' g v ws := ⟨h.blk.ext hx, owns_ext hx h.row, h.tab.ext hx⟩
theorem WrAt.ge {w : World} {g : Nat} {v : Value} {ws : List ByteArray} (h : WrAt w g v ws) : ∀ b, WrX g v b → g ≤ b := fun b e => by
  rcases e with e | e
  · exact Nat.le_of_eq e.symm
  · exact Nat.le_of_lt (h.own e).1
theorem WrAt.slice {w : World} {g : Nat} {v : Value} {ws : List ByteArray} (h : WrAt w g v ws) : ∃ a c, v = .slice a ws.length c := by
  rcases h.row.2 with ⟨rfl, h0⟩ | ⟨g, cap, cur, rfl, -⟩
  · exact ⟨none, 0, by rw [h0]⟩
  · exact ⟨_, cap, rfl⟩
theorem infoStrW : (Tryz.prog.info? 9).map (fun i => (i.zero, i.size, i.bytes)) = some (some (.string ByteArray.empty), 1, 16) := by kernel_rfl
set_option maxRecDepth 8000 in
set_option maxHeartbeats 2000000 in
theorem show_put (g : Nat) (v : Value) (ws ls : List ByteArray) (w : World) (ad : Addr) (c : Nat) (h : WrAt w g v ws) (hc : ∀ (j : Nat) u, (vstr ls)[j]? = some u → w.cell? (ad.add j) = some u) (hb : ws.length + ls.length ≤ 1000000) :
    Calls Tryz.prog 53 #[.pointer (some ⟨g, 0, none⟩), .slice (some ad) ls.length c] w (RetWr w g v (ws ++ ls)) := by
  obtain ⟨i0, hi, hz0, hz1', hz2'⟩ := info_parts infoStrW
  have HI := hid (And.intro hi (And.intro hz0 (And.intro hz1' hz2')))
  obtain ⟨va, vc, rfl⟩ := h.slice
  have HW := hid h
  have HC := hid hc
  have c0 := h.blk.cell 0
  simp at c0
  have f0 := h.blk.frozen 0
  have lg := h.lt
  clear hi hz0 hz1' hz2' h hc
  go_enter Tryz.func53, Tryz.ntmps53
  go_wp2_with (at_builtin; refine wpList_append_mine rfl (.tmp 8) (.tmp 9) 83 ?r0 (g + 1) 9 i0 (.string ByteArray.empty) 1 16 ?r1 ?r2 ?r3 ?r4 ?r5 ?r6 ?r7 (.slice va ws.length vc) ws.length (vstr ws) ?r8 ?r9 ad ls.length c (vstr ls) ?r10 ?r11 ?r12 ?r13 ?r14 ?r15 ?r16 ?r17)
  case r0 => rfl
  case r1 => exact Tryz.underlying83
  case r2 => exact HI.out.1
  case r3 => exact HI.out.2.1
  case r4 => exact HI.out.2.2.1
  case r5 => exact HI.out.2.2.2
  case r6 => rfl
  case r7 => decide
  case r8 => rfl
  case r9 => exact HW.out.row
  case r10 => rfl
  case r11 => simp [vstr]
  case r12 => exact HC.out
  case r13 => intro u hu; unfold vstr at hu; obtain ⟨x, -, rfl⟩ := List.mem_map.1 hu; rfl
  case r14 => unfold maxLen; omega
  case r15 => omega
  case r16 => omega
  case r17 =>
    intro v9 w9 ho9 hg9 hw9
    obtain ⟨a9, c9, rfl⟩ : ∃ a c, v9 = .slice a (ws.length + ls.length) c := by
      rcases ho9.2 with ⟨rfl, h0⟩ | ⟨g, cap, cur, rfl, -⟩
      · exact ⟨none, 0, by rw [h0]⟩
      · exact ⟨_, cap, rfl⟩
    have k0 : Blk w9 g 85 #[.slice va ws.length vc] := (hg9.block g lg (fun e => by have := (HW.out.own e.symm).1; omega)).trans HW.out.blk
    have X10 : ExtX (· = g) w9 (w9.setCell ⟨g, 0, none⟩ (.slice a9 (ws.length + ls.length) c9)) := (ExtX.refl (A := (· = g)) w9).setCell (p := ⟨g, 0, none⟩) (.inl rfl) _
    have B10 : Blk (w9.setCell ⟨g, 0, none⟩ (.slice a9 (ws.length + ls.length) c9)) g 85 #[.slice a9 (ws.length + ls.length) c9] := by have h := k0.set_ 0 (.slice a9 (ws.length + ls.length) c9); simpa using h
    have O10 : (w9.setCell ⟨g, 0, none⟩ (.slice a9 (ws.length + ls.length) c9)).ownsRow (g + 1) 9 1 (.slice a9 (ws.length + ls.length) c9) (ws ++ ls).length (vstr (ws ++ ls)) := by
      have h := owns_keep X10 (fun k (e : k = g) => by omega) ho9
      have e1 : (ws ++ ls).length = ws.length + ls.length := by simp
      have e2 : vstr (ws ++ ls) = vstr ws ++ vstr ls := by simp [vstr]
      rw [e1, e2]
      exact h
    have HX : Hid (RetWr w g (.slice va ws.length vc) (ws ++ ls) (.returned (.tuple #[])) (w9.setCell ⟨g, 0, none⟩ (.slice a9 (ws.length + ls.length) c9))) := hid (by
      have xx := ((ExtX.refl w).grow_ (A := WrX g (.slice va ws.length vc)) hg9 (fun k hk => .inr hk)).trans (X10.mono fun b e => .inl e)
      exact ⟨rfl, (.slice a9 (ws.length + ls.length) c9), ⟨B10, O10, HW.out.tab.x xx HW.out.ge⟩, hw9, xx⟩)
    have l9 := k0.lt
    have d9 := k0.cell 0
    simp at d9
    have f9 := k0.frozen 0
    clear ho9 hg9 hw9 k0 X10 B10 O10
    go_wp2_with fail
    exact bodyPost_end (v := .tuple #[]) (results_none rfl _ _ _) rfl HX.out
set_option maxRecDepth 8000 in
set_option maxHeartbeats 2000000 in
theorem show_put0 (g : Nat) (v : Value) (ws : List ByteArray) (w : World) (h : WrAt w g v ws) (hb : ws.length ≤ 1000000) :
    Calls Tryz.prog 53 #[.pointer (some ⟨g, 0, none⟩), .slice none 0 0] w (RetWr w g v ws) := by
  obtain ⟨i0, hi, hz0, hz1', hz2'⟩ := info_parts infoStrW
  have HI := hid (And.intro hi (And.intro hz0 (And.intro hz1' hz2')))
  obtain ⟨va, vc, rfl⟩ := h.slice
  have HW := hid h
  have c0 := h.blk.cell 0
  simp at c0
  have f0 := h.blk.frozen 0
  have lg := h.lt
  clear hi hz0 hz1' hz2' h
  go_enter Tryz.func53, Tryz.ntmps53
  go_wp2_with (at_builtin; refine wpList_append_own_none rfl (.tmp 8) (.tmp 9) 83 ?r0 (g + 1) 9 i0 1 ?r1 ?r2 (.slice va ws.length vc) ws.length (vstr ws) ?r8 ?r9 ?r10 ?r17)
  case r0 => rfl
  case r1 => exact Tryz.underlying83
  case r2 => exact HI.out.1
  case r8 => rfl
  case r9 => exact HW.out.row
  case r10 => rfl
  have X10 : ExtX (· = g) w (w.setCell ⟨g, 0, none⟩ (.slice va ws.length vc)) := (ExtX.refl (A := (· = g)) w).setCell (p := ⟨g, 0, none⟩) (.inl rfl) _
  have B10 : Blk (w.setCell ⟨g, 0, none⟩ (.slice va ws.length vc)) g 85 #[.slice va ws.length vc] := by have h := HW.out.blk.set_ 0 (.slice va ws.length vc); simpa using h
  have HX : Hid (RetWr w g (.slice va ws.length vc) ws (.returned (.tuple #[])) (w.setCell ⟨g, 0, none⟩ (.slice va ws.length vc))) := hid ⟨rfl, _, ⟨B10, owns_keep X10 (fun k (e : k = g) => by omega) HW.out.row, HW.out.tab.x X10 (fun b (e : b = g) => Nat.le_of_eq e.symm)⟩, .inl rfl, X10.mono fun b e => .inl e⟩
  clear X10 B10
  go_wp2_with fail
  exact bodyPost_end (v := .tuple #[]) (results_none rfl _ _ _) rfl HX.out
theorem show_loose (op : Int) (w : World) : Calls Tryz.prog 79 #[.int .u8 op] w fun e w' => e = .returned (.int .i64 (looseT op : Nat)) ∧ Ext w w' := by
  have hc : op = 1 ∨ op = 2 ∨ op = 3 ∨ (op ≠ 1 ∧ op ≠ 2 ∧ op ≠ 3) := by omega
  rcases hc with rfl | rfl | rfl | ⟨h1, h2, h3⟩
  · go_enter Tryz.func79, Tryz.ntmps79
    go_wp2_with fail
    go_ret
    exact ⟨rfl, by (exact eX)⟩
  · go_enter Tryz.func79, Tryz.ntmps79
    go_wp2_with fail
    go_ret
    exact ⟨rfl, by (exact eX)⟩
  · go_enter Tryz.func79, Tryz.ntmps79
    go_wp2_with fail
    go_ret
    exact ⟨rfl, by (exact eX)⟩
  · have e : looseT op = 2 := by unfold looseT; rw [if_neg (by omega), if_neg h3]
    rw [e]
    have b1 : (op == 1) = false := by simpa using h1
    have b2 : (op == 2) = false := by simpa using h2
    have b3 : (op == 3) = false := by simpa using h3
    clear h1 h2 h3 e
    go_enter Tryz.func79, Tryz.ntmps79
    go_wp2_with fail
    go_ret
    exact ⟨rfl, by (exact eX)⟩
theorem show_op (op : Int) (w : World) (h : 1 ≤ op ∧ op ≤ 5) : Calls Tryz.prog 80 #[.int .u8 op] w fun e w' => e = .returned (.string (opS op)) ∧ Ext w w' := by
  have hc : op = 1 ∨ op = 2 ∨ op = 3 ∨ op = 4 ∨ op = 5 := by omega
  rcases hc with rfl | rfl | rfl | rfl | rfl
  · have hE : (⟨#[43, 45, 42, 60, 61]⟩ : ByteArray).extract 0 1 = opS 1 := by decide +kernel
    go_enter Tryz.func80, Tryz.ntmps80
    go_wp2_with fail
    go_ret
    exact ⟨by rw [← hE]; rfl, by (exact eX)⟩
  · have hE : (⟨#[43, 45, 42, 60, 61]⟩ : ByteArray).extract 1 2 = opS 2 := by decide +kernel
    go_enter Tryz.func80, Tryz.ntmps80
    go_wp2_with fail
    go_ret
    exact ⟨by rw [← hE]; rfl, by (exact eX)⟩
  · have hE : (⟨#[43, 45, 42, 60, 61]⟩ : ByteArray).extract 2 3 = opS 3 := by decide +kernel
    go_enter Tryz.func80, Tryz.ntmps80
    go_wp2_with fail
    go_ret
    exact ⟨by rw [← hE]; rfl, by (exact eX)⟩
  · have hE : (⟨#[43, 45, 42, 60, 61]⟩ : ByteArray).extract 3 4 = opS 4 := by decide +kernel
    go_enter Tryz.func80, Tryz.ntmps80
    go_wp2_with fail
    go_ret
    exact ⟨by rw [← hE]; rfl, by (exact eX)⟩
  · have hE : (⟨#[43, 45, 42, 60, 61]⟩ : ByteArray).extract 4 5 = opS 5 := by decide +kernel
    go_enter Tryz.func80, Tryz.ntmps80
    go_wp2_with fail
    go_ret
    exact ⟨by rw [← hE]; rfl, by (exact eX)⟩
set_option maxRecDepth 60000 in
set_option maxHeartbeats 4000000 in
theorem show_part (x : Hd) (a : Option Addr) (n c : Nat) (w : World) : Calls Tryz.prog 105 #[.agg #[.int .u8 x.k, .int .u8 x.op, .int .i64 x.pos, .int .i64 x.n, .string x.name, .string x.arg, .string x.exn, .slice a n c]] w fun e w' => e = .returned (.int .i64 (x.part : Nat)) ∧ Ext w w' := by
  have KL := hid fun W (h : Ext w W) => show_loose x.op W
  have hx : x.part = x.part := rfl
  conv at hx => rhs; unfold Hd.part
  have HP := hid hx
  generalize x.part = p at *
  clear hx
  by_cases h0 : x.k = 11 ∨ x.k = 12 ∨ x.k = 13 ∨ x.k = 14 ∨ x.k = 16
  · have HQ : Hid (p = 0) := hid (HP.out.trans (if_pos h0))
    clear HP
    rcases h0 with e | e | e | e | e
    all_goals
      rw [e]
      clear e
      go_enter Tryz.func105, Tryz.ntmps105
      go_wp2_with fail
      go_ret
      exact ⟨by rw [HQ.out]; rfl, by (exact eX)⟩
  have hp := HP.out
  rw [if_neg h0] at hp
  by_cases h8 : x.k = 8
  · rw [if_pos h8] at hp
    have HQ := hid hp
    clear HP hp h0
    rw [h8]
    clear h8
    go_enter Tryz.func105, Tryz.ntmps105
    go_wp2_with fail
    go_ret
    exact ⟨by rw [HQ.out]; rfl, by (exact eX)⟩
  rw [if_neg h8] at hp
  by_cases h10 : x.k = 10
  · rw [if_pos h10] at hp
    have HQ := hid hp
    clear HP hp h0 h8
    rw [h10]
    clear h10
    go_enter Tryz.func105, Tryz.ntmps105
    go_wp2_with fail
    go_ret
    exact ⟨by rw [HQ.out]; rfl, by (exact eX)⟩
  rw [if_neg h10] at hp
  by_cases h9 : x.k = 9
  · rw [if_pos h9] at hp
    have HQ := hid hp
    clear HP hp h0 h8 h10
    rw [h9]
    clear h9
    go_enter Tryz.func105, Tryz.ntmps105
    go_wp2_with (go_at_call 79; refine (KL.out _ (by (exact eX))).mono ?_; rintro e w1 ⟨rfl, x1⟩)
    go_ret
    exact ⟨by rw [HQ.out]; rfl, by (exact eX)⟩
  · rw [if_neg h9] at hp
    have HQ := hid hp
    have b11 : (x.k == 11) = false := by simp; omega
    have b12 : (x.k == 12) = false := by simp; omega
    have b13 : (x.k == 13) = false := by simp; omega
    have b14 : (x.k == 14) = false := by simp; omega
    have b16 : (x.k == 16) = false := by simp; omega
    have b8 : (x.k == 8) = false := by simp; omega
    have b10 : (x.k == 10) = false := by simp; omega
    have b9 : (x.k == 9) = false := by simp; omega
    clear HP hp h0 h8 h10 h9
    go_enter Tryz.func105, Tryz.ntmps105
    go_wp2_with fail
    go_ret
    exact ⟨by rw [HQ.out]; rfl, by (exact eX)⟩
end Go.Proofs.YtaioeailgknfjaaGreatDoor

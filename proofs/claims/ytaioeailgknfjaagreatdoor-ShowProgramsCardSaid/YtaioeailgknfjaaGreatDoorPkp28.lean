/- Part 28 of the proof: Show2; no condition of ours. -/
import Derived.Test.YtaioeailgknfjaaGreatDoorPkp27
set_option linter.unusedVariables false
set_option linter.unusedSimpArgs false
namespace Go.Proofs.YtaioeailgknfjaaGreatDoor
open Go.Lib (hid)
open Go Go.RowKit Go.Sort
def Tm.wx (t : Tm) : List ByteArray := t.wk.map (·.2)
def Tm.kx (t : Tm) (pt : Nat) : List ByteArray := (t.kw pt).map (·.2)
structure WrTo (w : World) (g : Nat) (v : Value) (ws : List ByteArray) (v' : Value) (w' : World) : Prop where
  at_ : WrAt w' g v' ws
  own : v'.ownBlock = v.ownBlock ∨ ∀ k, v'.ownBlock = some k → w.heap.size ≤ k
  x : ExtX (WrX g v) w w'
theorem RetWr.to {w : World} {g : Nat} {v : Value} {ws : List ByteArray} {e : Ending} {w' : World} (h : RetWr w g v ws e w') : e = .returned (.tuple #[]) ∧ ∃ v', WrTo w g v ws v' w' := by
  obtain ⟨h1, v', h2, h3, h4⟩ := h
  exact ⟨h1, v', h2, h3, h4⟩
theorem WrTo.ret {w : World} {g : Nat} {v v' : Value} {ws : List ByteArray} {w' : World} (h : WrTo w g v ws v' w') : RetWr w g v ws (.returned (.tuple #[])) w' := ⟨rfl, v', h.at_, h.own, h.x⟩
theorem WrTo.start {w : World} {g : Nat} {v : Value} {ws : List ByteArray} (h : WrAt w g v ws) : WrTo w g v ws v w := ⟨h, .inl rfl, ExtX.refl _⟩
theorem WrTo.ext {w : World} {g : Nat} {v v' : Value} {ws : List ByteArray} {w1 w2 : World} (h : WrTo w g v ws v' w1) (hx : Ext w1 w2) : WrTo w g v ws v' w2 := ⟨h.at_.ext hx, h.own, h.x.then_ hx⟩
theorem ExtX.onto7 {A A' : Nat → Prop} {w w' w'' : World} (h : ExtX A w w') (k : ExtX A' w' w'') (hA : ∀ b, A' b → A b ∨ w.heap.size ≤ b) : ExtX A w w'' :=
  ⟨k.os.trans h.os, k.tape.trans h.tape, k.output.trans h.output, Nat.le_trans h.size k.size, fun i hi ha => (k.block i (Nat.lt_of_lt_of_le hi h.size) (fun e => by rcases hA i e with g | g; exact ha g; omega)).trans (h.block i hi ha)⟩
theorem WrTo.trans {w : World} {g : Nat} {v v1 v2 : Value} {ws ws2 : List ByteArray} {w1 w2 : World} (h : WrTo w g v ws v1 w1) (h' : WrTo w1 g v1 ws2 v2 w2) : WrTo w g v ws2 v2 w2 where
  at_ := h'.at_
  own := by
    rcases h'.own with e | e
    · rcases h.own with e1 | e1
      · exact .inl (e.trans e1)
      · exact .inr (fun k hk => e1 k (e ▸ hk))
    · exact .inr (fun k hk => Nat.le_trans h.x.size (e k hk))
  x := h.x.onto7 h'.x (fun b hb => by
    rcases hb with hb | hb
    · exact .inl (.inl hb)
    · rcases h.own with e | e
      · exact .inl (.inr (e ▸ hb))
      · exact .inr (e b hb))
theorem WrTo.more {w : World} {g : Nat} {v v1 : Value} {ws ws2 : List ByteArray} {w1 w2 : World} {e : Ending} (h : WrTo w g v ws v1 w1) (h' : RetWr w1 g v1 ws2 e w2) : e = .returned (.tuple #[]) ∧ ∃ v2, WrTo w g v ws2 v2 w2 ∧ ExtX (WrX g v1) w1 w2 := by
  obtain ⟨e1, v2, h2⟩ := h'.to
  exact ⟨e1, v2, h.trans h2, h2.x⟩
theorem WrAt.keeps {w : World} {g : Nat} {v : Value} {ws : List ByteArray} (h : WrAt w g v ws) {b : Nat} (hb : w.heap.size ≤ b) : ¬ WrX g v b := fun e => by have := h.x e; omega
theorem tm_x {g : Nat} {v : Value} {w w' : World} {ws : List ByteArray} (hw : WrAt w g v ws) (h : ExtX (WrX g v) w w') {t : Tm} {tv : Value} (ht : IsTmA (fun b => g ≤ b) w t tv) : IsTmA (fun b => g ≤ b) w' t tv :=
  ht.move (fun _ _ e => e) fun p u hp hu => h.cell (fun e => hp (by
    rcases e with e | e
    · exact Nat.le_of_eq e.symm
    · exact Nat.le_of_lt (hw.own e).1)) hu
def ShowT (N : Nat) : Prop := ∀ (x : Hd) (ks : List Tm) (g : Nat) (v : Value) (ws : List ByteArray) (w : World) (a : Option Addr) (n c : Nat), (Tm.mk x ks).size ≤ N → (∀ u, u ∈ (Tm.mk x ks).all → u.node = true) → WrAt w g v ws →
  IsTmA (fun b => g ≤ b) w (.mk x ks) (.agg #[.int .u8 x.k, .int .u8 x.op, .int .i64 x.pos, .int .i64 x.n, .string x.name, .string x.arg, .string x.exn, .slice a n c]) → ws.length + (Tm.mk x ks).wk.length ≤ 1000000 →
  Calls Tryz.prog 48 #[.pointer (some ⟨g, 0, none⟩), .agg #[.int .u8 x.k, .int .u8 x.op, .int .i64 x.pos, .int .i64 x.n, .string x.name, .string x.arg, .string x.exn, .slice a n c]] w (RetWr w g v (ws ++ (Tm.mk x ks).wx))
theorem one_text (w : World) (s : ByteArray) (j : Nat) (u : Value) (hu : (vstr [s])[j]? = some u) : (w.alloc (.cells #[.string s] 9)).cell? ((⟨w.heap.size, 0, none⟩ : Addr).add j) = some u := by
  rw [Addr.add_lit, Nat.zero_add]
  exact (World.cell?_alloc_new w _ _ _).trans (by simpa [vstr] using hu)
theorem row_text (w : World) (l : List ByteArray) (j : Nat) (u : Value) (hu : (vstr l)[j]? = some u) : (w.alloc (.cells (vstr l).toArray 9)).cell? ((⟨w.heap.size, 0, none⟩ : Addr).add j) = some u := by
  rw [Addr.add_lit, Nat.zero_add]
  exact (World.cell?_alloc_new w _ _ _).trans (by simpa using hu)
set_option maxRecDepth 60000 in
set_option maxHeartbeats 4000000 in
theorem show_kid (N : Nat) (hT : ShowT N) (x : Hd) (ks : List Tm) (pt : Nat) (g : Nat) (v : Value) (ws : List ByteArray) (w : World) (a : Option Addr) (n c : Nat) (hs : (Tm.mk x ks).size ≤ N) (hn : ∀ u, u ∈ (Tm.mk x ks).all → u.node = true) (hW : WrAt w g v ws)
    (ht : IsTmA (fun b => g ≤ b) w (.mk x ks) (.agg #[.int .u8 x.k, .int .u8 x.op, .int .i64 x.pos, .int .i64 x.n, .string x.name, .string x.arg, .string x.exn, .slice a n c])) (hb : ws.length + ((Tm.mk x ks).kw pt).length ≤ 1000000) :
    Calls Tryz.prog 78 #[.pointer (some ⟨g, 0, none⟩), .agg #[.int .u8 x.k, .int .u8 x.op, .int .i64 x.pos, .int .i64 x.n, .string x.name, .string x.arg, .string x.exn, .slice a n c], .int .i64 (pt : Nat)] w (RetWr w g v (ws ++ (Tm.mk x ks).kx pt)) := by
  have KP := hid fun W => show_part x a n c W
  have HW := hid hW
  have HT := hid ht
  by_cases hp : x.part < pt
  · have e1 : (Tm.mk x ks).kw pt = (5, s_open) :: ((Tm.mk x ks).wk ++ [(5, s_shut)]) := if_pos hp
    have e2 : (Tm.mk x ks).kx pt = s_open :: ((Tm.mk x ks).wx ++ [s_shut]) := by unfold Tm.kx Tm.wx; rw [e1]; simp
    have hb2 : ws.length + 1 + (Tm.mk x ks).wk.length + 1 ≤ 1000000 := by rw [e1] at hb; simp at hb; omega
    have hwl : (Tm.mk x ks).wx.length = (Tm.mk x ks).wk.length := by simp [Tm.wx]
    have KT := hid fun v1 w1 (h1 : WrAt w1 g v1 (ws ++ [s_open])) (h2 : IsTmA (fun b => g ≤ b) w1 (.mk x ks) _) => hT x ks g v1 (ws ++ [s_open]) w1 a n c hs hn h1 h2 (by simp; omega)
    rw [e2]
    generalize (Tm.mk x ks).wx = tw at *
    have hz : (x.part : Int) < (pt : Int) := by omega
    clear hs hn hW ht hb hT e1 e2 hp
    generalize x.part = p at *
    go_enter Tryz.func78, Tryz.ntmps78
    go_upto_region 2 with (go_at_call 105; refine (KP.out _).mono ?_; rintro e w1 ⟨rfl, x1⟩; obtain ⟨d0, d1, d2, d3, d4, d5, d6, d7⟩ := (blk_top x1).eight)
    have B1 := hid (blk_top x1)
    have H1 := hid (WrTo.start (HW.out) |>.ext (show Ext w w1 by (exact eX)))
    have T1 := hid (HT.out.ext (show Ext w w1 by (exact eX)))
    have nb := HW.out.keeps (Nat.le_refl _)
    have NB := hid nb
    have M1 := hid (WrTo.start H1.out.at_)
    clear x1 nb
    go_upto_region 3 with (go_at_call 53; refine (show_put g v ws [s_open] _ ⟨w1.heap.size, 0, none⟩ 1 (M1.out.ext ((Ext.refl w1).alloc _)).at_ (one_text w1 s_open) (by simp; omega)).mono ?_; intro e w2 hh; obtain ⟨rfl, v2, M2, -⟩ := (M1.out.ext ((Ext.refl w1).alloc _)).more hh; obtain ⟨d0, d1, d2, d3, d4, d5, d6, d7⟩ := (Blk.extx B1.out M2.x NB.out).eight)
    have HM2 := hid M2
    clear hh M2 d0 d1 d2 d3 d4 d5 d6 d7
    obtain ⟨d0, d1, d2, d3, d4, d5, d6, d7⟩ := (Blk.extx B1.out HM2.out.x NB.out).eight
    go_upto_region 4 with (go_at_call 48; refine (KT.out v2 w2 HM2.out.at_ (tm_x H1.out.at_ HM2.out.x T1.out)).mono ?_; intro e w3 hh; obtain ⟨rfl, v3, M3, -⟩ := HM2.out.more hh)
    have HM3 := hid M3
    clear hh M3 d0 d1 d2 d3 d4 d5 d6 d7
    go_wp2_with (go_at_call 53; refine (show_put g v3 (ws ++ [s_open] ++ tw) [s_shut] _ ⟨w3.heap.size, 0, none⟩ 1 (HM3.out.ext ((Ext.refl w3).alloc _)).at_ (one_text w3 s_shut) (by simp; omega)).mono ?_; intro e w4 hh; obtain ⟨rfl, v4, M4, -⟩ := (HM3.out.ext ((Ext.refl w3).alloc _)).more hh)
    have HM4 := hid (H1.out.trans M4)
    clear hh M4
    have e9 : ws ++ s_open :: (tw ++ [s_shut]) = ws ++ [s_open] ++ tw ++ [s_shut] := by simp
    rw [e9]
    exact bodyPost_ret (v := .tuple #[]) (results_none rfl _ _ _) rfl HM4.out.ret
  · have e1 : (Tm.mk x ks).kw pt = (Tm.mk x ks).wk := if_neg hp
    have e2 : (Tm.mk x ks).kx pt = (Tm.mk x ks).wx := by unfold Tm.kx Tm.wx; rw [e1]
    rw [e1] at hb
    rw [e2]
    have KT := hid fun w1 (h1 : WrAt w1 g v ws) (h2 : IsTmA (fun b => g ≤ b) w1 (.mk x ks) _) => hT x ks g v ws w1 a n c hs hn h1 h2 hb
    generalize (Tm.mk x ks).wx = tw at *
    have hz : ¬ (x.part : Int) < (pt : Int) := by omega
    clear hs hn hW ht hb hT e1 e2 hp
    generalize x.part = p at *
    go_enter Tryz.func78, Tryz.ntmps78
    go_upto_region 5 with (go_at_call 105; refine (KP.out _).mono ?_; rintro e w1 ⟨rfl, x1⟩; obtain ⟨d0, d1, d2, d3, d4, d5, d6, d7⟩ := (blk_top x1).eight)
    have H1 := hid (WrTo.start (HW.out) |>.ext (show Ext w w1 by (exact eX)))
    have T1 := hid (HT.out.ext (show Ext w w1 by (exact eX)))
    obtain ⟨d0, d1, d2, d3, d4, d5, d6, d7⟩ := (blk_top x1).eight
    clear x1
    go_wp2_with (go_at_call 48; refine (KT.out w1 H1.out.at_ T1.out).mono ?_; intro e w3 hh; obtain ⟨rfl, v3, M3, -⟩ := H1.out.more hh)
    have HM3 := hid M3
    clear hh M3
    exact bodyPost_end (v := .tuple #[]) (results_none rfl _ _ _) rfl HM3.out.ret
set_option maxRecDepth 60000 in
set_option maxHeartbeats 4000000 in
theorem show_between (N : Nat) (hT : ShowT N) (x y : Hd) (kx ky : List Tm) (p q : Nat) (ls : List ByteArray) (g : Nat) (v : Value) (ws : List ByteArray) (w : World) (a1 a2 : Option Addr) (n1 c1 n2 c2 : Nat) (la : Option Addr) (lc : Nat) (hx : (Tm.mk x kx).size ≤ N) (hy : (Tm.mk y ky).size ≤ N) (hnx : ∀ u, u ∈ (Tm.mk x kx).all → u.node = true) (hny : ∀ u, u ∈ (Tm.mk y ky).all → u.node = true) (hW : WrAt w g v ws)
    (htx : IsTmA (fun b => g ≤ b) w (.mk x kx) (.agg #[.int .u8 x.k, .int .u8 x.op, .int .i64 x.pos, .int .i64 x.n, .string x.name, .string x.arg, .string x.exn, .slice a1 n1 c1])) (hty : IsTmA (fun b => g ≤ b) w (.mk y ky) (.agg #[.int .u8 y.k, .int .u8 y.op, .int .i64 y.pos, .int .i64 y.n, .string y.name, .string y.arg, .string y.exn, .slice a2 n2 c2]))
    (hl : (ls = [] ∧ la = none ∧ lc = 0) ∨ ∃ lb, la = some ⟨lb, 0, none⟩ ∧ lb < w.heap.size ∧ ¬ WrX g v lb ∧ ∀ (j : Nat) u, (vstr ls)[j]? = some u → w.cell? ((⟨lb, 0, none⟩ : Addr).add j) = some u) (hb : ws.length + ((Tm.mk x kx).kw p).length + ls.length + ((Tm.mk y ky).kw q).length ≤ 1000000) :
    Calls Tryz.prog 77 #[.pointer (some ⟨g, 0, none⟩), .agg #[.int .u8 x.k, .int .u8 x.op, .int .i64 x.pos, .int .i64 x.n, .string x.name, .string x.arg, .string x.exn, .slice a1 n1 c1], .agg #[.int .u8 y.k, .int .u8 y.op, .int .i64 y.pos, .int .i64 y.n, .string y.name, .string y.arg, .string y.exn, .slice a2 n2 c2], .int .i64 (p : Nat), .int .i64 (q : Nat), .slice la ls.length lc] w (RetWr w g v (ws ++ (Tm.mk x kx).kx p ++ ls ++ (Tm.mk y ky).kx q)) := by
  have hkx : ((Tm.mk x kx).kx p).length = ((Tm.mk x kx).kw p).length := by simp [Tm.kx]
  have K1 := hid fun v1 w1 (h1 : WrAt w1 g v1 ws) (h2 : IsTmA (fun b => g ≤ b) w1 (.mk x kx) _) => show_kid N hT x kx p g v1 ws w1 a1 n1 c1 hx hnx h1 h2 (by omega)
  have K2 := hid fun v1 w1 (h1 : WrAt w1 g v1 (ws ++ (Tm.mk x kx).kx p ++ ls)) (h2 : IsTmA (fun b => g ≤ b) w1 (.mk y ky) _) => show_kid N hT y ky q g v1 (ws ++ (Tm.mk x kx).kx p ++ ls) w1 a2 n2 c2 hy hny h1 h2 (by simp; omega)
  have hlx : ws.length + ((Tm.mk x kx).kx p).length + ls.length ≤ 1000000 := by omega
  generalize (Tm.mk x kx).kx p = tx at *
  generalize (Tm.mk y ky).kx q = ty at *
  have HW := hid hW
  have HTX := hid htx
  have HTY := hid hty
  have KPUT : Hid (∀ v1 w1, WrAt w1 g v1 (ws ++ tx) → ExtX (WrX g v) w w1 → Calls Tryz.prog 53 #[.pointer (some ⟨g, 0, none⟩), .slice la ls.length lc] w1 (RetWr w1 g v1 (ws ++ tx ++ ls))) := hid fun v1 w1 h1 h2 => by
    rcases hl with ⟨rfl, rfl, rfl⟩ | ⟨lb, rfl, hlb, hnb, hc⟩
    · have := show_put0 g v1 (ws ++ tx) w1 h1 (by simp at hlx ⊢; omega)
      simpa using this
    · exact show_put g v1 (ws ++ tx) ls w1 _ lc h1 (fun j u hu => by
        have h := hc j u hu
        rw [Addr.add_lit] at h ⊢
        exact h2.cell hnb h) (by simp at hlx ⊢; omega)
  clear hx hy hnx hny hW htx hty hl hb hT hkx hlx
  go_enter Tryz.func77, Tryz.ntmps77
  have B1 := hid ((Blk.new w 28 #[.int .u8 x.k, .int .u8 x.op, .int .i64 x.pos, .int .i64 x.n, .string x.name, .string x.arg, .string x.exn, .slice a1 n1 c1]).alloc (.cells #[.int .u8 y.k, .int .u8 y.op, .int .i64 y.pos, .int .i64 y.n, .string y.name, .string y.arg, .string y.exn, .slice a2 n2 c2] 28))
  have b2 := Blk.new (w.alloc (.cells #[.int .u8 x.k, .int .u8 x.op, .int .i64 x.pos, .int .i64 x.n, .string x.name, .string x.arg, .string x.exn, .slice a1 n1 c1] 28)) 28 #[.int .u8 y.k, .int .u8 y.op, .int .i64 y.pos, .int .i64 y.n, .string y.name, .string y.arg, .string y.exn, .slice a2 n2 c2]
  rw [World.size_alloc] at b2
  have B2 := hid b2
  clear b2
  go_upto_region 1 with fail
  have Y1 : Ext w ((w.alloc (.cells #[.int .u8 x.k, .int .u8 x.op, .int .i64 x.pos, .int .i64 x.n, .string x.name, .string x.arg, .string x.exn, .slice a1 n1 c1] 28)).alloc (.cells #[.int .u8 y.k, .int .u8 y.op, .int .i64 y.pos, .int .i64 y.n, .string y.name, .string y.arg, .string y.exn, .slice a2 n2 c2] 28)) := by (exact eX)
  have H1 := hid (WrTo.start HW.out |>.ext Y1)
  have M1 := hid (WrTo.start H1.out.at_)
  have TX := hid (HTX.out.ext Y1)
  have TY := hid (HTY.out.ext Y1)
  have XW := hid (ExtX.of (A := WrX g v) Y1)
  have N1 := hid (HW.out.keeps (Nat.le_refl _))
  have N2 := hid (HW.out.keeps (Nat.le_succ _))
  clear Y1
  generalize (w.alloc (.cells #[.int .u8 x.k, .int .u8 x.op, .int .i64 x.pos, .int .i64 x.n, .string x.name, .string x.arg, .string x.exn, .slice a1 n1 c1] 28)).alloc (.cells #[.int .u8 y.k, .int .u8 y.op, .int .i64 y.pos, .int .i64 y.n, .string y.name, .string y.arg, .string y.exn, .slice a2 n2 c2] 28) = W1 at *
  obtain ⟨d0, d1, d2, d3, d4, d5, d6, d7⟩ := B1.out.eight
  go_upto_region 2 with (go_at_call 78; refine (K1.out v W1 H1.out.at_ TX.out).mono ?_; intro e w2 hh; obtain ⟨rfl, v2, M2, -⟩ := M1.out.more hh)
  have HM2 := hid M2
  clear hh M2 d0 d1 d2 d3 d4 d5 d6 d7
  go_upto_region 3 with (go_at_call 53; refine (KPUT.out v2 w2 HM2.out.at_ (XW.out.trans HM2.out.x)).mono ?_; intro e w3 hh; obtain ⟨rfl, v3, M3, -⟩ := HM2.out.more hh)
  have HM3 := hid M3
  clear hh M3
  obtain ⟨d0, d1, d2, d3, d4, d5, d6, d7⟩ := (Blk.extx B2.out HM3.out.x N2.out).eight
  go_wp2_with (go_at_call 78; refine (K2.out v3 w3 HM3.out.at_ (tm_x H1.out.at_ HM3.out.x TY.out)).mono ?_; intro e w4 hh; obtain ⟨rfl, v4, M4, -⟩ := HM3.out.more hh)
  have HM4 := hid (H1.out.trans M4)
  clear hh M4
  exact bodyPost_end (v := .tuple #[]) (results_none rfl _ _ _) rfl HM4.out.ret
end Go.Proofs.YtaioeailgknfjaaGreatDoor

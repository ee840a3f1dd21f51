/- Going through nodes with the names that are bound there: names.free, raises, and the walk of names.walk, whatever is done at a node. -/
import Derived.Test.YtmomahgedheekaaDoorScope1
import Derived.Test.YtmomahgedheekaaDoorTerm3
import Derived.Test.YtmomahgedheekaaDoorPureS
namespace Go.Proofs.YtmomahgedheekaaDoor
open Go Go.RowKit Go.Sort

set_option maxHeartbeats 1000000 in
theorem names_free {A : Nat → Prop} (bd : List ByteArray) (x : Hd) (w : World) (a : Option Addr) (n cap : Nat) (ak : Option Addr) (lenk capk : Nat) (h : Nm A w bd a n cap) :
    Calls Tryd.prog 58 #[.slice a n cap, .agg #[.int .u8 x.k, .int .u8 x.op, .int .i64 x.pos, .int .i64 x.n, .string x.name, .string x.arg, .string x.exn, .slice ak lenk capk]] w fun e w' => e = .returned (.bool (isFree bd x)) ∧ Ext w w' := by
  have K := Lib.hid fun W (hx : Ext w W) => names_contains x.name bd W a n cap h.le h.max (h.row.ext hx)
  clear h
  by_cases h2 : x.k = 2
  · obtain ⟨k, op, pos, num, name, arg, exn⟩ := x
    simp only at h2 K
    subst h2
    have HF : Hid (isFree bd ⟨2, op, pos, num, name, arg, exn⟩ = !inB bd name) := rfl
    go_enter Tryd.func58, Tryd.ntmps58
    go_wp2_with (go_at_call 91; refine (K.out _ ((Ext.refl _).alloc _)).mono ?_; rintro e w1 ⟨rfl, x1⟩)
    go_ret
    exact ⟨ret_bool (by rw [HF.out]), ((Ext.refl _).alloc _).trans x1⟩
  · have d2 : (x.k == 2) = false := beq_false_of_ne h2
    have HF : Hid (isFree bd x = false) := Lib.hid (show isFree bd x = false from by unfold isFree; rw [d2]; rfl)
    clear h2
    go_enter Tryd.func58, Tryd.ntmps58
    go_wp2_with fail
    go_ret
    exact ⟨ret_bool HF.out.symm, by (repeat (first | exact Ext.refl _ | assumption | refine Ext.alloc ?_ _ | refine Ext.drew ?_ | refine Ext.setCell ?_ (by first | (simp; done) | (simp; omega) | omega) _ | refine Ext.trans ?_ (by assumption)))⟩

set_option maxHeartbeats 1000000 in
theorem scope_raises (bd : List ByteArray) (x : Hd) (w : World) (ak : Option Addr) (lenk capk : Nat) :
    Calls Tryd.prog 59 #[.agg #[.int .u8 x.k, .int .u8 x.op, .int .i64 x.pos, .int .i64 x.n, .string x.name, .string x.arg, .string x.exn, .slice ak lenk capk]] w fun e w' => e = .returned (.bool (names_ bd x)) ∧ Ext w w' := by
  have HF : Hid (names_ bd x = (x.k == 15 || x.k == 16)) := rfl
  cases h15 : (x.k == 15)
  all_goals
    rw [h15] at HF
    go_enter Tryd.func59, Tryd.ntmps59
    go_wp2_with fail
    go_ret
    exact ⟨ret_bool (by rw [HF.out]; simp), by (repeat (first | exact Ext.refl _ | assumption | refine Ext.alloc ?_ _ | refine Ext.drew ?_ | refine Ext.setCell ?_ (by first | (simp; done) | (simp; omega) | omega) _ | refine Ext.trans ?_ (by assumption)))⟩

theorem Nm.oext {own : World → Nat → Prop} {w w' : World} (hx : OExt own w w') {bd : List ByteArray} {a : Option Addr} {n cap : Nat} (h : Nm (own w) w bd a n cap) : Nm (own w') w' bd a n cap :=
  ⟨h.le, h.max, h.nil, ⟨h.row.1, fun i v hi => by
    obtain ⟨b, o, e, q⟩ := h.row.2 i v hi
    subst e
    exact ⟨b, o, rfl, hx.cell (h.off _ rfl).1 q⟩⟩, fun p hp => ⟨(hx.block _ (h.off p hp).2.1 (h.off p hp).1).2, Nat.lt_of_lt_of_le (h.off p hp).2.1 hx.size, (h.off p hp).2.2⟩⟩
/-- What a function does at a node: its calls' contract. -/
def StepsN {σ : Type} (G : Gauge σ) (f : σ → List ByteArray → Tm → σ × Bool) (room : σ → Nat → Prop) (K : Nat) (c1 c2 c3 : Value) : Prop :=
  ∀ (s : σ) (w : World) (bd : List ByteArray) (p : Option Addr) (n cp : Nat) (x : Hd) (l : List Tm) (a : Option Addr) (len cap : Nat), G.R s w → room s 1 → x.Fits → len ≤ cap → cap ≤ 9223372036854775807 → Nm (G.own w) w bd p n cp → IsTmsA (G.own w) w l a len →
    Calls Tryd.prog K #[.slice p n cp, .agg #[.int .u8 x.k, .int .u8 x.op, .int .i64 x.pos, .int .i64 x.n, .string x.name, .string x.arg, .string x.exn, .slice a len cap], c1, c2, c3] w fun e w' => e = .returned (.bool (f s bd (.mk x l)).2) ∧ G.R (f s bd (.mk x l)).1 w' ∧ OExt G.own w w'
theorem oext_extx {σ : Type} (G : Gauge σ) {s : σ} {w W w' : World} (hR : G.R s w) (hx : Ext w W) (h : OExt G.own W w') : ExtX (G.own w) w w' :=
  ⟨h.os.trans (Below.os hx), h.tape.trans (Below.tape hx), h.output.trans (Below.output hx), Nat.le_trans hx.size h.size, fun k hk ho => ((h.block k (Nat.lt_of_lt_of_le hk hx.size) (fun h' => ho ((G.keep s w W hR hx).2 k h'))).1).trans (Below.block hx k hk)⟩
set_option maxRecDepth 8000 in
set_option maxHeartbeats 4000000 in
theorem names_walk {σ : Type} (G : Gauge σ) (f : σ → List ByteArray → Tm → σ × Bool) (room : σ → Nat → Prop) (hroom : ∀ s bd t n, room s (n + 1) → room (f s bd t).1 n) (hless : ∀ s n m, m ≤ n → room s n → room s m) (K : Nat) (c1 c2 c3 : Value) (eK : ∀ args w, (callFunc K args).run Tryd.prog w = .ok (.enter K args) w)
    (hK : StepsN G f room K c1 c2 c3) (m : Nat) :
    ∀ (t : Tm) (bd : List ByteArray) (s : σ) (w : World) (p : Option Addr) (n cp : Nat) (v : Value), t.size ≤ m → bd.length + 2 * t.size ≤ 1000000 → G.R s w → room s t.size → Nm (G.own w) w bd p n cp → IsTmA (G.own w) w t v →
    Calls Tryd.prog 56 #[.slice p n cp, v, .func (.func K) #[] #[c1, c2, c3]] w fun e w' => e = .returned (.bool (t.nwalk f bd s).2) ∧ G.R (t.nwalk f bd s).1 w' ∧ OExt G.own w w' := by
  have HK := Lib.hid hK
  have HRO := Lib.hid hroom
  have HLE := Lib.hid hless
  clear hK hroom hless
  induction m with
  | zero => intro t bd s w p n cp v h; have := t.size_pos; omega
  | succ m ih =>
    intro t bd s w p n cp v hm hbd hR hr hn ht
    obtain ⟨x, l⟩ := t
    obtain ⟨a, len, cap, rfl, h1, h2, hf, hl⟩ := ht.open_
    simp only [Tm.size] at hm hbd hr
    have HL := Lib.hid hl.length
    have IH := Lib.hid ih
    obtain ⟨W0, hW0⟩ : ∃ W0, W0 = w.alloc (.cells #[.int .u8 x.k, .int .u8 x.op, .int .i64 x.pos, .int .i64 x.n, .string x.name, .string x.arg, .string x.exn, .slice a len cap] 41) := ⟨_, rfl⟩
    have x0 : Ext w W0 := by rw [hW0]; exact (Ext.refl _).alloc _
    have hs0 : w.heap.size < W0.heap.size := by rw [hW0]; simp
    have q0 : W0.cell? ⟨w.heap.size, 0, none⟩ = some (.int .u8 x.k) := by rw [hW0]; simp [go_sem]
    have q1 : W0.cell? ⟨w.heap.size, 1, none⟩ = some (.int .u8 x.op) := by rw [hW0]; simp [go_sem]
    have q2 : W0.cell? ⟨w.heap.size, 2, none⟩ = some (.int .i64 x.pos) := by rw [hW0]; simp [go_sem]
    have q3 : W0.cell? ⟨w.heap.size, 3, none⟩ = some (.int .i64 x.n) := by rw [hW0]; simp [go_sem]
    have q4 : W0.cell? ⟨w.heap.size, 4, none⟩ = some (.string x.name) := by rw [hW0]; simp [go_sem]
    have q5 : W0.cell? ⟨w.heap.size, 5, none⟩ = some (.string x.arg) := by rw [hW0]; simp [go_sem]
    have q6 : W0.cell? ⟨w.heap.size, 6, none⟩ = some (.string x.exn) := by rw [hW0]; simp [go_sem]
    have q7 : W0.cell? ⟨w.heap.size, 7, none⟩ = some (.slice a len cap) := by rw [hW0]; simp [go_sem]
    have hR0 := (G.keep s w W0 hR x0).1
    have hno : ¬ G.own W0 w.heap.size := fun h => by
      have := G.lt _ _ _ hR ((G.keep _ _ _ hR x0).2 _ h)
      omega
    have hn0 : Nm (G.own W0) W0 bd p n cp := hn.oext (G.oext hR x0)
    have hl0 : IsTmsA (G.own W0) W0 l a len := G.tms hR x0 hl
    have C1 := Lib.hid (HK.out s W0 bd p n cp x l a len cap hR0 (HLE.out _ _ _ (by omega) hr) hf h1 h2 hn0 hl0)
    have X0 := Lib.hid (G.oext hR x0)
    have HW0 := Lib.hid hW0
    have hwalk : (Tm.mk x l).nwalk f bd s = if (f s bd (.mk x l)).2 then Tm.nwalks f x 0 l bd (f s bd (.mk x l)).1 else ((f s bd (.mk x l)).1, false) := by rw [Tm.nwalk]
    have HWK := Lib.hid hwalk
    have hrl : room (f s bd (.mk x l)).1 (Tm.sizes l) := HRO.out _ _ _ _ (by rw [Nat.add_comm]; exact hr)
    obtain ⟨s1, b1, hsb⟩ : ∃ s1 b1, f s bd (.mk x l) = (s1, b1) := ⟨_, _, rfl⟩
    rw [hsb] at C1 HWK hrl
    simp only at C1 HWK hrl
    have HRL := Lib.hid hrl
    have HN0 := Lib.hid hn0
    have HTL := Lib.hid hl0
    clear hsb hwalk hrl hW0 hR hr hn ht hf hl hR0 hn0 hl0 ih
    cases b1
    · simp only [Bool.false_eq_true, if_false] at HWK
      go_enter Tryd.func56, Tryd.ntmps56
      go_wp2_with fail
      rw [← HW0.out]
      refine (C1.out).mono ?_
      rintro e w1 ⟨rfl, r1, x1⟩
      go_wp2_with fail
      go_ret
      exact ⟨ret_bool (by rw [HWK.out]), by rw [HWK.out]; exact r1, X0.out.trans x1⟩
    simp only [if_true] at HWK
    go_enter Tryd.func56, Tryd.ntmps56
    go_wp2_with fail
    rw [← HW0.out]
    refine (C1.out).mono ?_
    rintro e w1 ⟨rfl, r1, x1⟩
    have HR1 := Lib.hid r1
    have X1 := Lib.hid x1
    have hs1 := x1.size
    have q71 := x1.cell (p := ⟨w.heap.size, 7, none⟩) hno q7
    clear r1
    go_wp2_with fail
    go_loopg [17] len (fun g i wr => ∃ (j : Nat) (s' : σ), g = len - j ∧ j ≤ len ∧ i = .int .i64 j ∧ Tm.nwalks f x 0 (l.take j) bd s1 = (s', true) ∧ G.R s' wr ∧ room s' (Tm.sizes l - Tm.sizes (l.take j)) ∧ OExt G.own W0 wr)
    case atStart => exact ⟨0, s1, by omega, by omega, rfl, by simp [Tm.nwalks], HR1.out, by simpa [Tm.sizes] using HRL.out, X1.out⟩
    case round =>
      obtain ⟨j, s', rfl, hj, rfl, hwk, hR', hrm, hx⟩ := hrel
      have HW := Lib.hid hwk
      have HR' := Lib.hid hR'
      have HRM' := Lib.hid hrm
      clear hwk hR' hrm
      by_cases hlt : j < len
      · obtain ⟨y, k, b, o, ak, lenk, capk, g, rfl, hbo, hd, hs, hf, p1, p2, pl⟩ := (HTL.out.oext hx).at8 (Ext.refl wr) hlt
        obtain ⟨c0, c1_, c2_, c3_, c4, c5, c6⟩ := hd
        have hsz := Tm.size_at l j _ g
        have hle := Tm.sizes_take_le l (j + 1)
        have hss := Tm.sizes_take_succ l j _ g
        have HWS := Lib.hid (Tm.nwalks_succ f x bd l 0 j _ s1 s' g HW.out)
        have HST := Lib.hid (fun s'' h => Tm.nwalks_stop f x bd l 0 (j + 1) s1 s'' h)
        rw [Nat.zero_add] at HWS
        have hsp := (Tm.mk y k).size_pos
        have hroom1 : room s' ((Tm.mk y k).size + (Tm.sizes l - Tm.sizes (l.take (j + 1)))) := HLE.out _ _ _ (by omega) HRM'.out
        have hroom2 : room s' (Tm.mk y k).size := HLE.out _ _ _ (by omega) hroom1
        have HR3 := Lib.hid ((Tm.mk y k).nwalk_room f room HRO.out HLE.out (bound x j bd) s' _ hroom1)
        have hmk : (Tm.mk y k).size ≤ m := by omega
        have hbl := bound_length x j bd
        have hbdk : (bound x j bd).length + 2 * (Tm.mk y k).size ≤ 1000000 := by omega
        obtain ⟨W1, hW1⟩ : ∃ W1, W1 = wr.alloc (.cells #[.int .u8 y.k, .int .u8 y.op, .int .i64 y.pos, .int .i64 y.n, .string y.name, .string y.arg, .string y.exn, .slice ak lenk capk] 41) := ⟨_, rfl⟩
        have xW : Ext wr W1 := by rw [hW1]; exact (Ext.refl _).alloc _
        have hR1 := (G.keep _ _ _ HR'.out xW).1
        have xo1 : OExt G.own W0 W1 := hx.trans (G.oext HR'.out xW)
        have hnob : ¬ G.own W1 w.heap.size := (xo1.block _ hs0 hno).2
        have hnok : ¬ G.own W1 wr.heap.size := fun h => by
          have := G.lt _ _ _ HR'.out ((G.keep _ _ _ HR'.out xW).2 _ h)
          omega
        have z0 := fun W (h : ExtX (G.own W1) W1 W) => h.cell hnob (xo1.cell (p := ⟨w.heap.size, 0, none⟩) hno q0)
        have z1 := fun W (h : ExtX (G.own W1) W1 W) => h.cell hnob (xo1.cell (p := ⟨w.heap.size, 1, none⟩) hno q1)
        have z2 := fun W (h : ExtX (G.own W1) W1 W) => h.cell hnob (xo1.cell (p := ⟨w.heap.size, 2, none⟩) hno q2)
        have z3 := fun W (h : ExtX (G.own W1) W1 W) => h.cell hnob (xo1.cell (p := ⟨w.heap.size, 3, none⟩) hno q3)
        have z4 := fun W (h : ExtX (G.own W1) W1 W) => h.cell hnob (xo1.cell (p := ⟨w.heap.size, 4, none⟩) hno q4)
        have z5 := fun W (h : ExtX (G.own W1) W1 W) => h.cell hnob (xo1.cell (p := ⟨w.heap.size, 5, none⟩) hno q5)
        have z6 := fun W (h : ExtX (G.own W1) W1 W) => h.cell hnob (xo1.cell (p := ⟨w.heap.size, 6, none⟩) hno q6)
        have z7 := fun W (h : ExtX (G.own W1) W1 W) => h.cell hnob (xo1.cell (p := ⟨w.heap.size, 7, none⟩) hno q7)
        have k0 := fun W (h : ExtX (G.own W1) W1 W) => h.cell hnok (show W1.cell? ⟨wr.heap.size, 0, none⟩ = some (.int .u8 y.k) from by rw [hW1]; simp [go_sem])
        have k1 := fun W (h : ExtX (G.own W1) W1 W) => h.cell hnok (show W1.cell? ⟨wr.heap.size, 1, none⟩ = some (.int .u8 y.op) from by rw [hW1]; simp [go_sem])
        have k2 := fun W (h : ExtX (G.own W1) W1 W) => h.cell hnok (show W1.cell? ⟨wr.heap.size, 2, none⟩ = some (.int .i64 y.pos) from by rw [hW1]; simp [go_sem])
        have k3 := fun W (h : ExtX (G.own W1) W1 W) => h.cell hnok (show W1.cell? ⟨wr.heap.size, 3, none⟩ = some (.int .i64 y.n) from by rw [hW1]; simp [go_sem])
        have k4 := fun W (h : ExtX (G.own W1) W1 W) => h.cell hnok (show W1.cell? ⟨wr.heap.size, 4, none⟩ = some (.string y.name) from by rw [hW1]; simp [go_sem])
        have k5 := fun W (h : ExtX (G.own W1) W1 W) => h.cell hnok (show W1.cell? ⟨wr.heap.size, 5, none⟩ = some (.string y.arg) from by rw [hW1]; simp [go_sem])
        have k6 := fun W (h : ExtX (G.own W1) W1 W) => h.cell hnok (show W1.cell? ⟨wr.heap.size, 6, none⟩ = some (.string y.exn) from by rw [hW1]; simp [go_sem])
        have k7 := fun W (h : ExtX (G.own W1) W1 W) => h.cell hnok (show W1.cell? ⟨wr.heap.size, 7, none⟩ = some (.slice ak lenk capk) from by rw [hW1]; simp [go_sem])
        have hs1' : wr.heap.size < W1.heap.size := by rw [hW1]; simp
        have hn1 : Nm (G.own W1) W1 bd p n cp := HN0.out.oext xo1
        have hk1 : IsTmA (G.own W1) W1 (.mk y k) (tval y ak lenk capk) := IsTmA.mk_ (G.tms HR'.out xW pl) p1 p2 hf
        have CI := Lib.hid fun W (h : Ext W1 W) => names_inner bd j x W p n cp (some ⟨b, o, none⟩) len cap (hn1.ext h) (fun k hk => Nat.lt_of_lt_of_le (G.lt _ _ _ hR1 hk) h.size) (by omega)
        have CW := Lib.hid fun W a2 n2 cap2 (h : Ext W1 W) (h2 : Nm (G.own W1) W (bound x j bd) a2 n2 cap2) => IH.out (.mk y k) (bound x j bd) s' W a2 n2 cap2 (tval y ak lenk capk) hmk hbdk (G.keep _ _ _ hR1 h).1 hroom2 (h2.off_ (G.keep _ _ _ hR1 h).2) (hk1.move (fun b _ h' => (G.keep _ _ _ hR1 h).2 b h') fun _ _ _ hc => h.cell hc)
        have XE := Lib.hid fun W W' (h : Ext W1 W) (h' : OExt G.own W W') => oext_extx G hR1 h h'
        have XF := Lib.hid fun W W' (h : Ext W1 W) (h' : OExt G.own W W') => xo1.trans ((G.oext hR1 h).trans h')
        have HW1 := Lib.hid hW1
        unfold tval at CW
        have hb1 := hs0
        clear hss hle hW1 hroom1 hroom2 hR1 hn1 hk1 pl g hbl hbdk
        generalize bound x j bd = bd1 at *
        obtain ⟨s2, b2, hsb⟩ : ∃ s2 b2, (Tm.mk y k).nwalk f bd1 s' = (s2, b2) := ⟨_, _, rfl⟩
        rw [hsb] at CW HWS HR3
        simp only at CW HR3
        clear hsb
        cases b2
        all_goals
          go_wp2_with fail
          rw [← HW1.out]
          refine wp_region_held_drew (S := fun w' => ExtX (G.own W1) W1 w') (by kernel_rfl) (by (try dsimp only); (repeat (first | exact ExtX.refl _ | assumption | refine ExtX.alloc ?_ _ | refine ExtX.drew ?_ | refine ExtX.setCell ?_ (by first | (left; rfl) | (left; left; rfl) | (right; simp; done) | (right; simp; omega) | (right; omega)) _ | refine ExtX.then_ ?_ (by assumption)))) (fun hHeld => ?_)
          refine held_take 0 (v := ?_) rfl (by kernel_rfl) (by kernel_rfl) (by kernel_rfl) (fun _ _ _ h => h) (by assumption) (by rfl) ?_ ?_; rotate_left; (focus (intro w hSw; (try dsimp only at hSw); go_simp; (try with_reducible rfl))); try simp only [Act.put, List.setIfInBounds_toArray, List.set_cons_zero, List.set_cons_succ]
          refine held_take 1 (v := ?_) rfl (by kernel_rfl) (by kernel_rfl) (by kernel_rfl) (fun _ _ _ h => h) (by assumption) (by rfl) ?_ ?_; rotate_left; (focus (intro w hSw; (try dsimp only at hSw); go_simp; (try with_reducible rfl))); try simp only [Act.put, List.setIfInBounds_toArray, List.set_cons_zero, List.set_cons_succ]
          refine held_take 2 (v := ?_) rfl (by kernel_rfl) (by kernel_rfl) (by kernel_rfl) (fun _ _ _ h => h) (by assumption) (by rfl) ?_ ?_; rotate_left; (focus (intro w hSw; (try dsimp only at hSw); go_simp; (try with_reducible rfl))); try simp only [Act.put, List.setIfInBounds_toArray, List.set_cons_zero, List.set_cons_succ]
          refine held_take 4 (v := ?_) rfl (by kernel_rfl) (by kernel_rfl) (by kernel_rfl) (fun _ _ _ h => h) (by assumption) (by rfl) ?_ ?_; rotate_left; (focus (intro w hSw; (try dsimp only at hSw); go_simp; (try with_reducible rfl))); try simp only [Act.put, List.setIfInBounds_toArray, List.set_cons_zero, List.set_cons_succ]
          refine held_take 5 (v := ?_) rfl (by kernel_rfl) (by kernel_rfl) (by kernel_rfl) (fun _ _ _ h => h) (by assumption) (by rfl) ?_ ?_; rotate_left; (focus (intro w hSw; (try dsimp only at hSw); go_simp; (try with_reducible rfl))); try simp only [Act.put, List.setIfInBounds_toArray, List.set_cons_zero, List.set_cons_succ]
          refine held_do 3 rfl (by kernel_rfl) (by rfl) (fun K hK => ?_); go_simp; (first | (go_at_call 90; refine (CI.out _ (by (repeat (first | exact Ext.refl _ | assumption | refine Ext.alloc ?_ _ | refine Ext.drew ?_ | refine Ext.setCell ?_ (by first | (simp; done) | (simp; omega) | omega) _ | refine Ext.trans ?_ (by assumption))))).mono ?_; rintro e w2 ⟨a2, n2, cap2, rfl, hn2, x2⟩; have y2 : Ext W1 w2 := Ext.trans (by (repeat (first | exact Ext.refl _ | assumption | refine Ext.alloc ?_ _ | refine Ext.drew ?_ | refine Ext.setCell ?_ (by first | (simp; done) | (simp; omega) | omega) _ | refine Ext.trans ?_ (by assumption)))) x2; have HN2 := Lib.hid hn2; clear hn2) | (go_at_call 56; refine (CW.out _ _ _ _ y2 HN2.out).mono ?_; rintro e w3 ⟨rfl, r3, x3⟩; have HR9 := Lib.hid r3; have X9 := Lib.hid (XF.out _ _ y2 x3); have y3 := XE.out _ _ y2 x3; clear r3)); (try (focus (go_wp2_with fail))); refine hK.out _ _ (by (try dsimp only); (repeat (first | exact ExtX.refl _ | assumption | refine ExtX.alloc ?_ _ | refine ExtX.drew ?_ | refine ExtX.setCell ?_ (by first | (left; rfl) | (left; left; rfl) | (right; simp; done) | (right; simp; omega) | (right; omega)) _ | refine ExtX.then_ ?_ (by assumption)))) (fun hHeld => ?_); clear hK K; try simp only [Act.put, List.setIfInBounds_toArray, List.set_cons_zero, List.set_cons_succ]
          refine held_do 6 rfl (by kernel_rfl) (by rfl) (fun K hK => ?_); go_simp; (first | (go_at_call 90; refine (CI.out _ (by (repeat (first | exact Ext.refl _ | assumption | refine Ext.alloc ?_ _ | refine Ext.drew ?_ | refine Ext.setCell ?_ (by first | (simp; done) | (simp; omega) | omega) _ | refine Ext.trans ?_ (by assumption))))).mono ?_; rintro e w2 ⟨a2, n2, cap2, rfl, hn2, x2⟩; have y2 : Ext W1 w2 := Ext.trans (by (repeat (first | exact Ext.refl _ | assumption | refine Ext.alloc ?_ _ | refine Ext.drew ?_ | refine Ext.setCell ?_ (by first | (simp; done) | (simp; omega) | omega) _ | refine Ext.trans ?_ (by assumption)))) x2; have HN2 := Lib.hid hn2; clear hn2) | (go_at_call 56; refine (CW.out _ _ _ _ y2 HN2.out).mono ?_; rintro e w3 ⟨rfl, r3, x3⟩; have HR9 := Lib.hid r3; have X9 := Lib.hid (XF.out _ _ y2 x3); have y3 := XE.out _ _ y2 x3; clear r3)); (try (focus (go_wp2_with fail))); refine hK.out _ _ (by (try dsimp only); (repeat (first | exact ExtX.refl _ | assumption | refine ExtX.alloc ?_ _ | refine ExtX.drew ?_ | refine ExtX.setCell ?_ (by first | (left; rfl) | (left; left; rfl) | (right; simp; done) | (right; simp; omega) | (right; omega)) _ | refine ExtX.then_ ?_ (by assumption)))) (fun hHeld => ?_); clear hK K; try simp only [Act.put, List.setIfInBounds_toArray, List.set_cons_zero, List.set_cons_succ]
          refine held_take 7 (v := ?_) rfl (by kernel_rfl) (by kernel_rfl) (by kernel_rfl) (fun _ _ _ h => h) (by assumption) (by rfl) ?_ ?_; rotate_left; (focus (intro w hSw; (try dsimp only at hSw); go_simp; (try with_reducible rfl))); try simp only [Act.put, List.setIfInBounds_toArray, List.set_cons_zero, List.set_cons_succ]
          refine wpAnyH_done (by kernel_rfl) ?_ _
          go_wp2_with fail
          first
            | (go_ret; have h9 := HST.out _ HWS.out; exact ⟨ret_bool (by rw [HWK.out, h9]), by rw [HWK.out, h9]; exact HR9.out, X0.out.trans X9.out⟩)
            | skip
        go_roundg (len - (j + 1))
        case rel => exact ⟨j + 1, s2, rfl, by omega, by go_num, HWS.out, HR9.out, HR3.out, X9.out⟩
        case measure => omega
      · obtain rfl : j = len := by omega
        go_wp2_with fail
        go_ret
        have h9 := HW.out
        rw [List.take_of_length_le (by rw [← HL.out]; omega)] at h9
        exact ⟨ret_bool (by rw [HWK.out, h9]), by rw [HWK.out, h9]; exact HR'.out, X0.out.trans hx⟩
end Go.Proofs.YtmomahgedheekaaDoor

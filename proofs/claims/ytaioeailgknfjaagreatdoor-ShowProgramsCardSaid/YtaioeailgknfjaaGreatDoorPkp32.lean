/- Part 32 of the proof: Each; no condition of ours. -/
import Derived.Test.YtaioeailgknfjaaGreatDoorPkp1
import Derived.Test.YtaioeailgknfjaaGreatDoorPkp5
set_option linter.unusedVariables false
set_option linter.unusedSimpArgs false
namespace Go.Proofs.YtaioeailgknfjaaGreatDoor
open Go.Lib (hid)
open Go Go.RowKit Go.Sort
mutual
def Tm.walk {σ : Type} (f : σ → Tm → σ × Bool) : Tm → σ → σ × Bool
  | .mk h l, s => if (f s (.mk h l)).2 then Tm.walks f l (f s (.mk h l)).1 else ((f s (.mk h l)).1, false)
def Tm.walks {σ : Type} (f : σ → Tm → σ × Bool) : List Tm → σ → σ × Bool
  | [], s => (s, true)
  | t :: l, s => if (t.walk f s).2 then Tm.walks f l (t.walk f s).1 else ((t.walk f s).1, false)
end
theorem Tm.walks_succ {σ : Type} (f : σ → Tm → σ × Bool) (l : List Tm) (i : Nat) (t : Tm) (s s' : σ) (g : l[i]? = some t) (h : Tm.walks f (l.take i) s = (s', true)) : Tm.walks f (l.take (i + 1)) s = t.walk f s' := by
  induction l generalizing i s with
  | nil => simp at g
  | cons x l ih =>
    cases i with
    | zero =>
      simp at g
      subst g
      simp [Tm.walks] at h ⊢
      subst h
      cases hx : (Tm.walk f x s).2 <;> simp [Prod.ext_iff, hx]
    | succ i =>
      simp only [List.take_succ_cons, Tm.walks] at h ⊢
      by_cases hx : (x.walk f s).2 = true
      · rw [if_pos hx] at h ⊢
        exact ih i _ (by simpa using g) h
      · rw [if_neg hx] at h
        simp at h
theorem Tm.walks_stop {σ : Type} (f : σ → Tm → σ × Bool) (l : List Tm) (i : Nat) (s s' : σ) (h : Tm.walks f (l.take i) s = (s', false)) : Tm.walks f l s = (s', false) := by
  induction l generalizing i s with
  | nil => simpa using h
  | cons x l ih =>
    cases i with
    | zero => simp [Tm.walks] at h
    | succ i =>
      simp only [List.take_succ_cons, Tm.walks] at h ⊢
      by_cases hx : (x.walk f s).2 = true
      · rw [if_pos hx] at h ⊢
        exact ih i _ h
      · rw [if_neg hx] at h ⊢
        exact h
structure Gauge (σ : Type) where
  R : σ → World → Prop
  own : World → Nat → Prop
  keep : ∀ s w w', R s w → Ext w w' → R s w' ∧ ∀ k, own w' k → own w k
  lt : ∀ s w k, R s w → own w k → k < w.heap.size
structure OExt (own : World → Nat → Prop) (w w' : World) : Prop where
  os : w'.os = w.os
  tape : w'.tape = w.tape
  output : w'.output = w.output
  size : w.heap.size ≤ w'.heap.size
  block : ∀ k, k < w.heap.size → ¬ own w k → w'.heap[k]? = w.heap[k]? ∧ ¬ own w' k
theorem OExt.refl (own : World → Nat → Prop) (w : World) : OExt own w w := ⟨rfl, rfl, rfl, Nat.le_refl _, fun _ _ h => ⟨rfl, h⟩⟩
theorem OExt.trans {own : World → Nat → Prop} {a b c : World} (h : OExt own a b) (k : OExt own b c) : OExt own a c :=
  ⟨k.os.trans h.os, k.tape.trans h.tape, k.output.trans h.output, Nat.le_trans h.size k.size, fun i hi ho =>
    let p := h.block i hi ho
    let q := k.block i (Nat.lt_of_lt_of_le hi h.size) p.2
    ⟨q.1.trans p.1, q.2⟩⟩
theorem Gauge.oext {σ : Type} (G : Gauge σ) {s : σ} {w w' : World} (h : G.R s w) (hx : Ext w w') : OExt G.own w w' :=
  ⟨Below.os hx, Below.tape hx, Below.output hx, hx.size, fun k hk ho => ⟨Below.block hx k hk, fun h' => ho ((G.keep s w w' h hx).2 k h')⟩⟩
theorem OExt.cell {own : World → Nat → Prop} {w w' : World} (h : OExt own w w') {p : Addr} {v : Value} (ho : ¬ own w p.block) (hc : w.cell? p = some v) : w'.cell? p = some v :=
  (World.cell?_of_block (w := w) (h.block p.block (block_lt_of_cell hc) ho).1).trans hc
theorem IsTmsA.oext {own : World → Nat → Prop} {w w' : World} (h : OExt own w w') {l : List Tm} {a : Option Addr} {len : Nat} (g : IsTmsA (own w) w l a len) : IsTmsA (own w') w' l a len :=
  g.move (fun b hb h' => Classical.byContradiction fun hn => (h.block b hb hn).2 h') fun _ _ ho hc => h.cell ho hc
theorem Gauge.tms {σ : Type} (G : Gauge σ) {s : σ} {w w' : World} (h : G.R s w) (hx : Ext w w') {l : List Tm} {a : Option Addr} {len : Nat} (g : IsTmsA (G.own w) w l a len) : IsTmsA (G.own w') w' l a len := g.oext (G.oext h hx)
theorem Tm.walk_room {σ : Type} (f : σ → Tm → σ × Bool) (room : σ → Nat → Prop) (hroom : ∀ s t n, room s (n + 1) → room (f s t).1 n) (hless : ∀ s n m, m ≤ n → room s n → room s m) (t : Tm) : ∀ (s : σ) (n : Nat), room s (t.size + n) → room (t.walk f s).1 n := by
  induction t using Tm.ind with
  | h x l ih =>
    intro s n h
    simp only [Tm.walk, Tm.size] at h ⊢
    have h1 : room (f s (.mk x l)).1 (Tm.sizes l + n) := hroom _ _ _ (by rw [show Tm.sizes l + n + 1 = 1 + Tm.sizes l + n from by omega]; exact h)
    split
    · have key : ∀ (l' : List Tm), (∀ t, t ∈ l' → ∀ (s : σ) (n : Nat), room s (t.size + n) → room (t.walk f s).1 n) → ∀ s n, room s (Tm.sizes l' + n) → room (Tm.walks f l' s).1 n := by
        intro l'
        induction l' with
        | nil => intro _ s n h; simpa [Tm.walks, Tm.sizes] using h
        | cons t l' ihl =>
          intro ht s n h
          simp only [Tm.walks, Tm.sizes] at h ⊢
          have h2 := ht t (by simp) s (Tm.sizes l' + n) (by rw [← Nat.add_assoc]; exact h)
          split
          · exact ihl (fun t h => ht t (by simp [h])) _ _ h2
          · exact hless _ _ _ (by omega) h2
      exact key l ih _ _ h1
    · exact hless _ _ _ (by omega) h1
theorem Tm.walks_room {σ : Type} (f : σ → Tm → σ × Bool) (room : σ → Nat → Prop) (hroom : ∀ s t n, room s (n + 1) → room (f s t).1 n) (hless : ∀ s n m, m ≤ n → room s n → room s m) (l : List Tm) : ∀ (s : σ) (n : Nat), room s (Tm.sizes l + n) → room (Tm.walks f l s).1 n := by
  induction l with
  | nil => intro s n h; simpa [Tm.walks, Tm.sizes] using h
  | cons t l ih =>
    intro s n h
    simp only [Tm.walks, Tm.sizes] at h ⊢
    have h2 := t.walk_room f room hroom hless s (Tm.sizes l + n) (by rw [← Nat.add_assoc]; exact h)
    split
    · exact ih _ _ h2
    · exact hless _ _ _ (by omega) h2
def Steps0 {σ : Type} (G : Gauge σ) (f : σ → Tm → σ × Bool) (room : σ → Nat → Prop) (K : Nat) : Prop :=
  ∀ (s : σ) (w : World) (x : Hd) (l : List Tm) (a : Option Addr) (len cap : Nat), G.R s w → room s 1 → x.Fits → len ≤ cap → cap ≤ 9223372036854775807 → IsTmsA (G.own w) w l a len →
    Calls Tryz.prog K #[.agg #[.int .u8 x.k, .int .u8 x.op, .int .i64 x.pos, .int .i64 x.n, .string x.name, .string x.arg, .string x.exn, .slice a len cap]] w fun e w' => e = .returned (.bool (f s (.mk x l)).2) ∧ G.R (f s (.mk x l)).1 w' ∧ OExt G.own w w'
set_option maxRecDepth 8000 in
set_option maxHeartbeats 4000000 in
theorem term_each0 {σ : Type} (G : Gauge σ) (f : σ → Tm → σ × Bool) (room : σ → Nat → Prop) (hroom : ∀ s t n, room s (n + 1) → room (f s t).1 n) (hless : ∀ s n m, m ≤ n → room s n → room s m) (K : Nat) (eK : ∀ args w, (callFunc K args).run Tryz.prog w = .ok (.enter K args) w)
    (hK : Steps0 G f room K) (m : Nat) :
    ∀ (l : List Tm) (s : σ) (w : World) (a : Option Addr) (len cap : Nat), Tm.sizes l ≤ m → G.R s w → room s (Tm.sizes l) → len ≤ cap → cap ≤ 9223372036854775807 → IsTmsA (G.own w) w l a len →
    Calls Tryz.prog 74 #[.func (.func K) #[] #[], .slice a len cap] w fun e w' => e = .returned (.bool (Tm.walks f l s).2) ∧ G.R (Tm.walks f l s).1 w' ∧ OExt G.own w w' := by
  have HK := hid hK
  have HRO := hid hroom
  have HLE := hid hless
  clear hK hroom hless
  induction m with
  | zero =>
    intro l s w a len cap hm hR hr h1 h2 hl
    have h0 := Tm.sizes_length l
    have hl0 := hl.length
    obtain rfl : len = 0 := by omega
    obtain rfl : l = [] := by cases l with
      | nil => rfl
      | cons x l => simp at h0; omega
    have HR := hid hR
    clear hl0 h0 hm hR
    go_enter Tryz.func74, Tryz.ntmps74
    go_wp2_with fail
    go_loopg [9] 0 (fun g i wr => i = .int .i64 0 ∧ wr = w)
    case atStart => exact ⟨rfl, rfl⟩
    case round =>
      obtain ⟨rfl, rfl⟩ := hrel
      go_wp2_with fail
      go_ret
      exact ⟨ret_bool (by simp [Tm.walks]), by simpa [Tm.walks] using HR.out, OExt.refl _ _⟩
  | succ m ih =>
    intro l s w a len cap hm hR hr h1 h2 hl
    have HL := hid hl.length
    have IH := hid ih
    have HR := hid hR
    have HRM := hid hr
    have HTL := hid hl
    clear ih hR hr hl
    go_enter Tryz.func74, Tryz.ntmps74
    go_wp2_with fail
    go_loopg [9] len (fun g i wr => ∃ (j : Nat) (s' : σ), g = len - j ∧ j ≤ len ∧ i = .int .i64 j ∧ Tm.walks f (l.take j) s = (s', true) ∧ G.R s' wr ∧ room s' (Tm.sizes l - Tm.sizes (l.take j)) ∧ OExt G.own w wr)
    case atStart => exact ⟨0, s, by omega, by omega, rfl, by simp [Tm.walks], HR.out, by simpa [Tm.sizes] using HRM.out, OExt.refl _ _⟩
    case round =>
      obtain ⟨j, s', rfl, hj, rfl, hwk, hR', hrm, hx⟩ := hrel
      have HW := hid hwk
      have HR' := hid hR'
      have HRM' := hid hrm
      clear hwk hR' hrm
      by_cases hlt : j < len
      · obtain ⟨x, k, b, o, ak, lenk, capk, g, rfl, hbo, hd, hs, hf, p1, p2, pl⟩ := (HTL.out.oext hx).at8 (Ext.refl wr) hlt
        obtain ⟨c0, c1, c2, c3, c4, c5, c6⟩ := hd
        have hsz := Tm.size_at l j _ g
        have hle := Tm.sizes_take_le l (j + 1)
        have hss := Tm.sizes_take_succ l j _ g
        have HSS := hid hss
        have HWS := hid (Tm.walks_succ f l j _ s s' g HW.out)
        have HST := hid (fun s'' h => Tm.walks_stop f l (j + 1) s s'' h)
        simp only [Tm.size] at hsz hss
        have hroom1 : room s' 1 := HLE.out _ _ _ (by omega) HRM'.out
        have hroom2 : room (f s' (.mk x k)).1 (Tm.sizes l - Tm.sizes (l.take j) - 1) := HRO.out _ _ _ (HLE.out _ _ _ (by omega) HRM'.out)
        have HRA := hid (HLE.out _ _ (Tm.sizes k) (by omega) hroom2)
        have hroom3 : room (f s' (.mk x k)).1 (Tm.sizes k + (Tm.sizes l - Tm.sizes (l.take (j + 1)))) := HLE.out _ _ _ (by omega) hroom2
        have hmk : Tm.sizes k ≤ m := by omega
        obtain ⟨W1, hW1⟩ : ∃ W1, W1 = wr.alloc (.cells #[.int .u8 x.k, .int .u8 x.op, .int .i64 x.pos, .int .i64 x.n, .string x.name, .string x.arg, .string x.exn, .slice ak lenk capk] 28) := ⟨_, rfl⟩
        have xW : Ext wr W1 := by rw [hW1]; exact (Ext.refl _).alloc _
        have q7 : W1.cell? ⟨wr.heap.size, 7, none⟩ = some (.slice ak lenk capk) := by rw [hW1]; simp [go_sem]
        have hno : ¬ G.own W1 wr.heap.size := fun h => by
          have := G.lt _ _ _ HR'.out ((G.keep _ _ _ HR'.out xW).2 _ h)
          omega
        have C1 := hid (HK.out s' W1 x k ak lenk capk (G.keep _ _ _ HR'.out xW).1 hroom1 hf p1 p2 (G.tms HR'.out xW pl))
        have X1 := hid (hx.trans (G.oext HR'.out xW))
        have PL := hid (G.tms HR'.out xW pl)
        have HW1 := hid hW1
        have hwalk : (Tm.mk x k).walk f s' = if (f s' (.mk x k)).2 then Tm.walks f k (f s' (.mk x k)).1 else ((f s' (.mk x k)).1, false) := by rw [Tm.walk]
        rw [hwalk] at HWS
        have hroomK : ∀ s'' n b, Tm.walks f k (f s' (.mk x k)).1 = (s'', b) → room (f s' (.mk x k)).1 (Tm.sizes k + n) → room s'' n := fun s'' n b h1 h2 => by
          have := Tm.walks_room f room HRO.out HLE.out k (f s' (.mk x k)).1 n h2
          rw [h1] at this
          exact this
        have HRK := hid hroomK
        have HR3 := hid hroom3
        clear hss hle hwalk hW1 hroom1 hroom2 hroom3 hroomK pl g
        obtain ⟨s1, b1, hsb⟩ : ∃ s1 b1, f s' (.mk x k) = (s1, b1) := ⟨_, _, rfl⟩
        rw [hsb] at C1 HWS HRA HRK HR3
        clear hsb
        simp only at C1 HWS HRA HRK HR3
        cases b1
        · simp only [Bool.false_eq_true, if_false] at HWS
          go_wp2_with fail
          rw [← HW1.out]
          refine (C1.out).mono ?_
          rintro e w1 ⟨rfl, r1, x1⟩
          go_wp2_with fail
          go_ret
          have h9 := HST.out _ HWS.out
          exact ⟨ret_bool (by rw [h9]), by rw [h9]; exact r1, X1.out.trans x1⟩
        · simp only [if_true] at HWS
          obtain ⟨s2, b2, hsb⟩ : ∃ s2 b2, Tm.walks f k s1 = (s2, b2) := ⟨_, _, rfl⟩
          have C2 := hid fun w2 (r2 : G.R s1 w2) (x2 : OExt G.own W1 w2) => IH.out k s1 w2 ak lenk capk hmk r2 HRA.out p1 p2 (PL.out.oext x2)
          rw [hsb] at C2 HWS
          have HSB := hid hsb
          clear hsb
          cases b2
          · go_wp2_with fail
            rw [← HW1.out]
            refine (C1.out).mono ?_
            rintro e w1 ⟨rfl, r1, x1⟩
            have q71 := x1.cell (p := ⟨wr.heap.size, 7, none⟩) hno q7
            go_wp2_with (go_at_call 74; refine (C2.out _ r1 x1).mono ?_; rintro e w2 ⟨rfl, r2, x2⟩)
            go_ret
            have h9 := HST.out _ HWS.out
            exact ⟨ret_bool (by rw [h9]), by rw [h9]; exact r2, (X1.out.trans x1).trans x2⟩
          · go_wp2_with fail
            rw [← HW1.out]
            refine (C1.out).mono ?_
            rintro e w1 ⟨rfl, r1, x1⟩
            have q71 := x1.cell (p := ⟨wr.heap.size, 7, none⟩) hno q7
            go_wp2_with (go_at_call 74; refine (C2.out _ r1 x1).mono ?_; rintro e w2 ⟨rfl, r2, x2⟩)
            go_roundg (len - (j + 1))
            case rel => exact ⟨j + 1, s2, rfl, by omega, by go_num, HWS.out, r2, HRK.out _ _ _ HSB.out HR3.out, (X1.out.trans x1).trans x2⟩
            case measure => omega
      · obtain rfl : j = len := by omega
        go_wp2_with fail
        go_ret
        have h9 := HW.out
        rw [List.take_of_length_le (by rw [← HL.out]; omega)] at h9
        exact ⟨ret_bool (by rw [h9]), by rw [h9]; exact HR'.out, hx⟩
def Steps1 {σ : Type} (G : Gauge σ) (f : σ → Tm → σ × Bool) (room : σ → Nat → Prop) (K : Nat) (c : Value) : Prop :=
  ∀ (s : σ) (w : World) (x : Hd) (l : List Tm) (a : Option Addr) (len cap : Nat), G.R s w → room s 1 → x.Fits → len ≤ cap → cap ≤ 9223372036854775807 → IsTmsA (G.own w) w l a len →
    Calls Tryz.prog K #[.agg #[.int .u8 x.k, .int .u8 x.op, .int .i64 x.pos, .int .i64 x.n, .string x.name, .string x.arg, .string x.exn, .slice a len cap], c] w fun e w' => e = .returned (.bool (f s (.mk x l)).2) ∧ G.R (f s (.mk x l)).1 w' ∧ OExt G.own w w'
set_option maxRecDepth 8000 in
set_option maxHeartbeats 4000000 in
theorem term_each1 {σ : Type} (G : Gauge σ) (f : σ → Tm → σ × Bool) (room : σ → Nat → Prop) (hroom : ∀ s t n, room s (n + 1) → room (f s t).1 n) (hless : ∀ s n m, m ≤ n → room s n → room s m) (K : Nat) (c : Value) (eK : ∀ args w, (callFunc K args).run Tryz.prog w = .ok (.enter K args) w)
    (hK : Steps1 G f room K c) (m : Nat) :
    ∀ (l : List Tm) (s : σ) (w : World) (a : Option Addr) (len cap : Nat), Tm.sizes l ≤ m → G.R s w → room s (Tm.sizes l) → len ≤ cap → cap ≤ 9223372036854775807 → IsTmsA (G.own w) w l a len →
    Calls Tryz.prog 74 #[.func (.func K) #[] #[c], .slice a len cap] w fun e w' => e = .returned (.bool (Tm.walks f l s).2) ∧ G.R (Tm.walks f l s).1 w' ∧ OExt G.own w w' := by
  have HK := hid hK
  have HRO := hid hroom
  have HLE := hid hless
  clear hK hroom hless
  induction m with
  | zero =>
    intro l s w a len cap hm hR hr h1 h2 hl
    have h0 := Tm.sizes_length l
    have hl0 := hl.length
    obtain rfl : len = 0 := by omega
    obtain rfl : l = [] := by cases l with
      | nil => rfl
      | cons x l => simp at h0; omega
    have HR := hid hR
    clear hl0 h0 hm hR
    go_enter Tryz.func74, Tryz.ntmps74
    go_wp2_with fail
    go_loopg [9] 0 (fun g i wr => i = .int .i64 0 ∧ wr = w)
    case atStart => exact ⟨rfl, rfl⟩
    case round =>
      obtain ⟨rfl, rfl⟩ := hrel
      go_wp2_with fail
      go_ret
      exact ⟨ret_bool (by simp [Tm.walks]), by simpa [Tm.walks] using HR.out, OExt.refl _ _⟩
  | succ m ih =>
    intro l s w a len cap hm hR hr h1 h2 hl
    have HL := hid hl.length
    have IH := hid ih
    have HR := hid hR
    have HRM := hid hr
    have HTL := hid hl
    clear ih hR hr hl
    go_enter Tryz.func74, Tryz.ntmps74
    go_wp2_with fail
    go_loopg [9] len (fun g i wr => ∃ (j : Nat) (s' : σ), g = len - j ∧ j ≤ len ∧ i = .int .i64 j ∧ Tm.walks f (l.take j) s = (s', true) ∧ G.R s' wr ∧ room s' (Tm.sizes l - Tm.sizes (l.take j)) ∧ OExt G.own w wr)
    case atStart => exact ⟨0, s, by omega, by omega, rfl, by simp [Tm.walks], HR.out, by simpa [Tm.sizes] using HRM.out, OExt.refl _ _⟩
    case round =>
      obtain ⟨j, s', rfl, hj, rfl, hwk, hR', hrm, hx⟩ := hrel
      have HW := hid hwk
      have HR' := hid hR'
      have HRM' := hid hrm
      clear hwk hR' hrm
      by_cases hlt : j < len
      · obtain ⟨x, k, b, o, ak, lenk, capk, g, rfl, hbo, hd, hs, hf, p1, p2, pl⟩ := (HTL.out.oext hx).at8 (Ext.refl wr) hlt
        obtain ⟨c0, c1, c2, c3, c4, c5, c6⟩ := hd
        have hsz := Tm.size_at l j _ g
        have hle := Tm.sizes_take_le l (j + 1)
        have hss := Tm.sizes_take_succ l j _ g
        have HSS := hid hss
        have HWS := hid (Tm.walks_succ f l j _ s s' g HW.out)
        have HST := hid (fun s'' h => Tm.walks_stop f l (j + 1) s s'' h)
        simp only [Tm.size] at hsz hss
        have hroom1 : room s' 1 := HLE.out _ _ _ (by omega) HRM'.out
        have hroom2 : room (f s' (.mk x k)).1 (Tm.sizes l - Tm.sizes (l.take j) - 1) := HRO.out _ _ _ (HLE.out _ _ _ (by omega) HRM'.out)
        have HRA := hid (HLE.out _ _ (Tm.sizes k) (by omega) hroom2)
        have hroom3 : room (f s' (.mk x k)).1 (Tm.sizes k + (Tm.sizes l - Tm.sizes (l.take (j + 1)))) := HLE.out _ _ _ (by omega) hroom2
        have hmk : Tm.sizes k ≤ m := by omega
        obtain ⟨W1, hW1⟩ : ∃ W1, W1 = wr.alloc (.cells #[.int .u8 x.k, .int .u8 x.op, .int .i64 x.pos, .int .i64 x.n, .string x.name, .string x.arg, .string x.exn, .slice ak lenk capk] 28) := ⟨_, rfl⟩
        have xW : Ext wr W1 := by rw [hW1]; exact (Ext.refl _).alloc _
        have q7 : W1.cell? ⟨wr.heap.size, 7, none⟩ = some (.slice ak lenk capk) := by rw [hW1]; simp [go_sem]
        have hno : ¬ G.own W1 wr.heap.size := fun h => by
          have := G.lt _ _ _ HR'.out ((G.keep _ _ _ HR'.out xW).2 _ h)
          omega
        have C1 := hid (HK.out s' W1 x k ak lenk capk (G.keep _ _ _ HR'.out xW).1 hroom1 hf p1 p2 (G.tms HR'.out xW pl))
        have X1 := hid (hx.trans (G.oext HR'.out xW))
        have PL := hid (G.tms HR'.out xW pl)
        have HW1 := hid hW1
        have hwalk : (Tm.mk x k).walk f s' = if (f s' (.mk x k)).2 then Tm.walks f k (f s' (.mk x k)).1 else ((f s' (.mk x k)).1, false) := by rw [Tm.walk]
        rw [hwalk] at HWS
        have hroomK : ∀ s'' n b, Tm.walks f k (f s' (.mk x k)).1 = (s'', b) → room (f s' (.mk x k)).1 (Tm.sizes k + n) → room s'' n := fun s'' n b h1 h2 => by
          have := Tm.walks_room f room HRO.out HLE.out k (f s' (.mk x k)).1 n h2
          rw [h1] at this
          exact this
        have HRK := hid hroomK
        have HR3 := hid hroom3
        clear hss hle hwalk hW1 hroom1 hroom2 hroom3 hroomK pl g
        obtain ⟨s1, b1, hsb⟩ : ∃ s1 b1, f s' (.mk x k) = (s1, b1) := ⟨_, _, rfl⟩
        rw [hsb] at C1 HWS HRA HRK HR3
        clear hsb
        simp only at C1 HWS HRA HRK HR3
        cases b1
        · simp only [Bool.false_eq_true, if_false] at HWS
          go_wp2_with fail
          rw [← HW1.out]
          refine (C1.out).mono ?_
          rintro e w1 ⟨rfl, r1, x1⟩
          go_wp2_with fail
          go_ret
          have h9 := HST.out _ HWS.out
          exact ⟨ret_bool (by rw [h9]), by rw [h9]; exact r1, X1.out.trans x1⟩
        · simp only [if_true] at HWS
          obtain ⟨s2, b2, hsb⟩ : ∃ s2 b2, Tm.walks f k s1 = (s2, b2) := ⟨_, _, rfl⟩
          have C2 := hid fun w2 (r2 : G.R s1 w2) (x2 : OExt G.own W1 w2) => IH.out k s1 w2 ak lenk capk hmk r2 HRA.out p1 p2 (PL.out.oext x2)
          rw [hsb] at C2 HWS
          have HSB := hid hsb
          clear hsb
          cases b2
          · go_wp2_with fail
            rw [← HW1.out]
            refine (C1.out).mono ?_
            rintro e w1 ⟨rfl, r1, x1⟩
            have q71 := x1.cell (p := ⟨wr.heap.size, 7, none⟩) hno q7
            go_wp2_with (go_at_call 74; refine (C2.out _ r1 x1).mono ?_; rintro e w2 ⟨rfl, r2, x2⟩)
            go_ret
            have h9 := HST.out _ HWS.out
            exact ⟨ret_bool (by rw [h9]), by rw [h9]; exact r2, (X1.out.trans x1).trans x2⟩
          · go_wp2_with fail
            rw [← HW1.out]
            refine (C1.out).mono ?_
            rintro e w1 ⟨rfl, r1, x1⟩
            have q71 := x1.cell (p := ⟨wr.heap.size, 7, none⟩) hno q7
            go_wp2_with (go_at_call 74; refine (C2.out _ r1 x1).mono ?_; rintro e w2 ⟨rfl, r2, x2⟩)
            go_roundg (len - (j + 1))
            case rel => exact ⟨j + 1, s2, rfl, by omega, by go_num, HWS.out, r2, HRK.out _ _ _ HSB.out HR3.out, (X1.out.trans x1).trans x2⟩
            case measure => omega
      · obtain rfl : j = len := by omega
        go_wp2_with fail
        go_ret
        have h9 := HW.out
        rw [List.take_of_length_le (by rw [← HL.out]; omega)] at h9
        exact ⟨ret_bool (by rw [h9]), by rw [h9]; exact HR'.out, hx⟩
end Go.Proofs.YtaioeailgknfjaaGreatDoor

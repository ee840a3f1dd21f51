/- Whether a program is closed: the walks of scope.declared, Closed. Whether a program is closed: the walks of scope.Closed and its closure. Whether a program is closed: the walk of scope.Closed. Whether a program is closed, by the reference: the walk of enclaveref07.Closed. -/
import Derived.Test.YtmomahgedheekaaDoorScope7
import Derived.Test.YtmomahgedheekaaDoorMemK
import Derived.Test.YtmomahgedheekaaDoorScope8
namespace Go.Proofs.YtmomahgedheekaaDoor
open Go Go.RowKit Go.Sort

/-- A program. -/
structure Pg where
  exns : List Tk
  body : Tm
/-- Exceptions that are declared, and their places. -/
def Pg.ps (p : Pg) : List (ByteArray × Int) := p.exns.map fun t => (t.text, t.pos)
/-- A program's value. -/
def pgval (a : Option Addr) (n c : Nat) (x : Hd) (ak : Option Addr) (lenk capk : Nat) : Value := .agg #[.slice a n c, .int .u8 x.k, .int .u8 x.op, .int .i64 x.pos, .int .i64 x.n, .string x.name, .string x.arg, .string x.exn, .slice ak lenk capk]
/-- A program in memory. -/
def IsPg (w : World) (p : Pg) (v : Value) : Prop := ∃ a n c x l ak lenk capk, p.body = .mk x l ∧ v = pgval a n c x ak lenk capk ∧ n ≤ c ∧ c ≤ 9223372036854775807 ∧ IsToks w p.exns a n ∧ x.Fits ∧ lenk ≤ capk ∧ capk ≤ 9223372036854775807 ∧ IsTms w l ak lenk
theorem IsPg.ext {w w' : World} (hx : Ext w w') {p : Pg} {v : Value} (h : IsPg w p v) : IsPg w' p v := by
  obtain ⟨a, n, c, x, l, ak, lenk, capk, h1, h2, h3, h4, h5, h6, h7, h8, h9⟩ := h
  exact ⟨a, n, c, x, l, ak, lenk, capk, h1, h2, h3, h4, h5.ext hx, h6, h7, h8, h9.ext hx⟩
theorem ps_at {p : Pg} {j : Nat} {t : Tk} (g : p.exns[j]? = some t) : p.ps[j]? = some (t.text, t.pos) := by
  unfold Pg.ps
  rw [List.getElem?_map, g]
  rfl
theorem ps_length (p : Pg) : p.ps.length = p.exns.length := by unfold Pg.ps; simp
theorem drop_at {α : Type} (l : List α) (j : Nat) (x : α) (g : l[j]? = some x) : l.drop j = x :: l.drop (j + 1) := by
  have h : j < l.length := by
    rcases Nat.lt_or_ge j l.length with h | h
    · exact h
    · rw [List.getElem?_eq_none h] at g; cases g
  rw [List.drop_eq_getElem_cons h]
  rw [List.getElem?_eq_getElem h] at g
  cases g
  rfl
theorem texts_succ (ps : List (ByteArray × Int)) (j : Nat) (x : ByteArray) (q : Int) (g : ps[j]? = some (x, q)) : (ps.take (j + 1)).map Prod.fst = (ps.take j).map Prod.fst ++ [x] := by
  rw [List.take_add_one, g]
  simp
theorem twice_round (ps : List (ByteArray × Int)) (j : Nat) (x : ByteArray) (q : Int) (g : ps[j]? = some (x, q)) (h : firstTwice [] ps = firstTwice ((ps.take j).map Prod.fst) (ps.drop j)) :
    firstTwice [] ps = if inB ((ps.take j).map Prod.fst) x then some q else firstTwice ((ps.take (j + 1)).map Prod.fst) (ps.drop (j + 1)) := by
  rw [h, drop_at ps j _ g, texts_succ ps j x q g]
  rfl
/-- What declared hands back. -/
inductive Decl (ps : List (ByteArray × Int)) (w : World) : Ending → World → Prop
  | long {q : ByteArray × Int} {w' : World} : 64 < ps.length → ps[64]? = some q → Ext w w' → Decl ps w (.returned (.tuple #[.slice none 0 0, .int .i64 q.2, .int .i64 3])) w'
  | twice {q : Int} {w' : World} : ps.length ≤ 64 → firstTwice [] ps = some q → Ext w w' → Decl ps w (.returned (.tuple #[.slice none 0 0, .int .i64 q, .int .i64 4])) w'
  | ok {a : Option Addr} {n c : Nat} {w' : World} : ps.length ≤ 64 → firstTwice [] ps = none → Nm (fun k => k < w.heap.size) w' (ps.map Prod.fst) a n c → Ext w w' → Decl ps w (.returned (.tuple #[.slice a n c, .int .i64 0, .int .i64 0])) w'
theorem nm_owned_at {A : Nat → Prop} {base : Nat} {w' : World} {e : TypeId} {v : Value} {n : Nat} {bd : List ByteArray} (h : w'.ownsRow base e 1 v n (vstr bd)) (hA : ∀ k, A k → k < base) :
    ∃ a cap, v = .slice a n cap ∧ Nm A w' bd a n cap := by
  obtain ⟨a, cap, rfl, g1, g2, g3⟩ := owns_row1 h
  refine ⟨a, cap, rfl, g1, g2, ?_, g3, ?_⟩
  · rintro rfl
    rcases h.2 with ⟨e, h0⟩ | ⟨g, c, cur, e, _⟩
    · cases e; exact ⟨rfl, rfl⟩
    · cases e
  · rintro p rfl
    rcases h.2 with ⟨e, h0⟩ | ⟨g, c, cur, e, hg, _⟩
    · cases e
    · cases e
      have := h.lt g rfl
      exact ⟨fun h' => by have := hA g h'; omega, this.2, rfl⟩

set_option maxRecDepth 8000 in
set_option maxHeartbeats 4000000 in
theorem scope_declared (p : Pg) (w : World) (v : Value) (hp : IsPg w p v) : Calls Tryd.prog 55 #[v] w (Decl p.ps w) := by
  obtain ⟨a, n, c, x, l, ak, lenk, capk, hb, rfl, h1, h2, ht, hf, h3, h4, hl⟩ := hp
  have HPN : Hid (n = p.ps.length) := Lib.hid (by rw [ps_length]; exact ht.length)
  unfold pgval
  obtain ⟨W0, hW0⟩ : ∃ W0, W0 = w.alloc (.cells #[.slice a n c, .int .u8 x.k, .int .u8 x.op, .int .i64 x.pos, .int .i64 x.n, .string x.name, .string x.arg, .string x.exn, .slice ak lenk capk] 43) := ⟨_, rfl⟩
  have x0 : Ext w W0 := by rw [hW0]; exact (Ext.refl _).alloc _
  have hs0 : w.heap.size + 1 = W0.heap.size := by rw [hW0]; simp
  have q0 : W0.cell? ⟨w.heap.size, 0, none⟩ = some (.slice a n c) := by rw [hW0]; simp [go_sem]
  have HT := Lib.hid ht
  have HW0 := Lib.hid hW0
  have HPS : Hid (∀ (j : Nat) (t : Tk), p.exns[j]? = some t → p.ps[j]? = some (t.text, t.pos)) := Lib.hid fun j t g => ps_at g
  clear hb ht hf hl hW0
  by_cases h64 : 64 < n
  · obtain ⟨t, b, o, g, hft, rfl, c0, c1, c2⟩ := (HT.out.ext x0).at3 h64
    have hd : decide ((64 : Int) < (n : Int)) = true := by simp; omega
    have hz : (64 : Int) < (n : Int) := by omega
    have G := Lib.hid (HPS.out _ _ g)
    have d0 := fun W (h : Ext W0 W) => h.cell q0
    have d2 := fun W (h : Ext W0 W) => h.cell (show W0.cell? ⟨b, o + 192 + 2, none⟩ = some (.int .i64 t.pos) from c2)
    have d3 := fun W (h : Ext W0 W) => h.cell (show W0.cell? ⟨b, o + 194, none⟩ = some (.int .i64 t.pos) from c2)
    clear g hft
    go_enter Tryd.func55, Tryd.ntmps55
    go_wp2_with fail
    rw [← HW0.out]
    refine wp_region_held_drew (S := fun w' => Ext W0 w') (by kernel_rfl) (by (try dsimp only); (repeat (first | exact Ext.refl _ | assumption | refine Ext.alloc ?_ _ | refine Ext.drew ?_ | refine Ext.setCell ?_ (by first | (simp; done) | (simp; omega) | omega) _ | refine Ext.trans ?_ (by assumption)))) (fun hHeld => ?_)
    refine held_take 0 (v := ?_) rfl (by kernel_rfl) (by kernel_rfl) (by kernel_rfl) (fun _ _ _ h => h) (by assumption) (by rfl) ?_ ?_; rotate_left; (focus (intro w hSw; (try dsimp only at hSw); go_simp; (try with_reducible rfl))); try simp only [Act.put, List.setIfInBounds_toArray, List.set_cons_zero, List.set_cons_succ]
    refine held_take 1 (v := ?_) rfl (by kernel_rfl) (by kernel_rfl) (by kernel_rfl) (fun _ _ _ h => h) (by assumption) (by rfl) ?_ ?_; rotate_left; (focus (intro w hSw; (try dsimp only at hSw); go_simp; (try with_reducible rfl))); try simp only [Act.put, List.setIfInBounds_toArray, List.set_cons_zero, List.set_cons_succ]
    refine held_take 2 (v := ?_) rfl (by kernel_rfl) (by kernel_rfl) (by kernel_rfl) (fun _ _ _ h => h) (by assumption) (by rfl) ?_ ?_; rotate_left; (focus (intro w hSw; (try dsimp only at hSw); go_simp; (try with_reducible rfl))); try simp only [Act.put, List.setIfInBounds_toArray, List.set_cons_zero, List.set_cons_succ]
    refine held_take 3 (v := ?_) rfl (by kernel_rfl) (by kernel_rfl) (by kernel_rfl) (fun _ _ _ h => h) (by assumption) (by rfl) ?_ ?_; rotate_left; (focus (intro w hSw; (try dsimp only at hSw); go_simp; (try with_reducible rfl))); try simp only [Act.put, List.setIfInBounds_toArray, List.set_cons_zero, List.set_cons_succ]
    refine held_take 4 (v := ?_) rfl (by kernel_rfl) (by kernel_rfl) (by kernel_rfl) (fun _ _ _ h => h) (by assumption) (by rfl) ?_ ?_; rotate_left; (focus (intro w hSw; (try dsimp only at hSw); go_simp; (try with_reducible rfl))); try simp only [Act.put, List.setIfInBounds_toArray, List.set_cons_zero, List.set_cons_succ]
    refine held_take 5 (v := ?_) rfl (by kernel_rfl) (by kernel_rfl) (by kernel_rfl) (fun _ _ _ h => h) (by assumption) (by rfl) ?_ ?_; rotate_left; (focus (intro w hSw; (try dsimp only at hSw); go_simp; (try with_reducible rfl))); try simp only [Act.put, List.setIfInBounds_toArray, List.set_cons_zero, List.set_cons_succ]
    refine held_take 6 (v := ?_) rfl (by kernel_rfl) (by kernel_rfl) (by kernel_rfl) (fun _ _ _ h => h) (by assumption) (by rfl) ?_ ?_; rotate_left; (focus (intro w hSw; (try dsimp only at hSw); go_simp; (try with_reducible rfl))); try simp only [Act.put, List.setIfInBounds_toArray, List.set_cons_zero, List.set_cons_succ]
    refine held_take 7 (v := ?_) rfl (by kernel_rfl) (by kernel_rfl) (by kernel_rfl) (fun _ _ _ h => h) (by assumption) (by rfl) ?_ ?_; rotate_left; (focus (intro w hSw; (try dsimp only at hSw); go_simp; (try with_reducible rfl))); try simp only [Act.put, List.setIfInBounds_toArray, List.set_cons_zero, List.set_cons_succ]
    refine wpAnyH_done (by kernel_rfl) ?_ _
    go_wp2_with fail
    have hfin := hHeld
    exact bodyPost_ret (v := .tuple #[.slice none 0 0, .int .i64 t.pos, .int .i64 3]) (by simp [results, Tryd.results55, go_sem]) rfl (Decl.long (by have := HPN.out; omega) G.out (x0.trans hfin))
  · have hd : decide ((64 : Int) < (n : Int)) = false := by simp; omega
    generalize p.ps = ps at *
    obtain ⟨i0, hi, hz0, hz1, hz2⟩ := infoStr1
    have HIN := Lib.hid (And.intro hi (And.intro hz0 (And.intro hz1 hz2)))
    clear hi hz0 hz1 hz2
    go_enter Tryd.func55, Tryd.ntmps55
    go_wp2_with fail
    rw [← HW0.out]
    go_loopg [5, 20] n (fun g s i wr => ∃ (j : Nat), g = n - j ∧ j ≤ n ∧ i = .int .i64 j ∧ firstTwice [] ps = firstTwice ((ps.take j).map Prod.fst) (ps.drop j) ∧ wr.ownsRow W0.heap.size 9 1 s j (vstr ((ps.take j).map Prod.fst)) ∧ Ext W0 wr)
    case atStart => exact ⟨0, by omega, by omega, rfl, by simp, World.ownsRow_nil _ _ _ _, Ext.refl _⟩
    case round =>
      obtain ⟨j, rfl, hj, rfl, htw, ho, hx⟩ := hrel
      have HTW := Lib.hid htw
      have HO := Lib.hid ho
      obtain ⟨ar, cr, rfl, g1, g2, g3⟩ := owns_row1 ho
      have G3 := Lib.hid g3
      clear htw ho g3
      by_cases hlt : j < n
      · obtain ⟨t, b, o, g, hft, rfl, c0, c1, c2⟩ := (HT.out.ext (x0.trans hx)).at3 hlt
        have G := Lib.hid (HPS.out _ _ g)
        have HR := Lib.hid (twice_round ps j t.text t.pos (HPS.out _ _ g) HTW.out)
        have HS := Lib.hid (texts_succ ps j t.text t.pos (HPS.out _ _ g))
        obtain ⟨W1, hW1⟩ : ∃ W1, W1 = wr.alloc (.cells #[.int .u8 t.k, .string t.text, .int .i64 t.pos] 59) := ⟨_, rfl⟩
        have xW : Ext wr W1 := by rw [hW1]; exact (Ext.refl _).alloc _
        have hs1 : wr.heap.size < W1.heap.size := by rw [hW1]; simp
        have e1 : W1.cell? ⟨wr.heap.size, 1, none⟩ = some (.string t.text) := by rw [hW1]; simp [go_sem]
        have e2 : W1.cell? ⟨wr.heap.size, 2, none⟩ = some (.int .i64 t.pos) := by rw [hW1]; simp [go_sem]
        have KC := Lib.hid (strs_contains t.text ((ps.take j).map Prod.fst) W1 ar j cr g1 g2 (G3.out.ext xW))
        have HW1 := Lib.hid hW1
        have hsx := hx.size
        clear hW1 g hft
        cases hin : inB ((ps.take j).map Prod.fst) t.text
        · rw [hin] at KC HR
          clear hin
          go_wp2_with fail
          rw [← HW1.out]
          refine (KC.out).mono ?_
          rintro e w2 ⟨rfl, x2⟩
          have e1' := x2.cell e1
          have hs2 := x2.size
          go_wp2_with (at_builtin; refine wpList_append_mine rfl (.tmp 30) (.tmp 33) 51 rfl W0.heap.size 9 i0 (.string ByteArray.empty) 1 16 Tryd.underlying51 HIN.out.1 HIN.out.2.1 HIN.out.2.2.1 HIN.out.2.2.2 rfl (by decide) (Value.slice ar j cr) j (vstr ((ps.take j).map Prod.fst)) rfl (owns_ext ((xW.trans x2).alloc _) HO.out) ⟨w2.heap.size, 0, none⟩ 1 1 [.string t.text] rfl rfl (fun i u hu => by rw [Addr.add_lit, Nat.zero_add]; exact (World.cell?_alloc_new w2 _ _ _).trans (by simpa using hu)) (fun u hu => by simp at hu; subst hu; rfl) (by unfold maxLen; omega) (by omega) (by simp; omega) ?_; intro v6 w6 ho6 hg6 _; have hX6 := ext_grown hg6 ((hx.trans (xW.trans x2)).alloc _) (fun k hk => (HO.out.lt k hk).1); have HO6 := Lib.hid ho6; clear ho6 hg6)
          go_roundg (n - (j + 1))
          case rel => exact ⟨j + 1, rfl, by omega, by go_num, by rw [HR.out]; rfl, by rw [HS.out, vstr_snoc]; exact HO6.out, hX6⟩
          case measure => omega
        · rw [hin] at KC HR
          clear hin
          go_wp2_with fail
          rw [← HW1.out]
          refine (KC.out).mono ?_
          rintro e w2 ⟨rfl, x2⟩
          have d2 := fun W (h : Ext w2 W) => h.cell (x2.cell e2)
          go_wp2_with fail
          refine wp_region_held_drew (S := fun w' => Ext w2 w') (by kernel_rfl) (by (try dsimp only); (repeat (first | exact Ext.refl _ | assumption | refine Ext.alloc ?_ _ | refine Ext.drew ?_ | refine Ext.setCell ?_ (by first | (simp; done) | (simp; omega) | omega) _ | refine Ext.trans ?_ (by assumption)))) (fun hHeld => ?_)
          refine held_take 0 (v := ?_) rfl (by kernel_rfl) (by kernel_rfl) (by kernel_rfl) (fun _ _ _ h => h) (by assumption) (by rfl) ?_ ?_; rotate_left; (focus (intro w hSw; (try dsimp only at hSw); go_simp; (try with_reducible rfl))); try simp only [Act.put, List.setIfInBounds_toArray, List.set_cons_zero, List.set_cons_succ]
          refine held_take 1 (v := ?_) rfl (by kernel_rfl) (by kernel_rfl) (by kernel_rfl) (fun _ _ _ h => h) (by assumption) (by rfl) ?_ ?_; rotate_left; (focus (intro w hSw; (try dsimp only at hSw); go_simp; (try with_reducible rfl))); try simp only [Act.put, List.setIfInBounds_toArray, List.set_cons_zero, List.set_cons_succ]
          refine held_take 2 (v := ?_) rfl (by kernel_rfl) (by kernel_rfl) (by kernel_rfl) (fun _ _ _ h => h) (by assumption) (by rfl) ?_ ?_; rotate_left; (focus (intro w hSw; (try dsimp only at hSw); go_simp; (try with_reducible rfl))); try simp only [Act.put, List.setIfInBounds_toArray, List.set_cons_zero, List.set_cons_succ]
          refine held_take 3 (v := ?_) rfl (by kernel_rfl) (by kernel_rfl) (by kernel_rfl) (fun _ _ _ h => h) (by assumption) (by rfl) ?_ ?_; rotate_left; (focus (intro w hSw; (try dsimp only at hSw); go_simp; (try with_reducible rfl))); try simp only [Act.put, List.setIfInBounds_toArray, List.set_cons_zero, List.set_cons_succ]
          refine held_take 4 (v := ?_) rfl (by kernel_rfl) (by kernel_rfl) (by kernel_rfl) (fun _ _ _ h => h) (by assumption) (by rfl) ?_ ?_; rotate_left; (focus (intro w hSw; (try dsimp only at hSw); go_simp; (try with_reducible rfl))); try simp only [Act.put, List.setIfInBounds_toArray, List.set_cons_zero, List.set_cons_succ]
          refine wpAnyH_done (by kernel_rfl) ?_ _
          go_wp2_with fail
          have hfin := hHeld
          exact bodyPost_ret (v := .tuple #[.slice none 0 0, .int .i64 t.pos, .int .i64 4]) (by simp [results, Tryd.results55, go_sem]) rfl (Decl.twice (by have := HPN.out; omega) HR.out (x0.trans (hx.trans (xW.trans (x2.trans hfin)))))
      · obtain rfl : j = n := by omega
        obtain ⟨a', c', e, hN⟩ := nm_owned_at (A := fun k => k < w.heap.size) HO.out (fun k hk => by omega)
        cases e
        have hpt : ps.take j = ps := List.take_of_length_le (by have := HPN.out; omega)
        have hpd : ps.drop j = [] := List.drop_eq_nil_of_le (by have := HPN.out; omega)
        rw [hpt] at hN
        have hnone := HTW.out
        rw [hpd] at hnone
        have HN := Lib.hid hN
        have HNO := Lib.hid hnone
        clear hN hnone hpt hpd
        go_wp2_with fail
        exact bodyPost_ret (v := .tuple #[.slice ar j cr, .int .i64 0, .int .i64 0]) (by simp [results, Tryd.results55, go_sem]) rfl (Decl.ok (by have := HPN.out; omega) HNO.out HN.out (x0.trans hx))
end Go.Proofs.YtmomahgedheekaaDoor
namespace Go.Proofs.YtmomahgedheekaaDoor
open Go Go.RowKit Go.Sort

/-- The exceptions that are declared, a place, an error, in blocks of their own. -/
def gClosed (b : Nat) (exns : List ByteArray) : Gauge (Int × Int) where
  R := fun s w => (∃ a n c, Blk w b 51 #[.slice a n c] ∧ Nm (fun k => k = b + 1 ∨ k = b + 2) w exns a n c) ∧ Blk w (b + 1) 3 #[.int .i64 s.1] ∧ Blk w (b + 2) 26 #[.int .i64 s.2]
  own := fun _ k => k = b + 1 ∨ k = b + 2
  keep := fun _ _ _ ⟨⟨a, n, c, h1, h2⟩, h3, h4⟩ hx => ⟨⟨⟨a, n, c, h1.ext hx, h2.ext hx⟩, h3.ext hx, h4.ext hx⟩, fun _ h => h⟩
  lt := fun _ _ k ⟨_, h3, h4⟩ hk => by
    rcases hk with rfl | rfl
    · exact h3.lt
    · exact h4.lt
theorem enters_closed1 : ∀ args w, (callFunc 57 args).run Tryd.prog w = .ok (.enter 57 args) w := enters_of Tryd.func57 (by kernel_rfl) rfl
def Two (b : Nat) : Nat → Prop := fun k => k = b + 1 ∨ k = b + 2
theorem nm_set {b : Nat} {w : World} {bd : List ByteArray} {a : Option Addr} {n c : Nat} (h : Nm (Two b) w bd a n c) {p : Addr} (hp : Two b p.block) (u : Value) : Nm (Two b) (w.setCell p u) bd a n c :=
  ⟨h.le, h.max, h.nil, ⟨h.row.1, fun i v hi => by
    obtain ⟨b', o, e, q⟩ := h.row.2 i v hi
    subst e
    exact ⟨b', o, rfl, (World.cell?_setCell_other w p ⟨b', o + i, none⟩ u (fun e => (h.off _ rfl).1 (by subst e; exact hp))).trans q⟩⟩, fun q hq => ⟨(h.off q hq).1, by simpa [World.setCell] using (h.off q hq).2.1, (h.off q hq).2.2⟩⟩
set_option maxRecDepth 8000 in
set_option maxHeartbeats 4000000 in
theorem closed_steps (b : Nat) (exns : List ByteArray) : StepsN (gClosed b exns) (closedF exns) (fun _ _ => True) 57 (.pointer (some ⟨b, 0, none⟩)) (.pointer (some ⟨b + 1, 0, none⟩)) (.pointer (some ⟨b + 2, 0, none⟩)) := by
  rintro ⟨s1, s2⟩ w bd pp n cp x l a len cap ⟨⟨ae, ne, ce, hB, hE⟩, hA, hR⟩ hr hf h1 h2 hn hl
  obtain ⟨W1, hW1⟩ : ∃ W1, W1 = w.alloc (.cells #[.int .u8 x.k, .int .u8 x.op, .int .i64 x.pos, .int .i64 x.n, .string x.name, .string x.arg, .string x.exn, .slice a len cap] 41) := ⟨_, rfl⟩
  have x0 : Ext w W1 := by rw [hW1]; exact (Ext.refl _).alloc _
  have hs1 : w.heap.size < W1.heap.size := by rw [hW1]; simp
  have T := TBlk.new w x a len cap 41
  rw [← hW1] at T
  obtain ⟨⟨c0, c1, c2, c3, c4, c5, c6⟩, c7⟩ := T
  simp only [Nat.zero_add] at c0 c1 c2 c3 c4 c5 c6
  have hbl := hR.lt
  have KF := Lib.hid (names_free bd x W1 pp n cp a len cap (hn.ext x0))
  have KR := Lib.hid fun W (h : Ext W1 W) => scope_raises bd x W a len cap
  have KC := Lib.hid fun W (h : Ext W1 W) => strs_contains x.exn exns W ae ne ce hE.le hE.max ((hE.ext (x0.trans h)).row)
  have HB := Lib.hid hB
  have HE := Lib.hid hE
  have HA := Lib.hid hA
  have HR := Lib.hid hR
  have HW1 := Lib.hid hW1
  have HG : Hid (closedF exns (s1, s2) bd (.mk x l) = if badH exns bd x then ((x.pos, 4), false) else ((s1, s2), decide (s2 = 0))) := rfl
  have HH : Hid (badH exns bd x = (isFree bd x || (names_ bd x && !inB exns x.exn))) := rfl
  clear hW1 hn hl hf hr
  have e2 : ∀ W, Ext W1 W → W.cell? ⟨b + 2, 0, none⟩ = some (.int .i64 s2) := fun W h => h.cell ((hR.ext x0).cell 0)
  have fin : ∀ W, Ext W1 W → badH exns bd x = false → closedF exns (s1, s2) bd (.mk x l) = ((s1, s2), decide (s2 = 0)) ∧ (gClosed b exns).R (s1, s2) W ∧ OExt (gClosed b exns).own w W := fun W h hb => by
    have hR0 : (gClosed b exns).R (s1, s2) w := ⟨⟨ae, ne, ce, HB.out, HE.out⟩, HA.out, HR.out⟩
    exact ⟨by rw [HG.out, hb]; rfl, ((gClosed b exns).keep _ _ _ hR0 (x0.trans h)).1, (gClosed b exns).oext hR0 (x0.trans h)⟩
  have FIN := Lib.hid fin
  have bad : ∀ W, Ext W1 W → badH exns bd x = true → closedF exns (s1, s2) bd (.mk x l) = ((x.pos, 4), false) ∧ (gClosed b exns).R (x.pos, 4) ((W.setCell ⟨b + 1, 0, none⟩ (.int .i64 x.pos)).setCell ⟨b + 2, 0, none⟩ (.int .i64 4)) ∧ OExt (gClosed b exns).own w ((W.setCell ⟨b + 1, 0, none⟩ (.int .i64 x.pos)).setCell ⟨b + 2, 0, none⟩ (.int .i64 4)) := fun W h hb => by
    have hx := x0.trans h
    refine ⟨by rw [HG.out, hb]; rfl, ⟨⟨ae, ne, ce, ?_, nm_set (nm_set (HE.out.ext hx) (.inl rfl) _) (.inr rfl) _⟩, ?_, ?_⟩, ?_⟩
    · exact ((HB.out.ext hx).far (p := ⟨b + 1, 0, none⟩) (by simp) _).far (p := ⟨b + 2, 0, none⟩) (by simp) _
    · have := ((HA.out.ext hx).set_ 0 (.int .i64 x.pos)).far (p := ⟨b + 2, 0, none⟩) (by simp) (.int .i64 4)
      simpa using this
    · have := (((HR.out.ext hx).far (p := ⟨b + 1, 0, none⟩) (by simp) (.int .i64 x.pos))).set_ 0 (.int .i64 4)
      simpa using this
    · exact oext_of_x (A := Two b) (((ExtX.of hx).setCell (p := ⟨b + 1, 0, none⟩) (.inl (.inl rfl)) _).setCell (p := ⟨b + 2, 0, none⟩) (.inl (.inr rfl)) _)
  have BAD := Lib.hid bad
  clear fin bad
  have kE : W1.cell? ⟨b, 0, none⟩ = some (.slice ae ne ce) := (hB.ext x0).cell 0
  have kA : W1.cell? ⟨b + 1, 0, none⟩ = some (.int .i64 s1) := (hA.ext x0).cell 0
  have kR : W1.cell? ⟨b + 2, 0, none⟩ = some (.int .i64 s2) := (hR.ext x0).cell 0
  have FA := Lib.hid fun W (h : Ext w W) => (hA.ext h).frozen 0
  have FR := Lib.hid fun W (h : Ext w W) => (hR.ext h).frozen 0
  clear hB hE hA hR
  cases hfr : isFree bd x
  · rw [hfr] at KF HH
    cases hnm : names_ bd x
    · rw [hnm] at KR HH
      clear hfr hnm
      have hbad : badH exns bd x = false := HH.out
      have HBAD := Lib.hid hbad
      clear hbad
      go_enter Tryd.func57, Tryd.ntmps57
      go_wp2_with fail
      rw [← HW1.out]
      refine (KF.out).mono ?_
      rintro e w1 ⟨rfl, x1⟩
      have d0 := x1.cell c0
      have d1 := x1.cell c1
      have d2 := x1.cell c2
      have d3 := x1.cell c3
      have d4 := x1.cell c4
      have d5 := x1.cell c5
      have d6 := x1.cell c6
      have d7 := x1.cell c7
      go_wp2_with fail
      refine (KR.out _ x1).mono ?_
      rintro e w2 ⟨rfl, x2⟩
      have q2 := e2 _ (x1.trans x2)
      go_wp2_with fail
      go_ret
      obtain ⟨a1, a2, a3⟩ := FIN.out _ (x1.trans x2) HBAD.out
      rw [a1]
      exact ⟨ret_bool (by by_cases h : s2 = 0 <;> simp [h]), a2, a3⟩
    · rw [hnm] at KR HH
      clear hfr hnm
      cases hin : inB exns x.exn
      · rw [hin] at KC HH
        clear hin
        have HBAD : Hid (badH exns bd x = true) := HH
        go_enter Tryd.func57, Tryd.ntmps57
        go_wp2_with fail
        rw [← HW1.out]
        refine (KF.out).mono ?_
        rintro e w1 ⟨rfl, x1⟩
        have d0 := x1.cell c0
        have d1 := x1.cell c1
        have d2 := x1.cell c2
        have d3 := x1.cell c3
        have d4 := x1.cell c4
        have d5 := x1.cell c5
        have d6 := x1.cell c6
        have d7 := x1.cell c7
        go_wp2_with fail
        refine (KR.out _ x1).mono ?_
        rintro e w2 ⟨rfl, x2⟩
        have y2 := x1.trans x2
        have d6 := y2.cell c6
        have dE := y2.cell kE
        go_wp2_with fail
        refine (KC.out _ y2).mono ?_
        rintro e w3 ⟨rfl, x3⟩
        have y3 := y2.trans x3
        have d2 := y3.cell c2
        have dA := y3.cell kA
        have dR := y3.cell kR
        have fA := FA.out _ (x0.trans y3)
        have fR := FR.out _ (x0.trans y3)
        have hb3 := Nat.lt_of_lt_of_le hbl (x0.trans y3).size
        go_wp2_with fail
        go_ret
        obtain ⟨a1, a2, a3⟩ := BAD.out _ y3 HBAD.out
        rw [a1]
        exact ⟨rfl, a2, a3⟩
      · rw [hin] at KC HH
        clear hin
        have HBAD : Hid (badH exns bd x = false) := HH
        go_enter Tryd.func57, Tryd.ntmps57
        go_wp2_with fail
        rw [← HW1.out]
        refine (KF.out).mono ?_
        rintro e w1 ⟨rfl, x1⟩
        have d0 := x1.cell c0
        have d1 := x1.cell c1
        have d2 := x1.cell c2
        have d3 := x1.cell c3
        have d4 := x1.cell c4
        have d5 := x1.cell c5
        have d6 := x1.cell c6
        have d7 := x1.cell c7
        go_wp2_with fail
        refine (KR.out _ x1).mono ?_
        rintro e w2 ⟨rfl, x2⟩
        have y2 := x1.trans x2
        have d6 := y2.cell c6
        have dE := y2.cell kE
        go_wp2_with fail
        refine (KC.out _ y2).mono ?_
        rintro e w3 ⟨rfl, x3⟩
        have y3 := y2.trans x3
        have q2 := e2 _ y3
        go_wp2_with fail
        go_ret
        obtain ⟨a1, a2, a3⟩ := FIN.out _ y3 HBAD.out
        rw [a1]
        exact ⟨ret_bool (by by_cases h : s2 = 0 <;> simp [h]), a2, a3⟩
  · rw [hfr] at KF HH
    clear hfr
    have HBAD : Hid (badH exns bd x = true) := HH
    go_enter Tryd.func57, Tryd.ntmps57
    go_wp2_with fail
    rw [← HW1.out]
    refine (KF.out).mono ?_
    rintro e w1 ⟨rfl, y3⟩
    have d2 := y3.cell c2
    have dA := y3.cell kA
    have dR := y3.cell kR
    have fA := FA.out _ (x0.trans y3)
    have fR := FR.out _ (x0.trans y3)
    have hb3 := Nat.lt_of_lt_of_le hbl (x0.trans y3).size
    go_wp2_with fail
    go_ret
    obtain ⟨a1, a2, a3⟩ := BAD.out _ y3 HBAD.out
    rw [a1]
    exact ⟨rfl, a2, a3⟩
end Go.Proofs.YtmomahgedheekaaDoor
namespace Go.Proofs.YtmomahgedheekaaDoor
open Go Go.RowKit Go.Sort

theorem closedR_no {t : Tm} {l : List (ByteArray × Int)} (h : t.may = false) : closedR t l = (0, 1) := by unfold closedR; rw [if_pos h]
theorem closedR_long {t : Tm} {l : List (ByteArray × Int)} {q : ByteArray × Int} (h : t.may = true) (h1 : 64 < l.length) (h2 : l[64]? = some q) : closedR t l = (q.2, 3) := by
  unfold closedR; rw [if_neg (by simp [h]), if_pos h1, h2]; rfl
theorem closedR_twice {t : Tm} {l : List (ByteArray × Int)} {q : Int} (h : t.may = true) (h1 : l.length ≤ 64) (h2 : firstTwice [] l = some q) : closedR t l = (q, 4) := by
  unfold closedR; rw [if_neg (by simp [h]), if_neg (by omega), h2]
theorem closedR_bad {t : Tm} {l : List (ByteArray × Int)} {q : Int} (h : t.may = true) (h1 : l.length ≤ 64) (h2 : firstTwice [] l = none) (h3 : t.bad (l.map Prod.fst) [] = some q) : closedR t l = (q, 4) := by
  unfold closedR; rw [if_neg (by simp [h]), if_neg (by omega), h2]; simp only; rw [h3]
theorem closedR_ok {t : Tm} {l : List (ByteArray × Int)} (h : t.may = true) (h1 : l.length ≤ 64) (h2 : firstTwice [] l = none) (h3 : t.bad (l.map Prod.fst) [] = none) : closedR t l = (0, 0) := by
  unfold closedR; rw [if_neg (by simp [h]), if_neg (by omega), h2]; simp only; rw [h3]
def RetC (r : Int × Int) (w : World) (e : Ending) (w' : World) : Prop := e = .returned (.tuple #[.int .i64 r.1, .int .i64 r.2]) ∧ Ext w w'
set_option maxRecDepth 8000 in
set_option maxHeartbeats 4000000 in
theorem scope_closed (p : Pg) (w : World) (v : Value) (hp : IsPg w p v) (hs : p.body.size ≤ 100000) (hkn : Knob w) : Calls Tryd.prog 26 #[v] w (RetC (closedR p.body p.ps) w) := by
  have hp0 := hp
  obtain ⟨a, n, c, x, l, ak, lenk, capk, hb, rfl, h1, h2, ht, hf, h3, h4, hl⟩ := hp
  unfold pgval at hp0 ⊢
  obtain ⟨W0, hW0⟩ : ∃ W0, W0 = w.alloc (.cells #[.slice a n c, .int .u8 x.k, .int .u8 x.op, .int .i64 x.pos, .int .i64 x.n, .string x.name, .string x.arg, .string x.exn, .slice ak lenk capk] 43) := ⟨_, rfl⟩
  have x0 : Ext w W0 := by rw [hW0]; exact (Ext.refl _).alloc _
  have hs0 : w.heap.size < W0.heap.size := by rw [hW0]; simp
  have q0 : W0.cell? ⟨w.heap.size, 0, none⟩ = some (.slice a n c) := by rw [hW0]; simp [go_sem]
  have q1 : W0.cell? ⟨w.heap.size, 1, none⟩ = some (.int .u8 x.k) := by rw [hW0]; simp [go_sem]
  have q2 : W0.cell? ⟨w.heap.size, 2, none⟩ = some (.int .u8 x.op) := by rw [hW0]; simp [go_sem]
  have q3 : W0.cell? ⟨w.heap.size, 3, none⟩ = some (.int .i64 x.pos) := by rw [hW0]; simp [go_sem]
  have q4 : W0.cell? ⟨w.heap.size, 4, none⟩ = some (.int .i64 x.n) := by rw [hW0]; simp [go_sem]
  have q5 : W0.cell? ⟨w.heap.size, 5, none⟩ = some (.string x.name) := by rw [hW0]; simp [go_sem]
  have q6 : W0.cell? ⟨w.heap.size, 6, none⟩ = some (.string x.arg) := by rw [hW0]; simp [go_sem]
  have q7 : W0.cell? ⟨w.heap.size, 7, none⟩ = some (.string x.exn) := by rw [hW0]; simp [go_sem]
  have q8 : W0.cell? ⟨w.heap.size, 8, none⟩ = some (.slice ak lenk capk) := by rw [hW0]; simp [go_sem]
  have CM : Hid (∀ W, Ext w W → Calls Tryd.prog 54 #[tval x ak lenk capk] W fun e w' => e = .returned (.bool p.body.may) ∧ Ext W w') := Lib.hid fun W h => term_may p.body W (tval x ak lenk capk) (by rw [hb]; exact IsTmA.mk_ (hl.ext h) h3 h4 hf) (hkn.ext h) (by omega)
  have CD : Hid (∀ W, Ext w W → Calls Tryd.prog 55 #[.agg #[.slice a n c, .int .u8 x.k, .int .u8 x.op, .int .i64 x.pos, .int .i64 x.n, .string x.name, .string x.arg, .string x.exn, .slice ak lenk capk]] W (Decl p.ps W)) := Lib.hid fun W h => scope_declared p W _ (hp0.ext h)
  have HB := Lib.hid hb
  have HTL := Lib.hid hl
  have HF := Lib.hid hf
  have HW0 := Lib.hid hW0
  unfold tval at CM
  clear hp0 hb ht hf hl hkn hW0
  cases hm : p.body.may
  · rw [hm] at CM
    have HM := Lib.hid hm
    clear hm
    go_enter Tryd.func26, Tryd.ntmps26
    go_wp2_with fail
    rw [← HW0.out]
    refine (CM.out _ x0).mono ?_
    rintro e w1 ⟨rfl, x1⟩
    go_wp2_with fail
    exact bodyPost_ret (v := .tuple #[.int .i64 0, .int .i64 1]) (by simp [results, Tryd.results26, go_sem]) rfl ⟨by rw [closedR_no HM.out], x0.trans x1⟩
  · rw [hm] at CM
    have HM := Lib.hid hm
    clear hm
    go_enter Tryd.func26, Tryd.ntmps26
    go_wp2_with fail
    rw [← HW0.out]
    refine (CM.out _ x0).mono ?_
    rintro e w1 ⟨rfl, x1⟩
    have d0 := x1.cell q0
    have d1 := x1.cell q1
    have d2 := x1.cell q2
    have d3 := x1.cell q3
    have d4 := x1.cell q4
    have d5 := x1.cell q5
    have d6 := x1.cell q6
    have d7 := x1.cell q7
    have d8 := x1.cell q8
    go_wp2_with fail
    refine (CD.out _ (x0.trans x1)).mono ?_
    intro e w2 hd
    have hs1 := x1.size
    cases hd with
    | long g1 g2 x2 =>
      rename_i q
      have HQ := Lib.hid (closedR_long HM.out g1 g2)
      clear g1 g2
      obtain ⟨W3, hW3⟩ : ∃ W3, W3 = ((w2.alloc (.cells #[.slice none 0 0] 51)).alloc (.cells #[.int .i64 q.2] 3)).alloc (.cells #[.int .i64 3] 26) := ⟨_, rfl⟩
      have x3 : Ext w2 W3 := by rw [hW3]; exact (((Ext.refl _).alloc _).alloc _).alloc _
      have k1 : W3.cell? ⟨w2.heap.size + 1, 0, none⟩ = some (.int .i64 q.2) := by rw [hW3]; simp [go_sem]
      have k2 : W3.cell? ⟨w2.heap.size + 1 + 1, 0, none⟩ = some (.int .i64 3) := by rw [hW3]; simp [go_sem]
      have m1 := fun W (h : Ext W3 W) => h.cell k1
      have m2 := fun W (h : Ext W3 W) => h.cell k2
      have HW3 := Lib.hid hW3
      clear hW3
      go_wp2_with fail
      rw [← HW3.out]
      refine wp_region_held_drew (S := fun w' => Ext W3 w') (by kernel_rfl) (by (try dsimp only); (repeat (first | exact Ext.refl _ | assumption | refine Ext.alloc ?_ _ | refine Ext.drew ?_ | refine Ext.setCell ?_ (by first | (simp; done) | (simp; omega) | omega) _ | refine Ext.trans ?_ (by assumption)))) (fun hHeld => ?_)
      refine held_take 0 (v := ?_) rfl (by kernel_rfl) (by kernel_rfl) (by kernel_rfl) (fun _ _ _ h => h) (by assumption) (by rfl) ?_ ?_; rotate_left; (focus (intro w hSw; (try dsimp only at hSw); go_simp; (try with_reducible rfl))); try simp only [Act.put, List.setIfInBounds_toArray, List.set_cons_zero, List.set_cons_succ]
      refine held_take 1 (v := ?_) rfl (by kernel_rfl) (by kernel_rfl) (by kernel_rfl) (fun _ _ _ h => h) (by assumption) (by rfl) ?_ ?_; rotate_left; (focus (intro w hSw; (try dsimp only at hSw); go_simp; (try with_reducible rfl))); try simp only [Act.put, List.setIfInBounds_toArray, List.set_cons_zero, List.set_cons_succ]
      refine held_take 2 (v := ?_) rfl (by kernel_rfl) (by kernel_rfl) (by kernel_rfl) (fun _ _ _ h => h) (by assumption) (by rfl) ?_ ?_; rotate_left; (focus (intro w hSw; (try dsimp only at hSw); go_simp; (try with_reducible rfl))); try simp only [Act.put, List.setIfInBounds_toArray, List.set_cons_zero, List.set_cons_succ]
      refine held_take 3 (v := ?_) rfl (by kernel_rfl) (by kernel_rfl) (by kernel_rfl) (fun _ _ _ h => h) (by assumption) (by rfl) ?_ ?_; rotate_left; (focus (intro w hSw; (try dsimp only at hSw); go_simp; (try with_reducible rfl))); try simp only [Act.put, List.setIfInBounds_toArray, List.set_cons_zero, List.set_cons_succ]
      refine wpAnyH_done (by kernel_rfl) ?_ _
      go_wp2_with fail
      have hfin := hHeld
      exact bodyPost_ret (v := .tuple #[.int .i64 q.2, .int .i64 3]) (by simp [results, Tryd.results26, go_sem]) rfl ⟨by rw [HQ.out], x0.trans (x1.trans (x2.trans (x3.trans hfin)))⟩
    | twice g1 g2 x2 =>
      rename_i q
      have HQ := Lib.hid (closedR_twice HM.out g1 g2)
      clear g1 g2
      obtain ⟨W3, hW3⟩ : ∃ W3, W3 = ((w2.alloc (.cells #[.slice none 0 0] 51)).alloc (.cells #[.int .i64 q] 3)).alloc (.cells #[.int .i64 4] 26) := ⟨_, rfl⟩
      have x3 : Ext w2 W3 := by rw [hW3]; exact (((Ext.refl _).alloc _).alloc _).alloc _
      have k1 : W3.cell? ⟨w2.heap.size + 1, 0, none⟩ = some (.int .i64 q) := by rw [hW3]; simp [go_sem]
      have k2 : W3.cell? ⟨w2.heap.size + 1 + 1, 0, none⟩ = some (.int .i64 4) := by rw [hW3]; simp [go_sem]
      have m1 := fun W (h : Ext W3 W) => h.cell k1
      have m2 := fun W (h : Ext W3 W) => h.cell k2
      have HW3 := Lib.hid hW3
      clear hW3
      go_wp2_with fail
      rw [← HW3.out]
      refine wp_region_held_drew (S := fun w' => Ext W3 w') (by kernel_rfl) (by (try dsimp only); (repeat (first | exact Ext.refl _ | assumption | refine Ext.alloc ?_ _ | refine Ext.drew ?_ | refine Ext.setCell ?_ (by first | (simp; done) | (simp; omega) | omega) _ | refine Ext.trans ?_ (by assumption)))) (fun hHeld => ?_)
      refine held_take 0 (v := ?_) rfl (by kernel_rfl) (by kernel_rfl) (by kernel_rfl) (fun _ _ _ h => h) (by assumption) (by rfl) ?_ ?_; rotate_left; (focus (intro w hSw; (try dsimp only at hSw); go_simp; (try with_reducible rfl))); try simp only [Act.put, List.setIfInBounds_toArray, List.set_cons_zero, List.set_cons_succ]
      refine held_take 1 (v := ?_) rfl (by kernel_rfl) (by kernel_rfl) (by kernel_rfl) (fun _ _ _ h => h) (by assumption) (by rfl) ?_ ?_; rotate_left; (focus (intro w hSw; (try dsimp only at hSw); go_simp; (try with_reducible rfl))); try simp only [Act.put, List.setIfInBounds_toArray, List.set_cons_zero, List.set_cons_succ]
      refine held_take 2 (v := ?_) rfl (by kernel_rfl) (by kernel_rfl) (by kernel_rfl) (fun _ _ _ h => h) (by assumption) (by rfl) ?_ ?_; rotate_left; (focus (intro w hSw; (try dsimp only at hSw); go_simp; (try with_reducible rfl))); try simp only [Act.put, List.setIfInBounds_toArray, List.set_cons_zero, List.set_cons_succ]
      refine held_take 3 (v := ?_) rfl (by kernel_rfl) (by kernel_rfl) (by kernel_rfl) (fun _ _ _ h => h) (by assumption) (by rfl) ?_ ?_; rotate_left; (focus (intro w hSw; (try dsimp only at hSw); go_simp; (try with_reducible rfl))); try simp only [Act.put, List.setIfInBounds_toArray, List.set_cons_zero, List.set_cons_succ]
      refine wpAnyH_done (by kernel_rfl) ?_ _
      go_wp2_with fail
      have hfin := hHeld
      exact bodyPost_ret (v := .tuple #[.int .i64 q, .int .i64 4]) (by simp [results, Tryd.results26, go_sem]) rfl ⟨by rw [HQ.out], x0.trans (x1.trans (x2.trans (x3.trans hfin)))⟩
    | ok g1 g2 g3 x2 =>
      rename_i ae ne ce
      have z1 := x2.cell d1
      have z2 := x2.cell d2
      have z3 := x2.cell d3
      have z4 := x2.cell d4
      have z5 := x2.cell d5
      have z6 := x2.cell d6
      have z7 := x2.cell d7
      have z8 := x2.cell d8
      have hs2 := x2.size
      have hs3 : w.heap.size < w2.heap.size := by omega
      have hs4 : w.heap.size < w2.heap.size + 1 := by omega
      have hs5 : w.heap.size < w2.heap.size + 1 + 1 := by omega
      obtain ⟨W3, hW3⟩ : ∃ W3, W3 = ((w2.alloc (.cells #[.slice ae ne ce] 51)).alloc (.cells #[.int .i64 0] 3)).alloc (.cells #[.int .i64 0] 26) := ⟨_, rfl⟩
      have x3 : Ext w2 W3 := by rw [hW3]; exact (((Ext.refl _).alloc _).alloc _).alloc _
      have b0 : Blk W3 w2.heap.size 51 #[.slice ae ne ce] := by rw [hW3]; exact ((Blk.new w2 _ _).alloc _).alloc _
      have b1 : Blk W3 (w2.heap.size + 1) 3 #[.int .i64 0] := by
        rw [hW3]
        have h := (Blk.new (w2.alloc (.cells #[.slice ae ne ce] 51)) 3 #[.int .i64 0]).alloc (.cells #[.int .i64 0] 26)
        rw [World.size_alloc] at h
        exact h
      have b2 : Blk W3 (w2.heap.size + 2) 26 #[.int .i64 0] := by
        rw [hW3]
        have h := Blk.new ((w2.alloc (.cells #[.slice ae ne ce] 51)).alloc (.cells #[.int .i64 0] 3)) 26 #[.int .i64 0]
        rw [World.size_alloc, World.size_alloc] at h
        exact h
      have hN : Nm (Two w2.heap.size) W3 (p.ps.map Prod.fst) ae ne ce :=
        ⟨g3.le, g3.max, g3.nil, g3.row.ext x3, fun q hq => ⟨fun h => by have := (g3.off q hq).2.1; rcases h with h | h <;> omega, Nat.lt_of_lt_of_le (g3.off q hq).2.1 x3.size, (g3.off q hq).2.2⟩⟩
      have hR0 : (gClosed w2.heap.size (p.ps.map Prod.fst)).R (0, 0) W3 := ⟨⟨ae, ne, ce, b0, hN⟩, b1, b2⟩
      have xw : Ext w W3 := x0.trans (x1.trans (x2.trans x3))
      have CW := names_walk (gClosed w2.heap.size (p.ps.map Prod.fst)) (closedF (p.ps.map Prod.fst)) (fun _ _ => True) (fun _ _ _ _ _ => trivial) (fun _ _ _ _ _ => trivial) 57 (.pointer (some ⟨w2.heap.size, 0, none⟩)) (.pointer (some ⟨w2.heap.size + 1, 0, none⟩)) (.pointer (some ⟨w2.heap.size + 2, 0, none⟩)) enters_closed1 (closed_steps _ _) _ p.body [] (0, 0) W3 none 0 0 (tval x ak lenk capk) (Nat.le_refl _) (by simp; omega) hR0 trivial (Nm.none_ _ _) (by
        rw [HB.out]
        exact IsTmA.mk_ (HTL.out.fresh xw (fun k hk => by
          have : w2.heap.size < k := by rcases hk with hk | hk <;> omega
          omega)) h3 h4 HF.out)
      rw [Tm.nwalk_closed] at CW
      unfold tval at CW
      have HW3 := Lib.hid hW3
      have hle : w.heap.size ≤ w2.heap.size := by omega
      clear hW3 b0 b1 b2 hN hR0 g3
      have fin : ∀ (r : Int × Int) (w9 : World), OExt (gClosed w2.heap.size (p.ps.map Prod.fst)).own W3 w9 → Ext w w9 := fun r w9 hx =>
        ExtX.ext xw (oext_x (A := Two w2.heap.size) hx) fun k hk => by rcases hk with rfl | rfl <;> omega
      cases hbad : p.body.bad (p.ps.map Prod.fst) [] with
      | none =>
        rw [hbad] at CW
        have HQ := Lib.hid (closedR_ok HM.out g1 g2 hbad)
        have CWH := Lib.hid CW
        have FIN := Lib.hid fin
        clear g1 g2 hbad CW fin
        go_wp2_with fail
        rw [← HW3.out]
        refine (CWH.out).mono ?_
        rintro e w9 ⟨rfl, ⟨_, r1, r2⟩, hx9⟩
        have k1 := r1.cell 0
        have k2 := r2.cell 0
        simp at k1 k2
        have m1 := fun W (h : Ext w9 W) => h.cell k1
        have m2 := fun W (h : Ext w9 W) => h.cell k2
        clear r1 r2
        go_wp2_with fail
        refine wp_region_held_drew (S := fun w' => Ext w9 w') (by kernel_rfl) (by (try dsimp only); (repeat (first | exact Ext.refl _ | assumption | refine Ext.alloc ?_ _ | refine Ext.drew ?_ | refine Ext.setCell ?_ (by first | (simp; done) | (simp; omega) | omega) _ | refine Ext.trans ?_ (by assumption)))) (fun hHeld => ?_)
        refine held_take 0 (v := ?_) rfl (by kernel_rfl) (by kernel_rfl) (by kernel_rfl) (fun _ _ _ h => h) (by assumption) (by rfl) ?_ ?_; rotate_left; (focus (intro w hSw; (try dsimp only at hSw); go_simp; (try with_reducible rfl))); try simp only [Act.put, List.setIfInBounds_toArray, List.set_cons_zero, List.set_cons_succ]
        refine held_take 1 (v := ?_) rfl (by kernel_rfl) (by kernel_rfl) (by kernel_rfl) (fun _ _ _ h => h) (by assumption) (by rfl) ?_ ?_; rotate_left; (focus (intro w hSw; (try dsimp only at hSw); go_simp; (try with_reducible rfl))); try simp only [Act.put, List.setIfInBounds_toArray, List.set_cons_zero, List.set_cons_succ]
        refine held_take 2 (v := ?_) rfl (by kernel_rfl) (by kernel_rfl) (by kernel_rfl) (fun _ _ _ h => h) (by assumption) (by rfl) ?_ ?_; rotate_left; (focus (intro w hSw; (try dsimp only at hSw); go_simp; (try with_reducible rfl))); try simp only [Act.put, List.setIfInBounds_toArray, List.set_cons_zero, List.set_cons_succ]
        refine held_take 3 (v := ?_) rfl (by kernel_rfl) (by kernel_rfl) (by kernel_rfl) (fun _ _ _ h => h) (by assumption) (by rfl) ?_ ?_; rotate_left; (focus (intro w hSw; (try dsimp only at hSw); go_simp; (try with_reducible rfl))); try simp only [Act.put, List.setIfInBounds_toArray, List.set_cons_zero, List.set_cons_succ]
        refine wpAnyH_done (by kernel_rfl) ?_ _
        go_wp2_with fail
        have hfin := hHeld
        exact bodyPost_ret (v := .tuple #[.int .i64 0, .int .i64 0]) (by simp [results, Tryd.results26, go_sem]) rfl ⟨by rw [HQ.out], (FIN.out (0, 0) _ hx9).trans hfin⟩
      | some q =>
        rw [hbad] at CW
        have HQ := Lib.hid (closedR_bad HM.out g1 g2 hbad)
        have CWH := Lib.hid CW
        have FIN := Lib.hid fin
        clear g1 g2 hbad CW fin
        go_wp2_with fail
        rw [← HW3.out]
        refine (CWH.out).mono ?_
        rintro e w9 ⟨rfl, ⟨_, r1, r2⟩, hx9⟩
        have k1 := r1.cell 0
        have k2 := r2.cell 0
        simp at k1 k2
        have m1 := fun W (h : Ext w9 W) => h.cell k1
        have m2 := fun W (h : Ext w9 W) => h.cell k2
        clear r1 r2
        go_wp2_with fail
        refine wp_region_held_drew (S := fun w' => Ext w9 w') (by kernel_rfl) (by (try dsimp only); (repeat (first | exact Ext.refl _ | assumption | refine Ext.alloc ?_ _ | refine Ext.drew ?_ | refine Ext.setCell ?_ (by first | (simp; done) | (simp; omega) | omega) _ | refine Ext.trans ?_ (by assumption)))) (fun hHeld => ?_)
        refine held_take 0 (v := ?_) rfl (by kernel_rfl) (by kernel_rfl) (by kernel_rfl) (fun _ _ _ h => h) (by assumption) (by rfl) ?_ ?_; rotate_left; (focus (intro w hSw; (try dsimp only at hSw); go_simp; (try with_reducible rfl))); try simp only [Act.put, List.setIfInBounds_toArray, List.set_cons_zero, List.set_cons_succ]
        refine held_take 1 (v := ?_) rfl (by kernel_rfl) (by kernel_rfl) (by kernel_rfl) (fun _ _ _ h => h) (by assumption) (by rfl) ?_ ?_; rotate_left; (focus (intro w hSw; (try dsimp only at hSw); go_simp; (try with_reducible rfl))); try simp only [Act.put, List.setIfInBounds_toArray, List.set_cons_zero, List.set_cons_succ]
        refine held_take 2 (v := ?_) rfl (by kernel_rfl) (by kernel_rfl) (by kernel_rfl) (fun _ _ _ h => h) (by assumption) (by rfl) ?_ ?_; rotate_left; (focus (intro w hSw; (try dsimp only at hSw); go_simp; (try with_reducible rfl))); try simp only [Act.put, List.setIfInBounds_toArray, List.set_cons_zero, List.set_cons_succ]
        refine held_take 3 (v := ?_) rfl (by kernel_rfl) (by kernel_rfl) (by kernel_rfl) (fun _ _ _ h => h) (by assumption) (by rfl) ?_ ?_; rotate_left; (focus (intro w hSw; (try dsimp only at hSw); go_simp; (try with_reducible rfl))); try simp only [Act.put, List.setIfInBounds_toArray, List.set_cons_zero, List.set_cons_succ]
        refine wpAnyH_done (by kernel_rfl) ?_ _
        go_wp2_with fail
        have hfin := hHeld
        exact bodyPost_ret (v := .tuple #[.int .i64 q, .int .i64 4]) (by simp [results, Tryd.results26, go_sem]) rfl ⟨by rw [HQ.out], (FIN.out (0, 0) _ hx9).trans hfin⟩
end Go.Proofs.YtmomahgedheekaaDoor
namespace Go.Proofs.YtmomahgedheekaaDoor
open Go Go.RowKit Go.Sort

set_option maxRecDepth 8000 in
set_option maxHeartbeats 4000000 in
theorem ref7_closed (p : Pg) (w : World) (v : Value) (hp : IsPg w p v) (hs : p.body.size ≤ 100000) : Calls Tryd.prog 27 #[v] w (RetC (closedR p.body p.ps) w) := by
  have HPN : Hid (∀ a n, IsToks w p.exns a n → n = p.ps.length) := Lib.hid fun a n h => by rw [ps_length]; exact h.length
  obtain ⟨a, n, c, x, l, ak, lenk, capk, hb, rfl, h1, h2, ht, hf, h3, h4, hl⟩ := hp
  unfold pgval
  have HPN : Hid (n = p.ps.length) := Lib.hid (HPN.out a n ht)
  obtain ⟨W0, hW0⟩ : ∃ W0, W0 = w.alloc (.cells #[.slice a n c, .int .u8 x.k, .int .u8 x.op, .int .i64 x.pos, .int .i64 x.n, .string x.name, .string x.arg, .string x.exn, .slice ak lenk capk] 43) := ⟨_, rfl⟩
  have x0 : Ext w W0 := by rw [hW0]; exact (Ext.refl _).alloc _
  have hs0 : w.heap.size < W0.heap.size := by rw [hW0]; simp
  have q0 : W0.cell? ⟨w.heap.size, 0, none⟩ = some (.slice a n c) := by rw [hW0]; simp [go_sem]
  have q1 : W0.cell? ⟨w.heap.size, 1, none⟩ = some (.int .u8 x.k) := by rw [hW0]; simp [go_sem]
  have q2 : W0.cell? ⟨w.heap.size, 2, none⟩ = some (.int .u8 x.op) := by rw [hW0]; simp [go_sem]
  have q3 : W0.cell? ⟨w.heap.size, 3, none⟩ = some (.int .i64 x.pos) := by rw [hW0]; simp [go_sem]
  have q4 : W0.cell? ⟨w.heap.size, 4, none⟩ = some (.int .i64 x.n) := by rw [hW0]; simp [go_sem]
  have q5 : W0.cell? ⟨w.heap.size, 5, none⟩ = some (.string x.name) := by rw [hW0]; simp [go_sem]
  have q6 : W0.cell? ⟨w.heap.size, 6, none⟩ = some (.string x.arg) := by rw [hW0]; simp [go_sem]
  have q7 : W0.cell? ⟨w.heap.size, 7, none⟩ = some (.string x.exn) := by rw [hW0]; simp [go_sem]
  have q8 : W0.cell? ⟨w.heap.size, 8, none⟩ = some (.slice ak lenk capk) := by rw [hW0]; simp [go_sem]
  have CM : Hid (∀ W, Ext w W → Calls Tryd.prog 29 #[tval x ak lenk capk] W fun e w' => e = .returned (.bool p.body.may) ∧ Ext W w') := Lib.hid fun W h => ref4_may p.body W (tval x ak lenk capk) (by rw [hb]; exact IsTmA.mk_ (hl.ext h) h3 h4 hf) (by omega)
  have HB := Lib.hid hb
  have HT := Lib.hid ht
  have HTL := Lib.hid hl
  have HF := Lib.hid hf
  have HW0 := Lib.hid hW0
  have HPS : Hid (∀ (j : Nat) (t : Tk), p.exns[j]? = some t → p.ps[j]? = some (t.text, t.pos)) := Lib.hid fun j t g => ps_at g
  unfold tval at CM
  clear hb ht hf hl hW0
  cases hm : p.body.may
  · rw [hm] at CM
    have HM := Lib.hid hm
    clear hm
    go_enter Tryd.func27, Tryd.ntmps27
    go_wp2_with fail
    rw [← HW0.out]
    refine (CM.out _ x0).mono ?_
    rintro e w1 ⟨rfl, x1⟩
    go_wp2_with fail
    exact bodyPost_ret (v := .tuple #[.int .i64 0, .int .i64 1]) (by simp [results, Tryd.results27, go_sem]) rfl ⟨by rw [closedR_no HM.out], x0.trans x1⟩
  rw [hm] at CM
  have HM := Lib.hid hm
  clear hm
  by_cases h64 : 64 < n
  · obtain ⟨t, b, o, g, hft, rfl, c0, c1, c2⟩ := (HT.out.ext x0).at3 h64
    have hz : (64 : Int) < (n : Int) := by omega
    have HQ := Lib.hid (closedR_long HM.out (by have := HPN.out; omega) (HPS.out _ _ g))
    clear g hft
    go_enter Tryd.func27, Tryd.ntmps27
    go_wp2_with fail
    rw [← HW0.out]
    refine (CM.out _ x0).mono ?_
    rintro e w1 ⟨rfl, x1⟩
    have d0 := x1.cell q0
    have d2 := x1.cell (show W0.cell? ⟨b, o + 192 + 2, none⟩ = some (.int .i64 t.pos) from c2)
    go_wp2_with fail
    exact bodyPost_ret (v := .tuple #[.int .i64 t.pos, .int .i64 3]) (by simp [results, Tryd.results27, go_sem]) rfl ⟨by rw [HQ.out], x0.trans x1⟩
  have hz : (n : Int) ≤ 64 := by omega
  generalize hps : p.ps = ps at *
  have HPE := Lib.hid hps
  clear hps
  obtain ⟨i0, hi, hz0, hz1, hz2⟩ := infoStr1
  have HIN := Lib.hid (And.intro hi (And.intro hz0 (And.intro hz1 hz2)))
  clear hi hz0 hz1 hz2
  go_enter Tryd.func27, Tryd.ntmps27
  go_wp2_with fail
  rw [← HW0.out]
  refine (CM.out _ x0).mono ?_
  rintro e w1 ⟨rfl, x1⟩
  have d0 := x1.cell q0
  have hs1 := x1.size
  have hs2 : w.heap.size < w1.heap.size := by omega
  go_wp2_with fail
  go_loopg [4, 25] n (fun g s i wr => ∃ (j : Nat) (pj : Addr) (cj : Nat), g = n - j ∧ j ≤ n ∧ s = .slice (some pj) j cj ∧ i = .int .i64 j ∧ firstTwice [] ps = firstTwice ((ps.take j).map Prod.fst) (ps.drop j) ∧ wr.ownsRow w1.heap.size 9 1 s j (vstr ((ps.take j).map Prod.fst)) ∧ Ext w1 wr)
  case atStart => exact ⟨0, _, _, by omega, by omega, rfl, rfl, by simp, owns_new w1 w1.heap.size 9 1 0 [] (Nat.le_refl _) (by unfold maxLen; omega) rfl, (Ext.refl _).alloc _⟩
  case round =>
    obtain ⟨j, pj, cj, rfl, hj, rfl, rfl, htw, ho, hx⟩ := hrel
    have HTW := Lib.hid htw
    have HO := Lib.hid ho
    obtain ⟨ar, cr, e, g1, g2, g3⟩ := owns_row1 ho
    cases e
    have G3 := Lib.hid g3
    have hsx := hx.size
    have e0 := hx.cell d0
    clear htw ho g3
    by_cases hlt : j < n
    · obtain ⟨t, b, o, g, hft, rfl, c0, c1, c2⟩ := (HT.out.ext (x0.trans (x1.trans hx))).at3 hlt
      have HR := Lib.hid (twice_round ps j t.text t.pos (HPS.out _ _ g) HTW.out)
      have HS := Lib.hid (texts_succ ps j t.text t.pos (HPS.out _ _ g))
      have KC := Lib.hid (ref7_in t.text ((ps.take j).map Prod.fst) wr (some pj) j cj g1 g2 G3.out)
      clear g hft
      cases hin : inB ((ps.take j).map Prod.fst) t.text
      · rw [hin] at KC HR
        clear hin
        go_wp2_with (first | (go_at_call 36; refine (KC.out).mono ?_; rintro e w2 ⟨rfl, x2⟩; have f0 := x2.cell e0; have f1 := x2.cell c1; have hs2' := x2.size; have hb2 := block_lt_of_cell f1; simp only at hb2; have hb3 : w.heap.size < w2.heap.size := (by omega)) | (at_builtin; refine wpList_append_mine rfl (.tmp 42) (.tmp 49) 51 rfl w1.heap.size 9 i0 (.string ByteArray.empty) 1 16 Tryd.underlying51 HIN.out.1 HIN.out.2.1 HIN.out.2.2.1 HIN.out.2.2.2 rfl (by decide) (Value.slice (some pj) j cj) j (vstr ((ps.take j).map Prod.fst)) rfl (owns_ext (x2.alloc _) HO.out) ⟨w2.heap.size, 0, none⟩ 1 1 [.string t.text] rfl rfl (fun i u hu => by rw [Addr.add_lit, Nat.zero_add]; exact (World.cell?_alloc_new w2 _ _ _).trans (by simpa using hu)) (fun u hu => by simp at hu; subst hu; rfl) (by unfold maxLen; omega) (by omega) (by simp; omega) ?_; intro v6 w6 ho6 hg6 _; have hX6 := ext_grown hg6 ((hx.trans x2).alloc _) (fun k hk => (HO.out.lt k hk).1); obtain ⟨g6, c6, rfl, _, _, _, _, _⟩ := owns_open ho6 (by omega); have HO6 := Lib.hid ho6; clear ho6 hg6))
        go_roundg (n - (j + 1))
        case rel => exact ⟨j + 1, _, _, rfl, by omega, rfl, by go_num, by rw [HR.out]; rfl, by rw [HS.out, vstr_snoc]; exact HO6.out, hX6⟩
        case measure => omega
      · rw [hin] at KC HR
        clear hin
        have HQ := Lib.hid (closedR_twice (l := ps) HM.out (by have := HPN.out; omega) HR.out)
        go_wp2_with (go_at_call 36; refine (KC.out).mono ?_; rintro e w2 ⟨rfl, x2⟩; have f0 := x2.cell e0; have f2 := x2.cell c2)
        exact bodyPost_ret (v := .tuple #[.int .i64 t.pos, .int .i64 4]) (by simp [results, Tryd.results27, go_sem]) rfl ⟨by rw [HQ.out], x0.trans (x1.trans (hx.trans x2))⟩
    · obtain rfl : j = n := by omega
      obtain ⟨a', c', e, hN⟩ := nm_owned_at (A := NoA) HO.out (fun k hk => hk.elim)
      cases e
      have hpt : ps.take j = ps := List.take_of_length_le (by have := HPN.out; omega)
      have hpd : ps.drop j = [] := List.drop_eq_nil_of_le (by have := HPN.out; omega)
      have hlen : (ps.map Prod.fst).length ≤ 64 := by rw [List.length_map]; have := HPN.out; omega
      have hlen0 : ps.length ≤ 64 := by have := HPN.out; omega
      rw [hpt] at hN
      have hnone := HTW.out
      rw [hpd] at hnone
      have xr := x0.trans (x1.trans hx)
      have z1 := hx.cell (x1.cell q1)
      have z2 := hx.cell (x1.cell q2)
      have z3 := hx.cell (x1.cell q3)
      have z4 := hx.cell (x1.cell q4)
      have z5 := hx.cell (x1.cell q5)
      have z6 := hx.cell (x1.cell q6)
      have z7 := hx.cell (x1.cell q7)
      have z8 := hx.cell (x1.cell q8)
      have hsr : w.heap.size < wr.heap.size := by omega
      have CB := ref7_bad (ps.map Prod.fst) _ p.body [] (wr.alloc (.cells #[] 9)) ⟨wr.heap.size, 0, none⟩ pj 0 0 j cj (tval x ak lenk capk) (Nat.le_refl _) (by simp; omega) (hN.ext ((Ext.refl _).alloc _)) (Nm.zero wr _) (by rw [HB.out]; exact IsTmA.mk_ (HTL.out.ext (xr.alloc _)) h3 h4 HF.out)
      unfold tval at CB
      have XR := Lib.hid xr
      clear hN hpt hpd xr
      cases hbad : p.body.bad (ps.map Prod.fst) [] with
      | none =>
        rw [hbad] at CB
        have HQ := Lib.hid (closedR_ok HM.out (l := ps) hlen0 hnone hbad)
        have CBH := Lib.hid CB
        clear hbad hnone CB
        simp only [badR, Option.getD_none, Option.isSome_none] at CBH
        go_wp2_with (go_at_call 61; refine (CBH.out).mono ?_; rintro e w2 ⟨rfl, x2⟩)
        exact bodyPost_ret (v := .tuple #[.int .i64 0, .int .i64 0]) (by simp [results, Tryd.results27, go_sem]) rfl ⟨by rw [HQ.out], XR.out.trans (((Ext.refl _).alloc _).trans x2)⟩
      | some q =>
        rw [hbad] at CB
        have HQ := Lib.hid (closedR_bad HM.out (l := ps) hlen0 hnone hbad)
        have CBH := Lib.hid CB
        clear hbad hnone CB
        simp only [badR, Option.getD_some, Option.isSome_some] at CBH
        go_wp2_with (go_at_call 61; refine (CBH.out).mono ?_; rintro e w2 ⟨rfl, x2⟩)
        exact bodyPost_ret (v := .tuple #[.int .i64 q, .int .i64 4]) (by simp [results, Tryd.results27, go_sem]) rfl ⟨by rw [HQ.out], XR.out.trans (((Ext.refl _).alloc _).trans x2)⟩
end Go.Proofs.YtmomahgedheekaaDoor

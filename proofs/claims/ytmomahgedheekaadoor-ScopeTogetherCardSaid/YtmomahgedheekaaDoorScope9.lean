/- Whether a program is closed: the walks of scope.declared, Closed. -/
import Derived.Test.YtmomahgedheekaaDoorScope7
import Derived.Test.YtmomahgedheekaaDoorMemK
namespace Go.Proofs.YtmomahgedheekaaDoor
open Go Go.RowKit Go.Sort

/-- A program. -/
structure Pg where
  exns : List Tk
  body : Tm
/-- Exceptions that are declared, and their places. -/
def Pg.ps (p : Pg) : List (ByteArray × Int) := p.exns.map fun t => (t.text, t.pos)
/-- A program's value. -/
def pgval (a : Option Addr) (n c : Nat) (x : Hd) (ak : Option Addr) (lenk capk : Nat) : Value := .agg #[.slice a n c, .int .u8 x.k, .int .u8 x.op, .int .i64 x.pos, .int .i64 x.n, .string x.name, .string x.arg, .string x.exn, .slice ak lenk capk]
/-- A program in memory. -/
def IsPg (w : World) (p : Pg) (v : Value) : Prop := ∃ a n c x l ak lenk capk, p.body = .mk x l ∧ v = pgval a n c x ak lenk capk ∧ n ≤ c ∧ c ≤ 9223372036854775807 ∧ IsToks w p.exns a n ∧ x.Fits ∧ lenk ≤ capk ∧ capk ≤ 9223372036854775807 ∧ IsTms w l ak lenk
theorem IsPg.ext {w w' : World} (hx : Ext w w') {p : Pg} {v : Value} (h : IsPg w p v) : IsPg w' p v := by
  obtain ⟨a, n, c, x, l, ak, lenk, capk, h1, h2, h3, h4, h5, h6, h7, h8, h9⟩ := h
  exact ⟨a, n, c, x, l, ak, lenk, capk, h1, h2, h3, h4, h5.ext hx, h6, h7, h8, h9.ext hx⟩
theorem ps_at {p : Pg} {j : Nat} {t : Tk} (g : p.exns[j]? = some t) : p.ps[j]? = some (t.text, t.pos) := by
  unfold Pg.ps
  rw [List.getElem?_map, g]
  rfl
theorem ps_length (p : Pg) : p.ps.length = p.exns.length := by unfold Pg.ps; simp
theorem drop_at {α : Type} (l : List α) (j : Nat) (x : α) (g : l[j]? = some x) : l.drop j = x :: l.drop (j + 1) := by
  have h : j < l.length := by
    rcases Nat.lt_or_ge j l.length with h | h
    · exact h
    · rw [List.getElem?_eq_none h] at g; cases g
  rw [List.drop_eq_getElem_cons h]
  rw [List.getElem?_eq_getElem h] at g
  cases g
  rfl
theorem texts_succ (ps : List (ByteArray × Int)) (j : Nat) (x : ByteArray) (q : Int) (g : ps[j]? = some (x, q)) : (ps.take (j + 1)).map Prod.fst = (ps.take j).map Prod.fst ++ [x] := by
  rw [List.take_add_one, g]
  simp
theorem twice_round (ps : List (ByteArray × Int)) (j : Nat) (x : ByteArray) (q : Int) (g : ps[j]? = some (x, q)) (h : firstTwice [] ps = firstTwice ((ps.take j).map Prod.fst) (ps.drop j)) :
    firstTwice [] ps = if inB ((ps.take j).map Prod.fst) x then some q else firstTwice ((ps.take (j + 1)).map Prod.fst) (ps.drop (j + 1)) := by
  rw [h, drop_at ps j _ g, texts_succ ps j x q g]
  rfl
/-- What declared hands back. -/
inductive Decl (ps : List (ByteArray × Int)) (w : World) : Ending → World → Prop
  | long {q : ByteArray × Int} {w' : World} : 64 < ps.length → ps[64]? = some q → Ext w w' → Decl ps w (.returned (.tuple #[.slice none 0 0, .int .i64 q.2, .int .i64 3])) w'
  | twice {q : Int} {w' : World} : ps.length ≤ 64 → firstTwice [] ps = some q → Ext w w' → Decl ps w (.returned (.tuple #[.slice none 0 0, .int .i64 q, .int .i64 4])) w'
  | ok {a : Option Addr} {n c : Nat} {w' : World} : ps.length ≤ 64 → firstTwice [] ps = none → Nm (fun k => k < w.heap.size) w' (ps.map Prod.fst) a n c → Ext w w' → Decl ps w (.returned (.tuple #[.slice a n c, .int .i64 0, .int .i64 0])) w'
theorem nm_owned_at {A : Nat → Prop} {base : Nat} {w' : World} {e : TypeId} {v : Value} {n : Nat} {bd : List ByteArray} (h : w'.ownsRow base e 1 v n (vstr bd)) (hA : ∀ k, A k → k < base) :
    ∃ a cap, v = .slice a n cap ∧ Nm A w' bd a n cap := by
  obtain ⟨a, cap, rfl, g1, g2, g3⟩ := owns_row1 h
  refine ⟨a, cap, rfl, g1, g2, ?_, g3, ?_⟩
  · rintro rfl
    rcases h.2 with ⟨e, h0⟩ | ⟨g, c, cur, e, _⟩
    · cases e; exact ⟨rfl, rfl⟩
    · cases e
  · rintro p rfl
    rcases h.2 with ⟨e, h0⟩ | ⟨g, c, cur, e, hg, _⟩
    · cases e
    · cases e
      have := h.lt g rfl
      exact ⟨fun h' => by have := hA g h'; omega, this.2, rfl⟩

set_option maxRecDepth 8000 in
set_option maxHeartbeats 4000000 in
theorem scope_declared (p : Pg) (w : World) (v : Value) (hp : IsPg w p v) : Calls Tryd.prog 55 #[v] w (Decl p.ps w) := by
  obtain ⟨a, n, c, x, l, ak, lenk, capk, hb, rfl, h1, h2, ht, hf, h3, h4, hl⟩ := hp
  have HPN : Hid (n = p.ps.length) := Lib.hid (by rw [ps_length]; exact ht.length)
  unfold pgval
  obtain ⟨W0, hW0⟩ : ∃ W0, W0 = w.alloc (.cells #[.slice a n c, .int .u8 x.k, .int .u8 x.op, .int .i64 x.pos, .int .i64 x.n, .string x.name, .string x.arg, .string x.exn, .slice ak lenk capk] 43) := ⟨_, rfl⟩
  have x0 : Ext w W0 := by rw [hW0]; exact (Ext.refl _).alloc _
  have hs0 : w.heap.size + 1 = W0.heap.size := by rw [hW0]; simp
  have q0 : W0.cell? ⟨w.heap.size, 0, none⟩ = some (.slice a n c) := by rw [hW0]; simp [go_sem]
  have HT := Lib.hid ht
  have HW0 := Lib.hid hW0
  have HPS : Hid (∀ (j : Nat) (t : Tk), p.exns[j]? = some t → p.ps[j]? = some (t.text, t.pos)) := Lib.hid fun j t g => ps_at g
  clear hb ht hf hl hW0
  by_cases h64 : 64 < n
  · obtain ⟨t, b, o, g, hft, rfl, c0, c1, c2⟩ := (HT.out.ext x0).at3 h64
    have hd : decide ((64 : Int) < (n : Int)) = true := by simp; omega
    have hz : (64 : Int) < (n : Int) := by omega
    have G := Lib.hid (HPS.out _ _ g)
    have d0 := fun W (h : Ext W0 W) => h.cell q0
    have d2 := fun W (h : Ext W0 W) => h.cell (show W0.cell? ⟨b, o + 192 + 2, none⟩ = some (.int .i64 t.pos) from c2)
    have d3 := fun W (h : Ext W0 W) => h.cell (show W0.cell? ⟨b, o + 194, none⟩ = some (.int .i64 t.pos) from c2)
    clear g hft
    go_enter Tryd.func55, Tryd.ntmps55
    go_wp2_with fail
    rw [← HW0.out]
    refine wp_region_held_drew (S := fun w' => Ext W0 w') (by kernel_rfl) (by (try dsimp only); (repeat (first | exact Ext.refl _ | assumption | refine Ext.alloc ?_ _ | refine Ext.drew ?_ | refine Ext.setCell ?_ (by first | (simp; done) | (simp; omega) | omega) _ | refine Ext.trans ?_ (by assumption)))) (fun hHeld => ?_)
    refine held_take 0 (v := ?_) rfl (by kernel_rfl) (by kernel_rfl) (by kernel_rfl) (fun _ _ _ h => h) (by assumption) (by rfl) ?_ ?_; rotate_left; (focus (intro w hSw; (try dsimp only at hSw); go_simp; (try with_reducible rfl))); try simp only [Act.put, List.setIfInBounds_toArray, List.set_cons_zero, List.set_cons_succ]
    refine held_take 1 (v := ?_) rfl (by kernel_rfl) (by kernel_rfl) (by kernel_rfl) (fun _ _ _ h => h) (by assumption) (by rfl) ?_ ?_; rotate_left; (focus (intro w hSw; (try dsimp only at hSw); go_simp; (try with_reducible rfl))); try simp only [Act.put, List.setIfInBounds_toArray, List.set_cons_zero, List.set_cons_succ]
    refine held_take 2 (v := ?_) rfl (by kernel_rfl) (by kernel_rfl) (by kernel_rfl) (fun _ _ _ h => h) (by assumption) (by rfl) ?_ ?_; rotate_left; (focus (intro w hSw; (try dsimp only at hSw); go_simp; (try with_reducible rfl))); try simp only [Act.put, List.setIfInBounds_toArray, List.set_cons_zero, List.set_cons_succ]
    refine held_take 3 (v := ?_) rfl (by kernel_rfl) (by kernel_rfl) (by kernel_rfl) (fun _ _ _ h => h) (by assumption) (by rfl) ?_ ?_; rotate_left; (focus (intro w hSw; (try dsimp only at hSw); go_simp; (try with_reducible rfl))); try simp only [Act.put, List.setIfInBounds_toArray, List.set_cons_zero, List.set_cons_succ]
    refine held_take 4 (v := ?_) rfl (by kernel_rfl) (by kernel_rfl) (by kernel_rfl) (fun _ _ _ h => h) (by assumption) (by rfl) ?_ ?_; rotate_left; (focus (intro w hSw; (try dsimp only at hSw); go_simp; (try with_reducible rfl))); try simp only [Act.put, List.setIfInBounds_toArray, List.set_cons_zero, List.set_cons_succ]
    refine held_take 5 (v := ?_) rfl (by kernel_rfl) (by kernel_rfl) (by kernel_rfl) (fun _ _ _ h => h) (by assumption) (by rfl) ?_ ?_; rotate_left; (focus (intro w hSw; (try dsimp only at hSw); go_simp; (try with_reducible rfl))); try simp only [Act.put, List.setIfInBounds_toArray, List.set_cons_zero, List.set_cons_succ]
    refine held_take 6 (v := ?_) rfl (by kernel_rfl) (by kernel_rfl) (by kernel_rfl) (fun _ _ _ h => h) (by assumption) (by rfl) ?_ ?_; rotate_left; (focus (intro w hSw; (try dsimp only at hSw); go_simp; (try with_reducible rfl))); try simp only [Act.put, List.setIfInBounds_toArray, List.set_cons_zero, List.set_cons_succ]
    refine held_take 7 (v := ?_) rfl (by kernel_rfl) (by kernel_rfl) (by kernel_rfl) (fun _ _ _ h => h) (by assumption) (by rfl) ?_ ?_; rotate_left; (focus (intro w hSw; (try dsimp only at hSw); go_simp; (try with_reducible rfl))); try simp only [Act.put, List.setIfInBounds_toArray, List.set_cons_zero, List.set_cons_succ]
    refine wpAnyH_done (by kernel_rfl) ?_ _
    go_wp2_with fail
    have hfin := hHeld
    exact bodyPost_ret (v := .tuple #[.slice none 0 0, .int .i64 t.pos, .int .i64 3]) (by simp [results, Tryd.results55, go_sem]) rfl (Decl.long (by have := HPN.out; omega) G.out (x0.trans hfin))
  · have hd : decide ((64 : Int) < (n : Int)) = false := by simp; omega
    generalize p.ps = ps at *
    obtain ⟨i0, hi, hz0, hz1, hz2⟩ := infoStr1
    have HIN := Lib.hid (And.intro hi (And.intro hz0 (And.intro hz1 hz2)))
    clear hi hz0 hz1 hz2
    go_enter Tryd.func55, Tryd.ntmps55
    go_wp2_with fail
    rw [← HW0.out]
    go_loopg [5, 20] n (fun g s i wr => ∃ (j : Nat), g = n - j ∧ j ≤ n ∧ i = .int .i64 j ∧ firstTwice [] ps = firstTwice ((ps.take j).map Prod.fst) (ps.drop j) ∧ wr.ownsRow W0.heap.size 9 1 s j (vstr ((ps.take j).map Prod.fst)) ∧ Ext W0 wr)
    case atStart => exact ⟨0, by omega, by omega, rfl, by simp, World.ownsRow_nil _ _ _ _, Ext.refl _⟩
    case round =>
      obtain ⟨j, rfl, hj, rfl, htw, ho, hx⟩ := hrel
      have HTW := Lib.hid htw
      have HO := Lib.hid ho
      obtain ⟨ar, cr, rfl, g1, g2, g3⟩ := owns_row1 ho
      have G3 := Lib.hid g3
      clear htw ho g3
      by_cases hlt : j < n
      · obtain ⟨t, b, o, g, hft, rfl, c0, c1, c2⟩ := (HT.out.ext (x0.trans hx)).at3 hlt
        have G := Lib.hid (HPS.out _ _ g)
        have HR := Lib.hid (twice_round ps j t.text t.pos (HPS.out _ _ g) HTW.out)
        have HS := Lib.hid (texts_succ ps j t.text t.pos (HPS.out _ _ g))
        obtain ⟨W1, hW1⟩ : ∃ W1, W1 = wr.alloc (.cells #[.int .u8 t.k, .string t.text, .int .i64 t.pos] 59) := ⟨_, rfl⟩
        have xW : Ext wr W1 := by rw [hW1]; exact (Ext.refl _).alloc _
        have hs1 : wr.heap.size < W1.heap.size := by rw [hW1]; simp
        have e1 : W1.cell? ⟨wr.heap.size, 1, none⟩ = some (.string t.text) := by rw [hW1]; simp [go_sem]
        have e2 : W1.cell? ⟨wr.heap.size, 2, none⟩ = some (.int .i64 t.pos) := by rw [hW1]; simp [go_sem]
        have KC := Lib.hid (strs_contains t.text ((ps.take j).map Prod.fst) W1 ar j cr g1 g2 (G3.out.ext xW))
        have HW1 := Lib.hid hW1
        have hsx := hx.size
        clear hW1 g hft
        cases hin : inB ((ps.take j).map Prod.fst) t.text
        · rw [hin] at KC HR
          clear hin
          go_wp2_with fail
          rw [← HW1.out]
          refine (KC.out).mono ?_
          rintro e w2 ⟨rfl, x2⟩
          have e1' := x2.cell e1
          have hs2 := x2.size
          go_wp2_with (at_builtin; refine wpList_append_mine rfl (.tmp 30) (.tmp 33) 51 rfl W0.heap.size 9 i0 (.string ByteArray.empty) 1 16 Tryd.underlying51 HIN.out.1 HIN.out.2.1 HIN.out.2.2.1 HIN.out.2.2.2 rfl (by decide) (Value.slice ar j cr) j (vstr ((ps.take j).map Prod.fst)) rfl (owns_ext ((xW.trans x2).alloc _) HO.out) ⟨w2.heap.size, 0, none⟩ 1 1 [.string t.text] rfl rfl (fun i u hu => by rw [Addr.add_lit, Nat.zero_add]; exact (World.cell?_alloc_new w2 _ _ _).trans (by simpa using hu)) (fun u hu => by simp at hu; subst hu; rfl) (by unfold maxLen; omega) (by omega) (by simp; omega) ?_; intro v6 w6 ho6 hg6 _; have hX6 := ext_grown hg6 ((hx.trans (xW.trans x2)).alloc _) (fun k hk => (HO.out.lt k hk).1); have HO6 := Lib.hid ho6; clear ho6 hg6)
          go_roundg (n - (j + 1))
          case rel => exact ⟨j + 1, rfl, by omega, by go_num, by rw [HR.out]; rfl, by rw [HS.out, vstr_snoc]; exact HO6.out, hX6⟩
          case measure => omega
        · rw [hin] at KC HR
          clear hin
          go_wp2_with fail
          rw [← HW1.out]
          refine (KC.out).mono ?_
          rintro e w2 ⟨rfl, x2⟩
          have d2 := fun W (h : Ext w2 W) => h.cell (x2.cell e2)
          go_wp2_with fail
          refine wp_region_held_drew (S := fun w' => Ext w2 w') (by kernel_rfl) (by (try dsimp only); (repeat (first | exact Ext.refl _ | assumption | refine Ext.alloc ?_ _ | refine Ext.drew ?_ | refine Ext.setCell ?_ (by first | (simp; done) | (simp; omega) | omega) _ | refine Ext.trans ?_ (by assumption)))) (fun hHeld => ?_)
          refine held_take 0 (v := ?_) rfl (by kernel_rfl) (by kernel_rfl) (by kernel_rfl) (fun _ _ _ h => h) (by assumption) (by rfl) ?_ ?_; rotate_left; (focus (intro w hSw; (try dsimp only at hSw); go_simp; (try with_reducible rfl))); try simp only [Act.put, List.setIfInBounds_toArray, List.set_cons_zero, List.set_cons_succ]
          refine held_take 1 (v := ?_) rfl (by kernel_rfl) (by kernel_rfl) (by kernel_rfl) (fun _ _ _ h => h) (by assumption) (by rfl) ?_ ?_; rotate_left; (focus (intro w hSw; (try dsimp only at hSw); go_simp; (try with_reducible rfl))); try simp only [Act.put, List.setIfInBounds_toArray, List.set_cons_zero, List.set_cons_succ]
          refine held_take 2 (v := ?_) rfl (by kernel_rfl) (by kernel_rfl) (by kernel_rfl) (fun _ _ _ h => h) (by assumption) (by rfl) ?_ ?_; rotate_left; (focus (intro w hSw; (try dsimp only at hSw); go_simp; (try with_reducible rfl))); try simp only [Act.put, List.setIfInBounds_toArray, List.set_cons_zero, List.set_cons_succ]
          refine held_take 3 (v := ?_) rfl (by kernel_rfl) (by kernel_rfl) (by kernel_rfl) (fun _ _ _ h => h) (by assumption) (by rfl) ?_ ?_; rotate_left; (focus (intro w hSw; (try dsimp only at hSw); go_simp; (try with_reducible rfl))); try simp only [Act.put, List.setIfInBounds_toArray, List.set_cons_zero, List.set_cons_succ]
          refine held_take 4 (v := ?_) rfl (by kernel_rfl) (by kernel_rfl) (by kernel_rfl) (fun _ _ _ h => h) (by assumption) (by rfl) ?_ ?_; rotate_left; (focus (intro w hSw; (try dsimp only at hSw); go_simp; (try with_reducible rfl))); try simp only [Act.put, List.setIfInBounds_toArray, List.set_cons_zero, List.set_cons_succ]
          refine wpAnyH_done (by kernel_rfl) ?_ _
          go_wp2_with fail
          have hfin := hHeld
          exact bodyPost_ret (v := .tuple #[.slice none 0 0, .int .i64 t.pos, .int .i64 4]) (by simp [results, Tryd.results55, go_sem]) rfl (Decl.twice (by have := HPN.out; omega) HR.out (x0.trans (hx.trans (xW.trans (x2.trans hfin)))))
      · obtain rfl : j = n := by omega
        obtain ⟨a', c', e, hN⟩ := nm_owned_at (A := fun k => k < w.heap.size) HO.out (fun k hk => by omega)
        cases e
        have hpt : ps.take j = ps := List.take_of_length_le (by have := HPN.out; omega)
        have hpd : ps.drop j = [] := List.drop_eq_nil_of_le (by have := HPN.out; omega)
        rw [hpt] at hN
        have hnone := HTW.out
        rw [hpd] at hnone
        have HN := Lib.hid hN
        have HNO := Lib.hid hnone
        clear hN hnone hpt hpd
        go_wp2_with fail
        exact bodyPost_ret (v := .tuple #[.slice ar j cr, .int .i64 0, .int .i64 0]) (by simp [results, Tryd.results55, go_sem]) rfl (Decl.ok (by have := HPN.out; omega) HNO.out HN.out (x0.trans hx))
end Go.Proofs.YtmomahgedheekaaDoor

/- A map of types in memory, keyed by variables. No program in sight. -/
import Derived.Test.YtkjjbackkipfdaaMem
import Derived.Test.YtkjjbackkipfdaaHeld
import Derived.Test.YtkjjbackkipfdaaPureU10
import Derived.Maps.OwnSet
import Derived.Maps.OwnOps
namespace Go.Proofs.Ytkjjbackkipfdaa
open Go Go.RowKit Go.Sort
variable {A : Nat → Prop}
open Go.Maps (Keyed int_keyed keyOf_int_mk)

/-- How many variables stand for something. -/
def sizeS (S : St) (n : Nat) : Nat := ((List.range n).filter fun i : Nat => (S (i : Int)).isSome).length
theorem sizeS_le (S : St) (n : Nat) : sizeS S n ≤ n := by
  unfold sizeS
  exact Nat.le_trans (List.length_filter_le _ _) (by simp)
theorem sizeS_none (n : Nat) : sizeS (fun _ => none) n = 0 := by simp [sizeS]
theorem sizeS_succ (S : St) (n : Nat) : sizeS S (n + 1) = sizeS S n + if (S (n : Int)).isSome then 1 else 0 := by
  unfold sizeS
  rw [List.range_succ, List.filter_append, List.length_append]
  congr 1
  cases h : (S (n : Int)).isSome <;> simp [h]
theorem sizeS_off {S : St} {n : Nat} {v : Int} (t : Ty) (h : v < 0 ∨ (n : Int) ≤ v) : sizeS (S.put v t) n = sizeS S n := by
  induction n with
  | zero => rfl
  | succ n ih =>
    rw [sizeS_succ, sizeS_succ, ih (by omega), St.put_off S (by omega)]
theorem sizeS_put {S : St} {n : Nat} {v : Int} (t : Ty) (h0 : 0 ≤ v) (h1 : v < n) : sizeS (S.put v t) n = if (S v).isSome then sizeS S n else sizeS S n + 1 := by
  induction n with
  | zero => omega
  | succ n ih =>
    rw [sizeS_succ, sizeS_succ]
    by_cases e : v = n
    · subst e
      rw [sizeS_off t (by omega), St.put_at]
      cases (S (n : Int)).isSome <;> simp
    · rw [ih (by omega), St.put_off S (by omega)]
      cases (S v).isSome <;> simp <;> omega
/-- An element of a map, as it is. -/
def rawE (v : Value) : Option (DataW Value × List MemPlace) := some (.held v, [])
def kI (x : Int) : Lit := .int .i64 x
theorem kI_key (x : Int) : WideAt.IsKeyLit (kI x) := trivial
theorem kI_ne {x y : Int} (h : x ≠ y) : kI x ≠ kI y := fun e => h (by unfold kI at e; injection e)
/-- A block that is a map has no cells. -/
theorem map_nocell {w : World} {b : Nat} {es : Array MapEntry} {c : Nat} (hb : w.heap[b]? = some (.map es c)) {p : Addr} {u : Value} (h : w.cell? p = some u) : p.block ≠ b := by
  rintro rfl
  simp [World.cell?, hb] at h
theorem owns_heap {P : Program} {k : TypeId} {R : Value → Option (DataW Value × List MemPlace)} {w w' : World} {b n : Nat} {D : DataW Value} (h : w.ownsMap P k R b n D) (e : w'.heap[b]? = w.heap[b]?) : w'.ownsMap P k R b n D := by
  obtain ⟨es, clock, hb, F, hs, hD⟩ := h
  exact ⟨es, clock, e.trans hb, F, hs, hD⟩
theorem owns_tight {P : Program} {k : TypeId} {R : Value → Option (DataW Value × List MemPlace)} {w : World} {b n m : Nat} {D : DataW Value} (h : w.ownsMap P k R b n D) (hm : Maps.size D ≤ m) : w.ownsMap P k R b m D := by
  obtain ⟨es, clock, hb, F, hs, rfl⟩ := h
  refine ⟨es, clock, hb, F, ?_, rfl⟩
  have e : Maps.size (DataW.map ((es.toList.map (WideElems.rg P k R)).foldr DataW.insert [])) = es.size := by simp [Maps.size, length_sorted]
  rw [e] at hm
  exact hm
/-- A map's block: what each variable stands for, in memory. -/
structure MapAtA (A : Nat → Prop) (P : Program) (k : TypeId) (w : World) (b n : Nat) (S : St) : Prop where
  own : ∃ D : DataW Value, w.ownsMap P k rawE b (sizeS S n) D ∧ ∀ x : Int, (S x = none → Maps.has D (kI x) = false) ∧ ∀ t, S x = some t → Maps.has D (kI x) = true ∧ ∃ v, (∀ z, D.atKey (kI x) z = .held v) ∧ IsTyA A w t v
  dom : ∀ x t, S x = some t → 0 ≤ x ∧ x < n
section
variable {P : Program} {k e T : TypeId} {w : World} {b n : Nat} {S : St}
theorem MapAtA.block (h : MapAtA A P k w b n S) : ∃ es c, w.heap[b]? = some (.map es c) := by
  obtain ⟨⟨D, ⟨es, c, hb, -⟩, -⟩, -⟩ := h
  exact ⟨es, c, hb⟩
theorem MapAtA.lt (h : MapAtA A P k w b n S) : b < w.heap.size := by
  obtain ⟨⟨D, ho, -⟩, -⟩ := h
  exact ho.lt
end
mutual
/-- Types lie in no block whose cells are no kinds. -/
theorem IsTyA.offB {A B : Nat → Prop} {w : World} (hB : ∀ p u, B p.block → w.cell? p = some u → ∀ k, u ≠ .int .u8 k) : ∀ {t : Ty} {v : Value}, IsTyA A w t v → IsTyA (fun j => A j ∨ B j) w t v
  | .mk k n l, v, h => by
    simp only [IsTyA] at h ⊢
    obtain ⟨a, len, cap, e, h1, h2, h3, h4, h5, h6, hl⟩ := h
    exact ⟨a, len, cap, e, h1, h2, h3, h4, h5, h6, IsTysA.offB hB hl⟩
theorem IsTysA.offB {A B : Nat → Prop} {w : World} (hB : ∀ p u, B p.block → w.cell? p = some u → ∀ k, u ≠ .int .u8 k) : ∀ {l : List Ty} {a : Option Addr} {len : Nat}, IsTysA A w l a len → IsTysA (fun j => A j ∨ B j) w l a len
  | [], a, len, h => by simpa only [IsTysA] using h
  | .mk k n l' :: l, a, len, h => by
    simp only [IsTysA] at h ⊢
    obtain ⟨h0, ad, c0, c1, c2, e, ha, g0, g1, g2, gt, hl⟩ := h
    refine ⟨h0, ad, c0, c1, c2, e, fun h => ?_, g0, g1, g2, IsTyA.offB hB gt, IsTysA.offB hB hl⟩
    rcases h with h | h
    · exact ha h
    · obtain ⟨_, _, _, ev, -⟩ := gt.open_
      injection ev with ev
      simp at ev
      exact hB ad c0 h g0 k ev.1
end
theorem map_nokind {w : World} {b : Nat} {es : Array MapEntry} {c : Nat} (hb : w.heap[b]? = some (.map es c)) : ∀ p u, p.block = b → w.cell? p = some u → ∀ k, u ≠ .int .u8 k := fun _ _ e h => absurd e (map_nocell hb h)
/-- A type is kept where a map's block alone turns. -/
theorem IsTyA.mapX {A : Nat → Prop} {w w' : World} {b : Nat} {es : Array MapEntry} {c : Nat} (hb : w.heap[b]? = some (.map es c)) (hx : ExtX (· = b) w w') {t : Ty} {v : Value} (h : IsTyA A w t v) : IsTyA A w' t v :=
  (h.offB (B := (· = b)) (map_nokind hb)).move (fun _ _ h => .inl h) fun _ _ hp hv => hx.cell (fun e => hp (.inr e)) hv
theorem IsTysA.mapX {A : Nat → Prop} {w w' : World} {b : Nat} {es : Array MapEntry} {c : Nat} (hb : w.heap[b]? = some (.map es c)) (hx : ExtX (· = b) w w') {l : List Ty} {a : Option Addr} {len : Nat} (h : IsTysA A w l a len) : IsTysA A w' l a len :=
  (h.offB (B := (· = b)) (map_nokind hb)).move (fun _ _ h => .inl h) fun _ _ hp hv => hx.cell (fun e => hp (.inr e)) hv
section
variable {P : Program} {k e T : TypeId} {w : World} {b n : Nat} {S : St}
/-- A map is kept where other blocks turn, and what it holds is kept. -/
theorem MapAtA.move {w' : World} (h : MapAtA A P k w b n S) (hb : w'.heap[b]? = w.heap[b]?) (ht : ∀ t v, IsTyA A w t v → IsTyA A w' t v) : MapAtA A P k w' b n S := by
  obtain ⟨⟨D, ho, hD⟩, hd⟩ := h
  exact ⟨⟨D, owns_heap ho hb, fun x => ⟨(hD x).1, fun t e => by
    obtain ⟨h1, v, h2, h3⟩ := (hD x).2 t e
    exact ⟨h1, v, h2, ht t v h3⟩⟩⟩, hd⟩
theorem MapAtA.ext {w' : World} (h : MapAtA A P k w b n S) (hx : Ext w w') : MapAtA A P k w' b n S := h.move (Below.block hx b h.lt) fun _ _ ht => ht.ext hx
/-- One map is kept where another one turns. -/
theorem MapAtA.aside {w' : World} {c m : Nat} {S' : St} (h : MapAtA A P k w b n S) (h' : MapAtA A P k w c m S') (hx : ExtX (· = c) w w') (hne : b ≠ c) : MapAtA A P k w' b n S := by
  obtain ⟨es, ck, hc⟩ := h'.block
  exact h.move (hx.block b h.lt hne) fun _ _ ht => ht.mapX hc hx
theorem MapAtA.any (h : MapAtA A P k w b n S) : MapAtA NoA P k w b n S := by
  obtain ⟨⟨D, ho, hD⟩, hd⟩ := h
  exact ⟨⟨D, ho, fun x => ⟨(hD x).1, fun t e => by
    obtain ⟨h1, v, h2, h3⟩ := (hD x).2 t e
    exact ⟨h1, v, h2, h3.any⟩⟩⟩, hd⟩
/-- Nothing lies anywhere. -/
theorem MapAtA.none_off {A' : Nat → Prop} (h : MapAtA A P k w b n (fun _ => none)) : MapAtA A' P k w b n (fun _ => none) := by
  obtain ⟨⟨D, ho, hD⟩, hd⟩ := h
  exact ⟨⟨D, ho, fun x => ⟨(hD x).1, fun t e => by cases e⟩⟩, hd⟩
/-- An empty map. -/
theorem MapAtA.made (w : World) (P : Program) (k : TypeId) (n : Nat) : MapAtA A P k (w.alloc (.map #[] 0)) w.heap.size n (fun _ => none) :=
  ⟨⟨.map [], by rw [sizeS_none]; exact World.ownsMap_made w P k rawE, fun x => ⟨fun _ => rfl, fun t e => by cases e⟩⟩, fun x t e => by cases e⟩
/-- A variable is looked up, in whatever later world. -/
theorem MapAtA.look_none (h : MapAtA A P k w b n S) (hk : P.underlying k = some (.int .i64)) (ht : P.underlying T = some (.map k e)) {z : Value} (hz : ∀ W, (zeroValue e).run P W = .ok z W) {x : Int} (hx : -9223372036854775808 ≤ x ∧ x ≤ 9223372036854775807) (hS : S x = none) : ∀ W, Ext w W → (Instr.lookup T (.map (some b)) (.int .i64 x) true).run P W = .ok (.tuple #[z, .bool false]) W := by
  intro W hW
  have h := h.ext hW
  obtain ⟨⟨D, ho, hD⟩, -⟩ := h
  have hkey : keyOf P k (.int .i64 x) = some (kI x) := keyOf_int_mk hk (WalkArith.wf_i64 (by omega))
  obtain ⟨v, ps, hrun, hv⟩ := ho.look_ok (int_keyed hk) ht (hz W) (zd := .held z) (zp := []) rfl hkey
  have hh := (hD x).1 hS
  rw [hh] at hrun
  have hat : D.atKey (kI x) (.held z) = .held z := Maps.atKey_of_not_has hh _
  rw [hat] at hv
  injection hv with hv
  injection hv with hv
  injection hv with hv
  rw [hv] at hrun
  exact hrun
theorem MapAtA.look_some (h : MapAtA A P k w b n S) (hk : P.underlying k = some (.int .i64)) (ht : P.underlying T = some (.map k e)) {z : Value} (hz : ∀ W, (zeroValue e).run P W = .ok z W) {x : Int} (hx : -9223372036854775808 ≤ x ∧ x ≤ 9223372036854775807) {t : Ty} (hS : S x = some t) : ∃ v, IsTyA A w t v ∧ ∀ W, Ext w W → (Instr.lookup T (.map (some b)) (.int .i64 x) true).run P W = .ok (.tuple #[v, .bool true]) W := by
  obtain ⟨⟨D, ho, hD⟩, -⟩ := h
  have hkey : keyOf P k (.int .i64 x) = some (kI x) := keyOf_int_mk hk (WalkArith.wf_i64 (by omega))
  obtain ⟨hh, v', hat, hty⟩ := (hD x).2 t hS
  refine ⟨v', hty, fun W hW => ?_⟩
  obtain ⟨v, ps, hrun, hv⟩ := (owns_heap ho (Below.block hW b ho.lt)).look_ok (int_keyed hk) ht (hz W) (zd := .held z) (zp := []) rfl hkey
  rw [hh] at hrun
  rw [hat] at hv
  injection hv with hv
  injection hv with hv
  injection hv with hv
  rw [hv] at hrun
  exact hrun
/-- A variable stands for a type from now on. -/
theorem MapAtA.put (h : MapAtA A P k w b n S) (hn : n ≤ 1000000) (hk : P.underlying k = some (.int .i64)) (ht : P.underlying T = some (.map k e)) {y : Int} (h0 : 0 ≤ y) (h1 : y < n) {t : Ty} {v : Value} (hv : IsTyA A w t v) :
    ∃ w', (Instr.mapUpdate T (.map (some b)) (.int .i64 y) v).run P w = .ok () w' ∧ MapAtA A P k w' b n (S.put y t) ∧ ExtX (· = b) w w' := by
  obtain ⟨es, ck, hb⟩ := h.block
  have hs := sizeS_le S n
  obtain ⟨⟨D, ho, hD⟩, hd⟩ := h
  have hkey : keyOf P k (.int .i64 y) = some (kI y) := keyOf_int_mk hk (WalkArith.wf_i64 (by omega))
  obtain ⟨w', hrun, ho', hg⟩ := ho.update (int_keyed hk) ht (by unfold maxLen; omega) (d := .held v) (ps := []) hkey rfl
  have hx : ExtX (· = b) w w' := ⟨hg.os, hg.tape, hg.output, hg.size, fun j hj e => hg.block j hj (fun e' => e (by injection e'))⟩
  have hsz := Maps.size_put (k := kI y) (ho.tidy (int_keyed hk)) (.held v)
  have hle := ho.size_le
  refine ⟨w', hrun, ⟨⟨_, owns_tight ho' (m := sizeS (S.put y t) n) ?_, fun x => ?_⟩, fun x u e => ?_⟩, hx⟩
  · rw [hsz, sizeS_put t h0 h1]
    cases hS : S y with
    | none =>
      rw [(hD y).1 hS]
      simp
      omega
    | some u =>
      rw [((hD y).2 u hS).1]
      simpa using hle
  · by_cases e : x = y
    · subst e
      refine ⟨fun h => (by rw [St.put_at] at h; cases h), fun u hu => ?_⟩
      rw [St.put_at] at hu
      cases hu
      exact ⟨Maps.has_put_same ho.isMap (kI_key x) _, v, fun z => Maps.atKey_put_same ho.isMap (kI_key x) _ z, hv.mapX hb hx⟩
    · rw [St.put_off S e]
      refine ⟨fun h => ?_, fun u hu => ?_⟩
      · rw [Maps.has_put_other (kI_ne e)]
        exact (hD x).1 h
      · obtain ⟨g1, v', g2, g3⟩ := (hD x).2 u hu
        exact ⟨by rw [Maps.has_put_other (kI_ne e)]; exact g1, v', fun z => by rw [Maps.atKey_put_other (kI_ne e)]; exact g2 z, g3.mapX hb hx⟩
  · by_cases e' : x = y
    · subst e'
      exact ⟨h0, h1⟩
    · rw [St.put_off S e'] at e
      exact hd x u e
/-- More variables. -/
theorem MapAtA.more (h : MapAtA A P k w b n S) {m : Nat} (hm : n ≤ m) : MapAtA A P k w b m S := by
  obtain ⟨⟨D, ho, hD⟩, hd⟩ := h
  refine ⟨⟨D, owns_tight ho (Nat.le_trans ho.size_le ?_), hD⟩, fun x t e => by have := hd x t e; omega⟩
  induction hm with
  | refl => exact Nat.le_refl _
  | step _ ih => rw [sizeS_succ]; omega
end
/-- 'm[k] = t' at the operation. -/
theorem wpList_book {P : Program} (w : World) {ops : Array Oper} {rest : List Oper} {o : Oper} {a : Act} {Q : Exit → Act → World → Prop}
    (hg : o.guard = none) (m x v : Operand) (T : TypeId) (hop : o.op = Op.mapUpdate T m x v) (k e : TypeId) (hk : P.underlying k = some (.int .i64)) (ht : P.underlying T = some (.map k e)) (b n : Nat) (S : St) (hm : a.eval m = .map (some b)) (hM : MapAtA A P k w b n S) (hn : n ≤ 1000000)
    (y : Int) (val : Value) (t : Ty) (hx : a.eval x = .int .i64 y) (hv : a.eval v = val) (h0 : 0 ≤ y) (h1 : y < n) (hty : IsTyA A w t val)
    (hK : ∀ w', MapAtA A P k w' b n (S.put y t) → ExtX (· = b) w w' → wpList P ops Q rest (a.put o.dst undef) w') : wpList P ops Q (o :: rest) a w := by
  refine wpList_plain hg fun K' hK' => ?_
  obtain ⟨w', hrun, r1, r2⟩ := hM.put hn hk ht h0 h1 hty
  unfold Oper.wp
  simp [execOp, hop, hm, hx, hv, hrun, Result.andThen]
  exact hK' _ _ (hK w' r1 r2)
theorem wp_book {P : Program} {w : World} {o : Oper} {a : Act} {K : Act → World → Prop} {Q : Exit → Act → World → Prop} (m x v : Operand) (T : TypeId) (hop : o.op = Op.mapUpdate T m x v) (k e : TypeId) (hk : P.underlying k = some (.int .i64)) (ht : P.underlying T = some (.map k e)) (b n : Nat) (S : St) (hm : a.eval m = .map (some b)) (hM : MapAtA A P k w b n S) (hn : n ≤ 1000000)
    (y : Int) (val : Value) (t : Ty) (hx : a.eval x = .int .i64 y) (hv : a.eval v = val) (h0 : 0 ≤ y) (h1 : y < n) (hty : IsTyA A w t val)
    (hK : ∀ w', MapAtA A P k w' b n (S.put y t) → ExtX (· = b) w w' → K (a.put o.dst undef) w') : o.wp P a w K Q := by
  obtain ⟨w', hrun, r1, r2⟩ := hM.put hn hk ht h0 h1 hty
  unfold Oper.wp
  simp [execOp, hop, hm, hx, hv, hrun, Result.andThen]
  exact hK w' r1 r2
/-- A map of marks: which variables were met. -/
structure MetAt (P : Program) (k : TypeId) (w : World) (b n : Nat) (M : List Int) : Prop where
  own : ∃ (D : DataW Value) (c : Nat), w.ownsMap P k rawE b c D ∧ c + unmet M n ≤ n ∧ ∀ x : Int, D.atKey (kI x) (.held (.bool false)) = .held (.bool (decide (x ∈ M)))
section
variable {P : Program} {k e T : TypeId} {w : World} {b n : Nat} {M : List Int}
theorem MetAt.block (h : MetAt P k w b n M) : ∃ es c, w.heap[b]? = some (.map es c) := by
  obtain ⟨D, c, ⟨es, ck, hb, -⟩, -⟩ := h.own
  exact ⟨es, ck, hb⟩
theorem MetAt.lt (h : MetAt P k w b n M) : b < w.heap.size := by
  obtain ⟨D, c, ho, -⟩ := h.own
  exact ho.lt
theorem MetAt.move {w' : World} (h : MetAt P k w b n M) (hb : w'.heap[b]? = w.heap[b]?) : MetAt P k w' b n M := by
  obtain ⟨D, c, ho, hc, hD⟩ := h.own
  exact ⟨D, c, owns_heap ho hb, hc, hD⟩
theorem MetAt.ext {w' : World} (h : MetAt P k w b n M) (hx : Ext w w') : MetAt P k w' b n M := h.move (Below.block hx b h.lt)
theorem MetAt.made (w : World) (P : Program) (k : TypeId) (n : Nat) : MetAt P k (w.alloc (.map #[] 0)) w.heap.size n [] :=
  ⟨.map [], 0, World.ownsMap_made w P k rawE, by have := unmet_le [] n; omega, fun x => rfl⟩
theorem MetAt.look (h : MetAt P k w b n M) (hk : P.underlying k = some (.int .i64)) (ht : P.underlying T = some (.map k e)) (hz : ∀ W, (zeroValue e).run P W = .ok (.bool false) W) {x : Int} (hx : -9223372036854775808 ≤ x ∧ x ≤ 9223372036854775807) : ∀ W, Ext w W → (Instr.lookup T (.map (some b)) (.int .i64 x) false).run P W = .ok (.bool (decide (x ∈ M))) W := by
  intro W hW
  obtain ⟨D, c, ho, -, hD⟩ := (h.ext hW).own
  have hkey : keyOf P k (.int .i64 x) = some (kI x) := keyOf_int_mk hk (WalkArith.wf_i64 (by omega))
  obtain ⟨v, ps, hrun, hv⟩ := ho.lookup (int_keyed hk) ht (hz W) (zd := .held (.bool false)) (zp := []) rfl hkey
  rw [hD x] at hv
  injection hv with hv
  injection hv with hv
  injection hv with hv
  rw [hv] at hrun
  exact hrun
theorem MetAt.put (h : MetAt P k w b n M) (hn : n ≤ 1000000) (hk : P.underlying k = some (.int .i64)) (ht : P.underlying T = some (.map k e)) {y : Int} (h0 : 0 ≤ y) (h1 : y < n) (hm : y ∉ M) :
    ∃ w', (Instr.mapUpdate T (.map (some b)) (.int .i64 y) (.bool true)).run P w = .ok () w' ∧ MetAt P k w' b n (y :: M) ∧ ExtX (· = b) w w' := by
  obtain ⟨D, c, ho, hc, hD⟩ := h.own
  have hkey : keyOf P k (.int .i64 y) = some (kI y) := keyOf_int_mk hk (WalkArith.wf_i64 (by omega))
  have hu := unmet_put (M := M) h0 h1 hm
  obtain ⟨w', hrun, ho', hg⟩ := ho.update (int_keyed hk) ht (by unfold maxLen; omega) (d := .held (.bool true)) (ps := []) hkey rfl
  have hx : ExtX (· = b) w w' := ⟨hg.os, hg.tape, hg.output, hg.size, fun j hj e => hg.block j hj (fun e' => e (by injection e'))⟩
  refine ⟨w', hrun, ⟨_, c + 1, ho', by omega, fun x => ?_⟩, hx⟩
  by_cases e : x = y
  · subst e
    rw [Maps.atKey_put_same ho.isMap (kI_key x)]
    simp
  · rw [Maps.atKey_put_other (kI_ne e), hD x]
    simp [e]
end
/-- 'met[k] = true' at the operation. -/
theorem wpList_met {P : Program} (w : World) {ops : Array Oper} {rest : List Oper} {o : Oper} {a : Act} {Q : Exit → Act → World → Prop}
    (hg : o.guard = none) (m x v : Operand) (T : TypeId) (hop : o.op = Op.mapUpdate T m x v) (k e : TypeId) (hk : P.underlying k = some (.int .i64)) (ht : P.underlying T = some (.map k e)) (b n : Nat) (M : List Int) (hm : a.eval m = .map (some b)) (hM : MetAt P k w b n M) (hn : n ≤ 1000000)
    (y : Int) (hx : a.eval x = .int .i64 y) (hv : a.eval v = .bool true) (h0 : 0 ≤ y) (h1 : y < n) (hy : y ∉ M)
    (hK : ∀ w', MetAt P k w' b n (y :: M) → ExtX (· = b) w w' → wpList P ops Q rest (a.put o.dst undef) w') : wpList P ops Q (o :: rest) a w := by
  refine wpList_plain hg fun K' hK' => ?_
  obtain ⟨w', hrun, r1, r2⟩ := hM.put hn hk ht h0 h1 hy
  unfold Oper.wp
  simp [execOp, hop, hm, hx, hv, hrun, Result.andThen]
  exact hK' _ _ (hK w' r1 r2)
end Go.Proofs.Ytkjjbackkipfdaa

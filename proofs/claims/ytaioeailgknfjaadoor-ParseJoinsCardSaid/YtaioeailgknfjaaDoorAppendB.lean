/- append of a row of bytes behind a constant's row, or an own one. -/
import Derived.Test.YtaioeailgknfjaaDoorAppend
import Derived.Test.YtaioeailgknfjaaDoorRowMem
namespace Go.Proofs.YtaioeailgknfjaaDoor
open Go Go.RowKit Go.Sort
section
variable {P : Program}
theorem run_append_orB {w : World} (base : Nat) (t ty e : TypeId) (i : TypeInfo) (ht : P.underlying t = some (.slice e)) (hi : P.info? e = some i) (hz : i.zero = some (.int .u8 0))
    (hsize : i.size = 1) (hby : i.bytes = 1) (v : Value) (n : Nat) (xs : List Value) (hown : ownsOr w base e v n xs) (a : Option Addr) (m c : Nat) (news : List Value) (hnews : IsRow w news a m) (h1 : ∀ u ∈ news, u.oneCell' = true)
    (hn : n + m ≤ 1000000) (hbase : base ≤ w.heap.size) :
    ∃ v' w', (Builtin.append_ #[t, t] ty #[v, .slice a m c]).run P w = .ok v' w' ∧ ownsOr w' base e v' (n + m) (xs ++ news) ∧ ∀ w0, Ext w0 w → w0.heap.size ≤ base → Ext w0 w' := by
  have hm := hnews.1
  by_cases h0 : m = 0
  · subst h0
    have : news = [] := List.eq_nil_of_length_eq_zero hm.symm
    subst this
    rw [List.append_nil]
    refine ⟨v, w, ?_, hown, fun w0 h _ => h⟩
    have hv : ∃ b s cp, v = .slice b s cp ∧ s ≤ cp := by
      rcases hown with hown | ⟨-, -, rfl, -⟩
      · rcases hown.2 with ⟨rfl, -⟩ | ⟨g, cap, cur, rfl, -, -, hc, -⟩
        · exact ⟨_, _, _, rfl, Nat.le_refl _⟩
        · exact ⟨_, _, _, rfl, hc⟩
      · exact ⟨_, _, _, rfl, Nat.le_refl _⟩
    obtain ⟨b, s, cp, rfl, hle⟩ := hv
    cases b <;> cases a <;> simp [Builtin.append_, run_underlying ht, sizeOf, typeInfo, hi, Builtin.lenOf, Builtin.firstCells, hle, storeCells, loadCells, loadCellsFrom]
  obtain ⟨x0, hx0⟩ : ∃ x, news[0]? = some x := ⟨_, List.getElem?_eq_getElem (by omega)⟩
  obtain ⟨b, o, rfl, -⟩ := hnews.2 0 x0 hx0
  have hcells : ∀ j u, news[j]? = some u → w.cell? ((⟨b, o, none⟩ : Addr).add j) = some u := fun j u hj => by
    obtain ⟨b', o', e', q⟩ := hnews.2 j u hj
    cases e'
    rw [Addr.add_lit]
    exact q
  have hz1 : (Value.int IntKind.u8 0).cells.size = 1 := rfl
  rcases hown with hown | ⟨hxl, hlt, rfl, holds⟩
  · obtain ⟨v', w', hr, h2, h3, -⟩ := run_append_own (P := P) w base t ty e i (.int .u8 0) 1 1 ht hi hz hsize hby hz1 (by omega) v n xs hown ⟨b, o, none⟩ m c news (by omega) hcells h1 (by unfold maxLen; omega) (by omega) hbase
    refine ⟨v', w', hr, .inl h2, fun w0 h0 hb => ext_grown h3 h0 fun k hk => ?_⟩
    rcases hown.2 with ⟨rfl, -⟩ | ⟨g, cap, cur, rfl, hbg, -⟩
    · cases hk
    · cases hk
      exact Nat.le_trans hb hbg
  · have hr := run_append_grow (P := P) w t ty e i (.int .u8 0) ht hi hz ⟨base, 0, none⟩ n n xs (by rw [hsize]; omega) (fun j x h => by rw [Addr.add_lit, Nat.zero_add]; exact holds j x h) ⟨b, o, none⟩ m c news (by rw [hsize]; omega) hcells (by omega) (by omega) (by rw [hby]; exact growslice_fits (by omega) (by omega))
    have hge := grownCap_ge w (n + m) n e
    have hcm : grownCap w (n + m) n e ≤ maxLen := grownCap_le_maxLen w (n + m) n e (by unfold maxLen; omega)
    have hlen : (xs ++ news).length = (n + m) * 1 := by rw [List.length_append, hxl, ← hm, Nat.mul_one]
    refine ⟨_, _, hr, .inl ⟨hlen, .inr ⟨w.heap.size, _, _, rfl, hbase, heap_alloc_new w.drew _, hge, hcm, ?_, ?_⟩⟩, fun w0 h0 _ => (h0.drew).alloc _⟩
    · simp only [Array.size_append, List.size_toArray, size_zeroCells, hz1, hxl, ← hm]
      omega
    · simp only [Array.toList_append, List.append_assoc]
      rw [← List.append_assoc, ← hlen]
      exact List.take_left
theorem wpList_append_orB {w : World} {ops : Array Oper} {rest : List Oper} {o : Oper} {a : Act} {Q : Exit → Act → World → Prop} (hgd : o.guard = none) (sl x : Operand) (t : TypeId)
    (ho : o.op = .call { callee := .builtin .append, args := #[sl, x], argTypes := #[t, t] })
    (base : Nat) (e : TypeId) (i : TypeInfo) (ht : P.underlying t = some (.slice e)) (hi : P.info? e = some i) (hz : i.zero = some (.int .u8 0))
    (hsize : i.size = 1) (hby : i.bytes = 1)
    (v : Value) (n : Nat) (xs : List Value) (hs : a.eval sl = v) (hown : ownsOr w base e v n xs) (ad : Option Addr) (m c : Nat) (news : List Value) (hx : a.eval x = .slice ad m c) (hnews : IsRow w news ad m) (h1 : ∀ u ∈ news, u.oneCell' = true) (hn : n + m ≤ 1000000) (hbase : base ≤ w.heap.size)
    (h : ∀ v' w', ownsOr w' base e v' (n + m) (xs ++ news) → (∀ w0, Ext w0 w → w0.heap.size ≤ base → Ext w0 w') → wpList P ops Q rest (a.put o.dst v') w') : wpList P ops Q (o :: rest) a w := by
  refine wpList_plain hgd fun K hK => ?_
  obtain ⟨v', w', hr, h2, h3⟩ := run_append_orB (P := P) base t o.type e i ht hi hz hsize hby v n xs hown ad m c news hnews h1 hn hbase
  unfold Oper.wp execOp
  simp only [ho, resolve, invoke, builtin, Sem.run_bind, Sem.run_pure, Result.andThen_ok, List.map_toArray, List.map_cons, List.map_nil, hs, hx, hr]
  exact hK _ _ (h v' w' h2 h3)
end
end Go.Proofs.YtaioeailgknfjaaDoor

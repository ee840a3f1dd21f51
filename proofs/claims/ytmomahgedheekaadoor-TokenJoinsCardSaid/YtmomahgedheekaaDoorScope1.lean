/- Rows of names: the walks of Contains, In, with, on both sides. The names that are bound in a kid: the walks of names.inner and enclaveref07.Bound; names.free, raises. -/
import Derived.Test.YtmomahgedheekaaDoorStrs
import Derived.Test.YtmomahgedheekaaDoorWords2
import Derived.Test.YtmomahgedheekaaDoorPureS
import Derived.ArgAppend
import Derived.Test.YtmomahgedheekaaDoorHeld
namespace Go.Proofs.YtmomahgedheekaaDoor
open Go Go.RowKit Go.Sort

set_option maxHeartbeats 400000 in
theorem strs_contains (x : ByteArray) (l : List ByteArray) (w : World) (a : Option Addr) (len cap : Nat) (h1 : len ≤ cap) (h2 : cap ≤ 9223372036854775807) (hl : IsRow w (vstr l) a len) :
    Calls Tryd.prog 60 #[.slice a len cap, .string x] w fun e w' => e = .returned (.bool (inB l x)) ∧ Ext w w' := by
  have HF : Hid (decide (0 ≤ fidx (fun y : ByteArray => x.toList == y.toList) l) = inB l x) := Lib.hid (fidx_nonneg _ l)
  have HI := Lib.hid (strs_index x l w a len cap h1 h2 hl)
  clear hl
  go_enter Tryd.func60, Tryd.ntmps60
  go_wp2_with (go_at_call 71; refine HI.out.mono ?_; rintro e w1 ⟨rfl, x1⟩)
  go_ret
  exact ⟨ret_bool HF.out, x1⟩

set_option maxHeartbeats 400000 in
theorem names_index (x : ByteArray) (l : List ByteArray) (w : World) (a : Option Addr) (len cap : Nat) (h1 : len ≤ cap) (h2 : cap ≤ 9223372036854775807) (hl : IsRow w (vstr l) a len) :
    Calls Tryd.prog 122 #[.slice a len cap, .string x] w fun e w' => e = .returned (.int .i64 (fidx (fun y => x.toList == y.toList) l)) ∧ Ext w w' := by
  have hll := hl.1
  rw [vstr_length] at hll
  have HL := Lib.hid hll
  have HR := Lib.hid hl
  clear hll hl
  go_enter Tryd.func122, Tryd.ntmps122
  go_wp2_with fail
  go_loopg [8] len (fun g i wr => ∃ j : Nat, g = len - j ∧ j ≤ len ∧ i = .int .i64 j ∧ (∀ t, t ∈ l.take j → (x.toList == t.toList) = false) ∧ wr = w)
  case atStart => exact ⟨0, by omega, by omega, rfl, by simp, rfl⟩
  case round =>
    obtain ⟨j, rfl, hj, rfl, hto, rfl⟩ := hrel
    have HT := Lib.hid hto
    clear hto
    by_cases hlt : j < len
    · obtain ⟨t, b, o, g, rfl, q⟩ := HR.out.str hlt
      have G := Lib.hid g
      clear g
      cases hr : (x.toList == t.toList)
      · have HX := Lib.hid hr
        go_wp2_with fail
        go_roundg (len - (j + 1))
        case rel =>
          refine ⟨j + 1, rfl, by omega, by go_num, ?_, rfl⟩
          intro y hy
          rw [List.take_add_one, G.out] at hy
          simp only [List.mem_append, Option.toList_some, List.mem_singleton] at hy
          rcases hy with hy | rfl
          · exact HT.out y hy
          · exact HX.out
        case measure => omega
      · have HX := Lib.hid hr
        go_wp2_with fail
        go_ret
        exact ⟨ret_int (fidx_at (q := fun y : ByteArray => x.toList == y.toList) HT.out G.out HX.out).symm, Ext.refl _⟩
    · obtain rfl : j = len := by omega
      go_wp2_with fail
      go_ret
      have h0 := HT.out
      rw [List.take_of_length_le (by rw [← HL.out]; omega)] at h0
      exact ⟨ret_int (fidx_none (q := fun y : ByteArray => x.toList == y.toList) h0).symm, Ext.refl _⟩
set_option maxHeartbeats 400000 in
theorem names_contains (x : ByteArray) (l : List ByteArray) (w : World) (a : Option Addr) (len cap : Nat) (h1 : len ≤ cap) (h2 : cap ≤ 9223372036854775807) (hl : IsRow w (vstr l) a len) :
    Calls Tryd.prog 91 #[.slice a len cap, .string x] w fun e w' => e = .returned (.bool (inB l x)) ∧ Ext w w' := by
  have HF : Hid (decide (0 ≤ fidx (fun y : ByteArray => x.toList == y.toList) l) = inB l x) := Lib.hid (fidx_nonneg _ l)
  have HI := Lib.hid (names_index x l w a len cap h1 h2 hl)
  clear hl
  go_enter Tryd.func91, Tryd.ntmps91
  go_wp2_with (go_at_call 122; refine HI.out.mono ?_; rintro e w1 ⟨rfl, x1⟩)
  go_ret
  exact ⟨ret_bool HF.out, x1⟩
theorem inB_none {l : List ByteArray} {x : ByteArray} (h : ∀ t, t ∈ l → (t.toList == x.toList) = false) : inB l x = false := by
  unfold inB
  rw [List.any_eq_false]
  intro t ht
  rw [Bool.beq_comm, h t ht]
  simp
theorem inB_at {l : List ByteArray} {x t : ByteArray} {j : Nat} (g : l[j]? = some t) (h : (t.toList == x.toList) = true) : inB l x = true := by
  unfold inB
  rw [List.any_eq_true]
  exact ⟨t, List.mem_of_getElem? g, by rw [Bool.beq_comm]; exact h⟩
set_option maxHeartbeats 400000 in
theorem ref7_in (x : ByteArray) (l : List ByteArray) (w : World) (a : Option Addr) (len cap : Nat) (h1 : len ≤ cap) (h2 : cap ≤ 9223372036854775807) (hl : IsRow w (vstr l) a len) :
    Calls Tryd.prog 36 #[.slice a len cap, .string x] w fun e w' => e = .returned (.bool (inB l x)) ∧ Ext w w' := by
  have hll := hl.1
  rw [vstr_length] at hll
  have HL := Lib.hid hll
  have HR := Lib.hid hl
  clear hll hl
  go_enter Tryd.func36, Tryd.ntmps36
  go_wp2_with fail
  go_loopg [8] len (fun g i wr => ∃ j : Nat, g = len - j ∧ j ≤ len ∧ i = .int .i64 j ∧ (∀ t, t ∈ l.take j → (t.toList == x.toList) = false) ∧ wr = w)
  case atStart => exact ⟨0, by omega, by omega, rfl, by simp, rfl⟩
  case round =>
    obtain ⟨j, rfl, hj, rfl, hto, rfl⟩ := hrel
    have HT := Lib.hid hto
    clear hto
    by_cases hlt : j < len
    · obtain ⟨t, b, o, g, rfl, q⟩ := HR.out.str hlt
      have G := Lib.hid g
      clear g
      cases hr : (t.toList == x.toList)
      · have HX := Lib.hid hr
        go_wp2_with fail
        go_roundg (len - (j + 1))
        case rel =>
          refine ⟨j + 1, rfl, by omega, by go_num, ?_, rfl⟩
          intro y hy
          rw [List.take_add_one, G.out] at hy
          simp only [List.mem_append, Option.toList_some, List.mem_singleton] at hy
          rcases hy with hy | rfl
          · exact HT.out y hy
          · exact HX.out
        case measure => omega
      · have HX := Lib.hid hr
        go_wp2_with fail
        go_ret
        exact ⟨ret_bool (inB_at G.out HX.out).symm, Ext.refl _⟩
    · obtain rfl : j = len := by omega
      go_wp2_with fail
      go_ret
      have h0 := HT.out
      rw [List.take_of_length_le (by rw [← HL.out]; omega)] at h0
      exact ⟨ret_bool (inB_none h0).symm, Ext.refl _⟩

/-- A row of names in memory, in none of the blocks A. -/
structure Nm (A : Nat → Prop) (w : World) (bd : List ByteArray) (a : Option Addr) (n cap : Nat) : Prop where
  le : n ≤ cap
  max : cap ≤ 9223372036854775807
  nil : a = none → n = 0 ∧ cap = 0
  row : IsRow w (vstr bd) a n
  off : ∀ p, a = some p → ¬ A p.block ∧ p.block < w.heap.size ∧ p.spot = none
theorem Nm.length {A : Nat → Prop} {w : World} {bd : List ByteArray} {a : Option Addr} {n cap : Nat} (h : Nm A w bd a n cap) : n = bd.length := by
  have := h.row.1
  rwa [vstr_length] at this
theorem Nm.ext {A : Nat → Prop} {w w' : World} (hx : Ext w w') {bd : List ByteArray} {a : Option Addr} {n cap : Nat} (h : Nm A w bd a n cap) : Nm A w' bd a n cap :=
  ⟨h.le, h.max, h.nil, h.row.ext hx, fun p hp => ⟨(h.off p hp).1, Nat.lt_of_lt_of_le (h.off p hp).2.1 hx.size, (h.off p hp).2.2⟩⟩
theorem Nm.off_ {A A' : Nat → Prop} {w : World} {bd : List ByteArray} {a : Option Addr} {n cap : Nat} (hA : ∀ k, A' k → A k) (h : Nm A w bd a n cap) : Nm A' w bd a n cap :=
  ⟨h.le, h.max, h.nil, h.row, fun p hp => ⟨fun h' => (h.off p hp).1 (hA _ h'), (h.off p hp).2⟩⟩
theorem Nm.none_ (A : Nat → Prop) (w : World) : Nm A w [] none 0 0 := ⟨Nat.le_refl _, by omega, fun _ => ⟨rfl, rfl⟩, IsRow.nil _ _, by simp⟩
/-- What hands back a row of names. -/
def RetNm (A : Nat → Prop) (bd : List ByteArray) (w : World) (e : Ending) (w' : World) : Prop := ∃ a n cap, e = .returned (.slice a n cap) ∧ Nm A w' bd a n cap ∧ Ext w w'
theorem nm_owned {A : Nat → Prop} {w w' : World} {e : TypeId} {v : Value} {n : Nat} {bd : List ByteArray} (h : w'.ownsRow w.heap.size e 1 v n (vstr bd)) (hA : ∀ k, A k → k < w.heap.size) :
    ∃ a cap, v = .slice a n cap ∧ Nm A w' bd a n cap := by
  obtain ⟨a, cap, rfl, g1, g2, g3⟩ := owns_row1 h
  refine ⟨a, cap, rfl, g1, g2, ?_, g3, ?_⟩
  · rintro rfl
    rcases h.2 with ⟨e, h0⟩ | ⟨g, c, cur, e, _⟩
    · cases e; exact ⟨rfl, rfl⟩
    · cases e
  · rintro p rfl
    rcases h.2 with ⟨e, h0⟩ | ⟨g, c, cur, e, hg, _⟩
    · cases e
    · cases e
      have := h.lt g rfl
      exact ⟨fun h' => by have := hA g h'; omega, this.2, rfl⟩
section
variable {P : Program}
/-- append of a row of another name. -/
theorem append_types (w : World) (t u ty e : TypeId) (ht : P.underlying t = some (.slice e)) (hu : P.underlying u = some (.slice e)) (a b : Option Addr) (n c m d : Nat) :
    (Builtin.append_ #[t, u] ty #[.slice a n c, .slice b m d]).run P w = (Builtin.append_ #[t, t] ty #[.slice a n c, .slice b m d]).run P w := by
  simp [Builtin.append_, run_underlying ht, run_underlying hu]
theorem wpList_append_run {w : World} {ops : Array Oper} {rest : List Oper} {o : Oper} {a : Act} {Q : Exit → Act → World → Prop} (hgd : o.guard = none) (s x : Operand) (t u : TypeId)
    (ho : o.op = .call { callee := .builtin .append, args := #[s, x], argTypes := #[t, u] }) (v1 v2 : Value) (hs : a.eval s = v1) (hx : a.eval x = v2) (v' : Value) (w' : World)
    (hr : (Builtin.append_ #[t, u] o.type #[v1, v2]).run P w = .ok v' w') (h : wpList P ops Q rest (a.put o.dst v') w') : wpList P ops Q (o :: rest) a w := by
  refine wpList_plain hgd fun K hK => ?_
  unfold Oper.wp execOp
  simp only [ho, resolve, invoke, builtin, Sem.run_bind, Sem.run_pure, Result.andThen_ok, List.map_toArray, List.map_cons, List.map_nil, hs, hx, hr]
  exact hK _ _ h
end
/-- More names: a new row. -/
theorem names_grow {A : Nat → Prop} {w : World} {bd more : List ByteArray} {a : Option Addr} {n cap : Nat} (h : Nm A w bd a n cap) (ty : TypeId) (b c : Nat) (hrow : IsRow w (vstr more) (some ⟨b, 0, none⟩) more.length) (hm : 0 < more.length) (hlen : bd.length + more.length ≤ 1000000) :
    ∃ v' w', (Builtin.append_ #[86, 51] ty #[.slice a n n, .slice (some ⟨b, 0, none⟩) more.length c]).run Tryd.prog w = .ok v' w' ∧ w'.ownsRow w.heap.size 9 1 v' (n + more.length) (vstr (bd ++ more)) ∧ Ext w w' := by
  obtain ⟨i0, hi, hz0, hz1, hz2⟩ := info_parts infoStr
  have hn := h.length
  have hnews : ∀ j u, (vstr more)[j]? = some u → w.cell? ((⟨b, 0, none⟩ : Addr).add j) = some u := fun j u hu => by
    obtain ⟨b', o', e, q⟩ := hrow.2 j u hu
    cases e
    rw [Addr.add_lit]
    exact q
  have happ : vstr (bd ++ more) = vstr bd ++ vstr more := by simp [vstr]
  rw [append_types w _ _ ty 9 Tryd.underlying86 Tryd.underlying51 _ _ _ _ _ _, happ]
  cases a with
  | some p =>
    obtain ⟨bp, op, sp⟩ := p
    have hsp := (h.off _ rfl).2.2
    simp only at hsp
    subst hsp
    obtain ⟨v', w', h1, h2, h3⟩ := run_append_arg_grows (P := Tryd.prog) w 86 ty 9 i0 (.string ByteArray.empty) 1 16 Tryd.underlying86 hi hz0 hz1 hz2 rfl (by decide) ⟨bp, op, none⟩ n n (vstr bd) (by rw [vstr_length]; omega) (fun j u hu => by
      obtain ⟨b', o', e, q⟩ := h.row.2 j u hu
      cases e
      rw [Addr.add_lit]
      exact q) ⟨b, 0, none⟩ more.length c (vstr more) (by rw [vstr_length]; omega) hnews (by omega) (by unfold maxLen; omega) (by omega)
    exact ⟨v', w', h1, h2, ext_grown h3 (Ext.refl _) (by simp)⟩
  | none =>
    obtain ⟨rfl, _⟩ := h.nil rfl
    obtain rfl : bd = [] := List.eq_nil_of_length_eq_zero hn.symm
    obtain ⟨v', w', h1, h2, h3, _⟩ := run_append_own (P := Tryd.prog) w w.heap.size 86 ty 9 i0 (.string ByteArray.empty) 1 16 Tryd.underlying86 hi hz0 hz1 hz2 rfl (by decide) (.slice none 0 0) 0 [] (World.ownsRow_nil w _ _ _) ⟨b, 0, none⟩ more.length c (vstr more) (by rw [vstr_length]; omega) hnews (fun u hu => by
      unfold vstr at hu
      obtain ⟨y, _, rfl⟩ := List.mem_map.1 hu
      rfl) (by unfold maxLen; simp at hlen; omega) (by simp at hlen; omega) (Nat.le_refl _)
    exact ⟨v', w', h1, h2, ext_grown h3 (Ext.refl _) (by simp [Value.ownBlock])⟩
set_option maxHeartbeats 1000000 in
theorem names_with {A : Nat → Prop} (bd more : List ByteArray) (w : World) (a : Option Addr) (n cap b c : Nat) (h : Nm A w bd a n cap) (hA : ∀ k, A k → k < w.heap.size) (hrow : IsRow w (vstr more) (some ⟨b, 0, none⟩) more.length) (hm : 0 < more.length) (hlen : bd.length + more.length ≤ 1000000) :
    Calls Tryd.prog 121 #[.slice a n cap, .slice (some ⟨b, 0, none⟩) more.length c] w (RetNm A (bd ++ more) w) := by
  have hle := h.le
  have hmax := h.max
  obtain ⟨v', w', hr, ho, hx⟩ := names_grow h 86 b c hrow hm hlen
  obtain ⟨a', cap', rfl, hN⟩ := nm_owned ho hA
  have HC : Hid (Calls Tryd.prog 142 #[.slice a n cap] w fun e w' => e = .returned (.slice a n n) ∧ w' = w) := by
    show Calls Tryd.prog 142 _ _ _
    clear hr ho hx hN
    go_enter Tryd.func142, Tryd.ntmps142
    go_wp2_with fail
    go_ret
    exact ⟨rfl, rfl⟩
  have HR := Lib.hid hr
  have HN := Lib.hid hN
  clear hr ho hN h hrow
  go_enter Tryd.func121, Tryd.ntmps121
  go_wp2_with (first | (go_at_call 142; refine HC.out.mono ?_; rintro e w1 ⟨rfl, rfl⟩) | (at_builtin; refine wpList_append_run rfl (.tmp 6) (.tmp 7) 86 51 rfl _ _ rfl rfl _ _ HR.out ?_))
  go_ret
  exact ⟨_, _, _, rfl, HN.out, hx⟩
end Go.Proofs.YtmomahgedheekaaDoor
namespace Go.Proofs.YtmomahgedheekaaDoor
open Go Go.RowKit Go.Sort

theorem nm_owned_some {A : Nat → Prop} {w w' : World} {e : TypeId} {v : Value} {n : Nat} {bd : List ByteArray} (h : w'.ownsRow w.heap.size e 1 v n (vstr bd)) (hA : ∀ k, A k → k < w.heap.size) (hn : 0 < n) :
    ∃ p cap, v = .slice (some p) n cap ∧ Nm A w' bd (some p) n cap := by
  obtain ⟨a, cap, rfl, hN⟩ := nm_owned h hA
  cases a with
  | some p => exact ⟨p, cap, rfl, hN⟩
  | none => have := (hN.nil rfl).1; omega
/-- What hands back a row of names that isn't nil. -/
def RetNms (A : Nat → Prop) (bd : List ByteArray) (w : World) (e : Ending) (w' : World) : Prop := ∃ p n cap, e = .returned (.slice (some p) n cap) ∧ Nm A w' bd (some p) n cap ∧ Ext w w'

/-- A term's box. -/
def tbox (x : Hd) (a : Option Addr) (len cap : Nat) : Obj := .cells #[.int .u8 x.k, .int .u8 x.op, .int .i64 x.pos, .int .i64 x.n, .string x.name, .string x.arg, .string x.exn, .slice a len cap] 41
theorem row_one (w : World) (o : Obj) (s : ByteArray) : IsRow ((w.alloc o).alloc (.cells #[.string s] 9)) (vstr [s]) (some ⟨w.heap.size + 1, 0, none⟩) [s].length := by
  have h := IsRow.new (w.alloc o) 9 (vstr [s])
  rw [World.size_alloc] at h
  exact h
theorem row_two (w : World) (o : Obj) (s t : ByteArray) : IsRow ((w.alloc o).alloc (.cells #[.string s, .string t] 9)) (vstr [s, t]) (some ⟨w.heap.size + 1, 0, none⟩) [s, t].length := by
  have h := IsRow.new (w.alloc o) 9 (vstr [s, t])
  rw [World.size_alloc] at h
  exact h

set_option maxRecDepth 8000 in
set_option maxHeartbeats 4000000 in
theorem names_inner {A : Nat → Prop} (bd : List ByteArray) (kid : Nat) (x : Hd) (w : World) (a : Option Addr) (n cap : Nat) (ak : Option Addr) (lenk capk : Nat) (h : Nm A w bd a n cap) (hA : ∀ k, A k → k < w.heap.size) (hlen : bd.length + 2 ≤ 1000000) :
    Calls Tryd.prog 90 #[.slice a n cap, .agg #[.int .u8 x.k, .int .u8 x.op, .int .i64 x.pos, .int .i64 x.n, .string x.name, .string x.arg, .string x.exn, .slice ak lenk capk], .int .i64 (kid : Int)] w (RetNm A (bound x kid bd) w) := by
  have HB : Hid (bound x kid bd = if x.k = 11 ∨ (x.k = 16 ∧ kid = 1) then bd ++ [x.arg] else if (x.k = 12 ∨ x.k = 13) ∧ kid = 1 then bd ++ [x.name] else if x.k = 13 then bd ++ [x.name, x.arg] else bd) := rfl
  generalize hbx : bound x kid bd = out at *
  clear hbx
  obtain ⟨k, op, pos, num, name, arg, exn⟩ := x
  simp only at HB
  have K1 : Hid (∀ s : ByteArray, Calls Tryd.prog 121 #[.slice a n cap, .slice (some ⟨w.heap.size + 1, 0, none⟩) 1 1] ((w.alloc (.cells #[.int .u8 k, .int .u8 op, .int .i64 pos, .int .i64 num, .string name, .string arg, .string exn, .slice ak lenk capk] 41)).alloc (.cells #[.string s] 9)) (RetNm A (bd ++ [s]) ((w.alloc (.cells #[.int .u8 k, .int .u8 op, .int .i64 pos, .int .i64 num, .string name, .string arg, .string exn, .slice ak lenk capk] 41)).alloc (.cells #[.string s] 9)))) := Lib.hid fun s =>
    names_with bd [s] _ a n cap (w.heap.size + 1) 1 (h.ext (((Ext.refl w).alloc _).alloc _)) (fun k hk => by have := hA k hk; simp; omega) (row_one w _ s) (by simp) (by simp; omega)
  have K2 : Hid (∀ s t : ByteArray, Calls Tryd.prog 121 #[.slice a n cap, .slice (some ⟨w.heap.size + 1, 0, none⟩) 2 2] ((w.alloc (.cells #[.int .u8 k, .int .u8 op, .int .i64 pos, .int .i64 num, .string name, .string arg, .string exn, .slice ak lenk capk] 41)).alloc (.cells #[.string s, .string t] 9)) (RetNm A (bd ++ [s, t]) ((w.alloc (.cells #[.int .u8 k, .int .u8 op, .int .i64 pos, .int .i64 num, .string name, .string arg, .string exn, .slice ak lenk capk] 41)).alloc (.cells #[.string s, .string t] 9)))) := Lib.hid fun s t =>
    names_with bd [s, t] _ a n cap (w.heap.size + 1) 2 (h.ext (((Ext.refl w).alloc _).alloc _)) (fun k hk => by have := hA k hk; simp; omega) (row_two w _ s t) (by simp) (by simp; omega)
  have HN := Lib.hid h
  have hq : ((kid : Int) == 1) = decide (kid = 1) := by
    rw [Bool.eq_iff_iff]
    simp
    omega
  have cases : (k = 11) ∨ (k = 16) ∨ (k = 12) ∨ (k = 13) ∨ ((k == 11) = false ∧ (k == 16) = false ∧ (k == 12) = false ∧ (k == 13) = false) := by
    simp only [beq_eq_false_iff_ne]
    omega
  clear h hA hlen
  by_cases hk1 : kid = 1
  all_goals
    first
      | rw [decide_eq_true hk1] at hq
      | rw [decide_eq_false hk1] at hq
    have HK := Lib.hid hk1
    clear hk1
    rcases cases with rfl | rfl | rfl | rfl | ⟨d1, d2, d3, d4⟩
    all_goals
      go_enter Tryd.func90, Tryd.ntmps90
      go_wp2_with (go_at_call 121; (first | (with_reducible refine (K1.out _).mono ?_) | (with_reducible refine (K2.out _ _).mono ?_)); rintro e w1 ⟨a1, n1, c1, rfl, hn1, x1⟩; have HN1 := Lib.hid hn1; clear hn1)
      go_ret
      have hk := HK.out
      first
        | (refine ⟨a1, n1, c1, rfl, ?_, by (repeat (first | exact Ext.refl _ | assumption | refine Ext.alloc ?_ _ | refine Ext.drew ?_ | refine Ext.setCell ?_ (by first | (simp; done) | (simp; omega) | omega) _ | refine Ext.trans ?_ (by assumption)))⟩; rw [HB.out]; simp only [hk]; simpa using HN1.out)
        | (simp only [beq_eq_false_iff_ne, ne_eq] at d1 d2 d3 d4; refine ⟨a, n, cap, rfl, ?_, by (repeat (first | exact Ext.refl _ | assumption | refine Ext.alloc ?_ _ | refine Ext.drew ?_ | refine Ext.setCell ?_ (by first | (simp; done) | (simp; omega) | omega) _ | refine Ext.trans ?_ (by assumption)))⟩; rw [HB.out]; simp only [hk, d1, d2, d3, d4]; simpa using HN.out.ext ((Ext.refl w).alloc _))
        | (refine ⟨a, n, cap, rfl, ?_, by (repeat (first | exact Ext.refl _ | assumption | refine Ext.alloc ?_ _ | refine Ext.drew ?_ | refine Ext.setCell ?_ (by first | (simp; done) | (simp; omega) | omega) _ | refine Ext.trans ?_ (by assumption)))⟩; rw [HB.out]; simp only [hk]; simpa using HN.out.ext ((Ext.refl w).alloc _))
end Go.Proofs.YtmomahgedheekaaDoor

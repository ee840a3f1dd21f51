/- What the parser answers to a text in brackets, and behind exceptions; what a caller of it holds. What the parser answers to two texts in brackets, a sign between them, or none. -/
import Derived.Test.YtaioeailgknfjaaDoorLaw05a
import Derived.Test.YtaioeailgknfjaaDoorParse21
import Derived.Test.YtaioeailgknfjaaDoorAppendB
import Derived.Lib.ConvBytes
namespace Go.Proofs.YtaioeailgknfjaaDoor
open Go Go.RowKit Go.Sort

theorem infoB6 : (Tryd.prog.info? 5).map (fun i => (i.zero, i.size, i.bytes)) = some (some (.int .u8 0), 1, 1) := by kernel_rfl
/-- Bytes, as cells. -/
def byV (B : List UInt8) : List Value := vby (il (bs B))
theorem byV_append (L M : List UInt8) : byV (L ++ M) = byV L ++ byV M := by unfold byV vby; rw [il_bs, il_bs, il_bs, List.map_append, List.map_append]
theorem byV_one (B : List UInt8) : ∀ u ∈ byV B, u.oneCell' = true := by
  intro u hu
  unfold byV vby at hu
  obtain ⟨x, -, rfl⟩ := List.mem_map.1 hu
  rfl
theorem byV_length (B : List UInt8) : (byV B).length = B.length := by unfold byV; rw [vby_il_length, bs_size]
theorem ownsOr.bytes {w : World} {base n : Nat} {e : TypeId} {v : Value} {B : List UInt8} (h : ownsOr w base e v n (byV B)) (hl : B.length = n) (hn : n ≤ 1000000) : ∃ a c, v = .slice a n c ∧ n ≤ c ∧ c ≤ 9223372036854775807 ∧ IsBytes w B a n := by
  have hlv : n = (vby (il (bs B))).length := by rw [vby_il_length, bs_size]; exact hl.symm
  rcases h with h | ⟨hxl, hlt, rfl, holds⟩
  · rcases h.2 with ⟨rfl, rfl⟩ | ⟨g, cap, cur, rfl, hbg, hg, hnc, hcm, hcs, htake⟩
    · refine ⟨none, 0, rfl, Nat.le_refl _, by omega, hlv, fun i v hi => ?_⟩
      have : B = [] := List.eq_nil_of_length_eq_zero hl
      subst this
      simp [vby, il_bs] at hi
    · refine ⟨some ⟨g, 0, none⟩, cap, rfl, hnc, by unfold maxLen at hcm; omega, hlv, fun i v hi => ⟨g, 0, rfl, ?_⟩⟩
      have := h.cells (g := g) rfl i v hi
      rw [Addr.add_lit] at this
      exact this
  · refine ⟨some ⟨base, 0, none⟩, n, rfl, Nat.le_refl _, by omega, hlv, fun i v hi => ⟨base, 0, rfl, ?_⟩⟩
    rw [Nat.zero_add]
    exact holds i v hi
theorem ownsOr.ext {w w' : World} (hx : Ext w w') {base n : Nat} {e : TypeId} {v : Value} {xs : List Value} (h : ownsOr w base e v n xs) : ownsOr w' base e v n xs :=
  h.elim (fun h => .inl (owns_ext hx h)) (fun ⟨a, b, c, d⟩ => .inr ⟨a, Nat.lt_of_lt_of_le b (Below.size hx), c, fun j u g => hx.cell (d j u g)⟩)
theorem termR_brackets {B : List UInt8} {t : Tm} (h : termR B = .ok t) (hB : B.length ≤ 2000) : ∃ t', termR (40 :: (B ++ [41])) = .ok t' ∧ t.same t' = true := by
  obtain ⟨t', hp, hs⟩ := (termR_inv h).brackets
  exact ⟨t', termR_ok hp (by simp; omega), hs⟩
theorem progR_exns {B : List UInt8} {t : Tm} (h : termR B = .ok t) (hB : B.length ≤ 2000) : ∃ t', progR (exnsB ++ B) = .ok (exnsE, t') ∧ t.same t' = true := by
  obtain ⟨o, e, t', hl, hc, hp, he, hs⟩ := (termR_inv h).exns
  refine ⟨t', ?_, hs⟩
  have hR := lexR_ok (B := exnsB ++ B) (by simp [exnsB]; omega) hl
  have hE : Ended (lexR (exnsB ++ B)).1 := lexR_ended (by rw [hR])
  rw [hR] at hE
  have hE2 : Ended (o.map Tok.tk) := by
    cases o with
    | nil => exact absurd hE (by simp [exnsT, Ended, Tok.tk])
    | cons a o => exact hE.2.2.2.2.2.2
  unfold progR runR
  rw [hR]
  rw [if_neg (by simp), if_neg (by simp only [List.length_map, List.length_append, exnsT, List.length_cons, List.length_nil]; omega)]
  simp only
  rw [hp hE2]
  simp [kindT, he]
/-- A term, or an error's number. -/
def FT {α : Type} (r : Except (Int × Int) α) (f : Int) (t : α) : Prop := match r with
  | .ok t' => f = 0 ∧ t = t'
  | .error q => f = q.2 ∧ f ≠ 0
theorem FT.ex {α : Type} [Inhabited α] {B : List UInt8} {res : List Tk → Res α} : ∃ f t, FT (runR res B) f t := by
  cases h : runR res B with
  | ok t => exact ⟨0, t, rfl, rfl⟩
  | error q => exact ⟨q.2, default, rfl, runR_err h⟩
instance : Inhabited Tm := ⟨.mk (hd0 0 0) []⟩
/-- What a caller of parse.Term has. -/
def RetT (w : World) (f : Int) (t : Tm) (e : Ending) (w' : World) : Prop :=
  ∃ (x : Hd) (a : Option Addr) (n c : Nat) (p : Int), e = .returned (.tuple #[.agg #[.int .u8 x.k, .int .u8 x.op, .int .i64 x.pos, .int .i64 x.n, .string x.name, .string x.arg, .string x.exn, .slice a n c], .int .i64 p, .int .i64 f]) ∧ Ext w w' ∧ (f = 0 → p = 0 ∧ x.Fits ∧ n ≤ c ∧ c ≤ 9223372036854775807 ∧ t.head = x ∧ IsTms w' t.kids a n)
theorem parse_termF (B : List UInt8) (f : Int) (t : Tm) (h : FT (termR B) f t) (w : World) (a : Option Addr) (len cap : Nat) (h1 : len ≤ cap) (h2 : cap ≤ 9223372036854775807) (hr : IsBytes w B a len) (hk : Knob w) : Calls Tryd.prog 11 #[.slice a len cap] w (RetT w f t) := by
  refine (parse_term B w a len cap h1 h2 hr hk).mono ?_
  rintro e w' ⟨hx, hh⟩
  cases hT : termR B with
  | error q =>
    obtain ⟨p, g⟩ := q
    rw [hT] at hh h
    obtain ⟨e1, hf⟩ := h
    have e1 : f = g := e1
    subst e1
    exact ⟨⟨0, 0, 0, 0, ⟨#[]⟩, ⟨#[]⟩, ⟨#[]⟩⟩, none, 0, 0, p, hh, hx, fun h0 => (hf h0).elim⟩
  | ok t' =>
    rw [hT] at hh h
    obtain ⟨rfl, rfl⟩ := h
    obtain ⟨v, rfl, hv⟩ := hh
    obtain ⟨x, ks⟩ := t
    obtain ⟨a', n, c, rfl, g1, g2, hf, hl⟩ := hv.open_
    exact ⟨x, a', n, c, 0, rfl, hx, fun _ => ⟨rfl, hf, g1, g2, rfl, hl⟩⟩
/-- What a caller of parse.Parse has. -/
def RetQ (w : World) (f : Int) (q : List Tk × Tm) (e : Ending) (w' : World) : Prop :=
  ∃ (ea : Option Addr) (en ec : Nat) (x : Hd) (a : Option Addr) (n c : Nat) (p : Int), e = .returned (.tuple #[.agg #[.slice ea en ec, .int .u8 x.k, .int .u8 x.op, .int .i64 x.pos, .int .i64 x.n, .string x.name, .string x.arg, .string x.exn, .slice a n c], .int .i64 p, .int .i64 f]) ∧ Ext w w' ∧ (f = 0 → p = 0 ∧ x.Fits ∧ n ≤ c ∧ c ≤ 9223372036854775807 ∧ q.2.head = x ∧ IsTms w' q.2.kids a n ∧ en ≤ ec ∧ ec ≤ 9223372036854775807 ∧ IsToks w' q.1 ea en)
theorem parse_progF (B : List UInt8) (f : Int) (q : List Tk × Tm) (h : FT (progR B) f q) (w : World) (a : Option Addr) (len cap : Nat) (h1 : len ≤ cap) (h2 : cap ≤ 9223372036854775807) (hr : IsBytes w B a len) (hk : Knob w) : Calls Tryd.prog 14 #[.slice a len cap] w (RetQ w f q) := by
  refine (parse_prog B w a len cap h1 h2 hr hk).mono ?_
  rintro e w' ⟨hx, hh⟩
  cases hT : progR B with
  | error q =>
    obtain ⟨p, g⟩ := q
    rw [hT] at hh h
    obtain ⟨e1, hf⟩ := h
    have e1 : f = g := e1
    subst e1
    exact ⟨none, 0, 0, ⟨0, 0, 0, 0, ⟨#[]⟩, ⟨#[]⟩, ⟨#[]⟩⟩, none, 0, 0, p, hh, hx, fun h0 => (hf h0).elim⟩
  | ok t' =>
    rw [hT] at hh h
    obtain ⟨rfl, rfl⟩ := h
    obtain ⟨v, rfl, ea, en, ec, a', n, c, rfl, k1, k2, hTk, hf, g1, g2, hl⟩ := hh
    exact ⟨ea, en, ec, q.2.head, a', n, c, 0, rfl, hx, fun _ => ⟨rfl, hf, g1, g2, rfl, hl, k1, k2, hTk⟩⟩
end Go.Proofs.YtaioeailgknfjaaDoor
namespace Go.Proofs.YtaioeailgknfjaaDoor
open Go Go.RowKit Go.Sort

theorem Hd.same_swap (h h' : Hd) : h'.same h = h.same h' := by
  unfold Hd.same
  rw [Bool.eq_iff_iff]
  simp only [Bool.and_eq_true, beq_iff_eq]
  constructor
  · rintro ⟨a, b, c, d, e, f⟩; exact ⟨a.symm, b.symm, c.symm, d.symm, e.symm, f.symm⟩
  · rintro ⟨a, b, c, d, e, f⟩; exact ⟨a.symm, b.symm, c.symm, d.symm, e.symm, f.symm⟩
theorem Tm.same_swap (t : Tm) : ∀ t' : Tm, t'.same t = t.same t' := by
  induction t using Tm.ind with
  | h x l ih =>
    rintro ⟨x', l'⟩
    simp only [Tm.same, Hd.same_swap x x']
    congr 1
    induction l generalizing l' with
    | nil => cases l' <;> simp [Tm.sames]
    | cons t l ihl =>
      cases l' with
      | nil => simp [Tm.sames]
      | cons t' l' =>
        simp only [Tm.sames, ih t (by simp) t']
        rw [ihl (fun t ht => ih t (by simp [ht])) l']
/-- The sign between two texts. -/
def signB : Nat → List UInt8
  | 0 => [43]
  | 1 => [45]
  | 2 => [42]
  | 3 => [60]
  | 4 => [61]
  | 5 => [58, 61]
  | _ => []
def textJ (A B : List UInt8) (k : Nat) : List UInt8 := 40 :: (A ++ 41 :: (signB k ++ 40 :: (B ++ [41])))
def kindJ (k : Nat) : Int := if k = 5 then 8 else if k = 6 then 10 else 9
theorem termR_joins {A B : List UInt8} {x y : Tm} (hA : termR A = .ok x) (hB : termR B = .ok y) (lA : A.length ≤ 500) (lB : B.length ≤ 500) (k : Nat) (hk : k < 7) : ∃ h x' y', termR (textJ A B k) = .ok (.mk h [x', y']) ∧ x'.same x = true ∧ y'.same y = true ∧ h.k = kindJ k ∧ (k < 5 → h.op = (k : Int) + 1) := by
  have hS : (signB k).length ≤ 2 := by match k, hk with | 0, _ | 1, _ | 2, _ | 3, _ | 4, _ | 5, _ | 6, _ => simp [signB]
  have hlen : (textJ A B k).length ≤ 4000 := by simp [textJ]; omega
  have key : ∀ S, (S = [43] ∨ S = [45] ∨ S = [42] ∨ S = [60] ∨ S = [61] ∨ S = [58, 61]) → signB k = S → ∃ x' y', termR (textJ A B k) = .ok (putT (bs S) x' y') ∧ x'.same x = true ∧ y'.same y = true := by
    intro S hSS e
    obtain ⟨x', y', hp, s1, s2⟩ := (termR_inv hA).signed (termR_inv hB) hSS
    refine ⟨x', y', termR_ok ?_ hlen, by rw [Tm.same_swap]; exact s1, by rw [Tm.same_swap]; exact s2⟩
    unfold textJ
    rw [e]
    exact hp
  match k, hk with
  | 0, _ =>
    obtain ⟨x', y', hp, s1, s2⟩ := key [43] (by simp) rfl
    exact ⟨_, x', y', hp, s1, s2, rfl, fun _ => (by show opOf (bs [43]) = _; decide +kernel)⟩
  | 1, _ =>
    obtain ⟨x', y', hp, s1, s2⟩ := key [45] (by simp) rfl
    exact ⟨_, x', y', hp, s1, s2, rfl, fun _ => (by show opOf (bs [45]) = _; decide +kernel)⟩
  | 2, _ =>
    obtain ⟨x', y', hp, s1, s2⟩ := key [42] (by simp) rfl
    exact ⟨_, x', y', hp, s1, s2, rfl, fun _ => (by show opOf (bs [42]) = _; decide +kernel)⟩
  | 3, _ =>
    obtain ⟨x', y', hp, s1, s2⟩ := key [60] (by simp) rfl
    exact ⟨_, x', y', hp, s1, s2, rfl, fun _ => (by show opOf (bs [60]) = _; decide +kernel)⟩
  | 4, _ =>
    obtain ⟨x', y', hp, s1, s2⟩ := key [61] (by simp) rfl
    exact ⟨_, x', y', hp, s1, s2, rfl, fun _ => (by show opOf (bs [61]) = _; decide +kernel)⟩
  | 5, _ =>
    obtain ⟨x', y', hp, s1, s2⟩ := key [58, 61] (by simp) rfl
    exact ⟨_, x', y', hp, s1, s2, rfl, fun h => absurd h (by omega)⟩
  | 6, _ =>
    obtain ⟨x', y', hp, s1, s2⟩ := (termR_inv hA).applied (termR_inv hB)
    exact ⟨_, x', y', termR_ok hp hlen, by rw [Tm.same_swap]; exact s1, by rw [Tm.same_swap]; exact s2, rfl, fun h => absurd h (by omega)⟩
theorem conv_none5 (W : World) (a : Option Addr) (c : Nat) : (convert 22 9 (.slice a 0 c)).run Tryd.prog W = .ok (.string ByteArray.empty) W := by
  rw [run_convert_bytes_string W 22 9 5 _ _ _ Tryd.underlying22 Tryd.underlying5 Tryd.underlying9]
  cases a with
  | none => rfl
  | some p =>
    have hl : (loadCells p 0).run Tryd.prog W = .ok (([] : List Int).map (Value.int .u8)).toArray W := by
      have := run_loadCells_list (P := Tryd.prog) (w := W) p [] (fun j v hj => by cases hj)
      exact this
    rw [run_bytesToString W p 0 c _ hl]
    rfl
/-- A row of bytes, as a text. -/
theorem conv_whole {W : World} {B : List UInt8} {a : Option Addr} {len cap : Nat} (h : IsBytes W B a len) : (convert 22 9 (.slice a len cap)).run Tryd.prog W = .ok (.string (bs B)) W := by
  have hl := h.length
  by_cases h0 : len = 0
  · subst h0
    have : B = [] := List.eq_nil_of_length_eq_zero hl.symm
    subst this
    exact conv_none5 _ _ _
  · obtain ⟨c, b, o, -, rfl, -⟩ := h.at_ (i := 0) (by omega)
    have := conv_bytes h 0 len cap (by omega)
    rw [List.drop_zero, List.take_of_length_le (by omega)] at this
    exact this
/-- A text, as a row of bytes. -/
theorem IsBytes.world (W : World) (e : TypeId) (B : List UInt8) : IsBytes (Lib.bytesWorld W e (bs B)) B (some ⟨W.heap.size, 0, none⟩) (bs B).size := by
  refine ⟨by rw [vby_il_length], fun i v hi => ⟨W.heap.size, 0, rfl, ?_⟩⟩
  have hlt : i < (bs B).size := by
    have := lt_of_some_ hi
    rw [vby_il_length] at this
    exact this
  rw [Nat.zero_add, Lib.bytesWorld_cell W e (bs B) i hlt]
  have hb : i < B.length := by rw [bs_size] at hlt; exact hlt
  unfold vby at hi
  rw [il_bs, List.map_map, List.getElem?_map, List.getElem?_eq_getElem hb] at hi
  have e1 : (bs B).data.toList = B := bs_list B
  rw [e1, List.getD_eq_getElem?_getD, List.getElem?_eq_getElem hb]
  simpa using hi
end Go.Proofs.YtaioeailgknfjaaDoor

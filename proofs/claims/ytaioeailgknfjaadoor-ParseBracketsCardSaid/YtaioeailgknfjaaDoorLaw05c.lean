/- What the parser answers to a text in brackets, and behind exceptions; what a caller of it holds. -/
import Derived.Test.YtaioeailgknfjaaDoorLaw05a
import Derived.Test.YtaioeailgknfjaaDoorParse23
import Derived.Test.YtaioeailgknfjaaDoorAppendB
namespace Go.Proofs.YtaioeailgknfjaaDoor
open Go Go.RowKit Go.Sort

theorem infoB6 : (Tryd.prog.info? 5).map (fun i => (i.zero, i.size, i.bytes)) = some (some (.int .u8 0), 1, 1) := by kernel_rfl
/-- Bytes, as cells. -/
def byV (B : List UInt8) : List Value := vby (il (bs B))
theorem byV_append (L M : List UInt8) : byV (L ++ M) = byV L ++ byV M := by unfold byV vby; rw [il_bs, il_bs, il_bs, List.map_append, List.map_append]
theorem byV_one (B : List UInt8) : ∀ u ∈ byV B, u.oneCell' = true := by
  intro u hu
  unfold byV vby at hu
  obtain ⟨x, -, rfl⟩ := List.mem_map.1 hu
  rfl
theorem byV_length (B : List UInt8) : (byV B).length = B.length := by unfold byV; rw [vby_il_length, bs_size]
theorem ownsOr.bytes {w : World} {base n : Nat} {e : TypeId} {v : Value} {B : List UInt8} (h : ownsOr w base e v n (byV B)) (hl : B.length = n) (hn : n ≤ 1000000) : ∃ a c, v = .slice a n c ∧ n ≤ c ∧ c ≤ 9223372036854775807 ∧ IsBytes w B a n := by
  have hlv : n = (vby (il (bs B))).length := by rw [vby_il_length, bs_size]; exact hl.symm
  rcases h with h | ⟨hxl, hlt, rfl, holds⟩
  · rcases h.2 with ⟨rfl, rfl⟩ | ⟨g, cap, cur, rfl, hbg, hg, hnc, hcm, hcs, htake⟩
    · refine ⟨none, 0, rfl, Nat.le_refl _, by omega, hlv, fun i v hi => ?_⟩
      have : B = [] := List.eq_nil_of_length_eq_zero hl
      subst this
      simp [vby, il_bs] at hi
    · refine ⟨some ⟨g, 0, none⟩, cap, rfl, hnc, by unfold maxLen at hcm; omega, hlv, fun i v hi => ⟨g, 0, rfl, ?_⟩⟩
      have := h.cells (g := g) rfl i v hi
      rw [Addr.add_lit] at this
      exact this
  · refine ⟨some ⟨base, 0, none⟩, n, rfl, Nat.le_refl _, by omega, hlv, fun i v hi => ⟨base, 0, rfl, ?_⟩⟩
    rw [Nat.zero_add]
    exact holds i v hi
theorem ownsOr.ext {w w' : World} (hx : Ext w w') {base n : Nat} {e : TypeId} {v : Value} {xs : List Value} (h : ownsOr w base e v n xs) : ownsOr w' base e v n xs :=
  h.elim (fun h => .inl (owns_ext hx h)) (fun ⟨a, b, c, d⟩ => .inr ⟨a, Nat.lt_of_lt_of_le b (Below.size hx), c, fun j u g => hx.cell (d j u g)⟩)
theorem termR_brackets {B : List UInt8} {t : Tm} (h : termR B = .ok t) (hB : B.length ≤ 2000) : ∃ t', termR (40 :: (B ++ [41])) = .ok t' ∧ t.same t' = true := by
  obtain ⟨t', hp, hs⟩ := (termR_inv h).brackets
  exact ⟨t', termR_ok hp (by simp; omega), hs⟩
theorem progR_exns {B : List UInt8} {t : Tm} (h : termR B = .ok t) (hB : B.length ≤ 2000) : ∃ t', progR (exnsB ++ B) = .ok (exnsE, t') ∧ t.same t' = true := by
  obtain ⟨o, e, t', hl, hc, hp, he, hs⟩ := (termR_inv h).exns
  refine ⟨t', ?_, hs⟩
  have hR := lexR_ok (B := exnsB ++ B) (by simp [exnsB]; omega) hl
  have hE : Ended (lexR (exnsB ++ B)).1 := lexR_ended (by rw [hR])
  rw [hR] at hE
  have hE2 : Ended (o.map Tok.tk) := by
    cases o with
    | nil => exact absurd hE (by simp [exnsT, Ended, Tok.tk])
    | cons a o => exact hE.2.2.2.2.2.2
  unfold progR runR
  rw [hR]
  rw [if_neg (by simp), if_neg (by simp only [List.length_map, List.length_append, exnsT, List.length_cons, List.length_nil]; omega)]
  simp only
  rw [hp hE2]
  simp [kindT, he]
/-- A term, or an error's number. -/
def FT {α : Type} (r : Except (Int × Int) α) (f : Int) (t : α) : Prop := match r with
  | .ok t' => f = 0 ∧ t = t'
  | .error q => f = q.2 ∧ f ≠ 0
theorem FT.ex {α : Type} [Inhabited α] {B : List UInt8} {res : List Tk → Res α} : ∃ f t, FT (runR res B) f t := by
  cases h : runR res B with
  | ok t => exact ⟨0, t, rfl, rfl⟩
  | error q => exact ⟨q.2, default, rfl, runR_err h⟩
instance : Inhabited Tm := ⟨.mk (hd0 0 0) []⟩
/-- What a caller of parse.Term has. -/
def RetT (w : World) (f : Int) (t : Tm) (e : Ending) (w' : World) : Prop :=
  ∃ (x : Hd) (a : Option Addr) (n c : Nat) (p : Int), e = .returned (.tuple #[.agg #[.int .u8 x.k, .int .u8 x.op, .int .i64 x.pos, .int .i64 x.n, .string x.name, .string x.arg, .string x.exn, .slice a n c], .int .i64 p, .int .i64 f]) ∧ Ext w w' ∧ (f = 0 → p = 0 ∧ x.Fits ∧ n ≤ c ∧ c ≤ 9223372036854775807 ∧ t.head = x ∧ IsTms w' t.kids a n)
theorem parse_termF (B : List UInt8) (f : Int) (t : Tm) (h : FT (termR B) f t) (w : World) (a : Option Addr) (len cap : Nat) (h1 : len ≤ cap) (h2 : cap ≤ 9223372036854775807) (hr : IsBytes w B a len) (hk : Knob w) : Calls Tryd.prog 11 #[.slice a len cap] w (RetT w f t) := by
  refine (parse_term B w a len cap h1 h2 hr hk).mono ?_
  rintro e w' ⟨hx, hh⟩
  cases hT : termR B with
  | error q =>
    obtain ⟨p, g⟩ := q
    rw [hT] at hh h
    obtain ⟨e1, hf⟩ := h
    have e1 : f = g := e1
    subst e1
    exact ⟨⟨0, 0, 0, 0, ⟨#[]⟩, ⟨#[]⟩, ⟨#[]⟩⟩, none, 0, 0, p, hh, hx, fun h0 => (hf h0).elim⟩
  | ok t' =>
    rw [hT] at hh h
    obtain ⟨rfl, rfl⟩ := h
    obtain ⟨v, rfl, hv⟩ := hh
    obtain ⟨x, ks⟩ := t
    obtain ⟨a', n, c, rfl, g1, g2, hf, hl⟩ := hv.open_
    exact ⟨x, a', n, c, 0, rfl, hx, fun _ => ⟨rfl, hf, g1, g2, rfl, hl⟩⟩
/-- What a caller of parse.Parse has. -/
def RetQ (w : World) (f : Int) (q : List Tk × Tm) (e : Ending) (w' : World) : Prop :=
  ∃ (ea : Option Addr) (en ec : Nat) (x : Hd) (a : Option Addr) (n c : Nat) (p : Int), e = .returned (.tuple #[.agg #[.slice ea en ec, .int .u8 x.k, .int .u8 x.op, .int .i64 x.pos, .int .i64 x.n, .string x.name, .string x.arg, .string x.exn, .slice a n c], .int .i64 p, .int .i64 f]) ∧ Ext w w' ∧ (f = 0 → p = 0 ∧ x.Fits ∧ n ≤ c ∧ c ≤ 9223372036854775807 ∧ q.2.head = x ∧ IsTms w' q.2.kids a n ∧ en ≤ ec ∧ ec ≤ 9223372036854775807 ∧ IsToks w' q.1 ea en)
theorem parse_progF (B : List UInt8) (f : Int) (q : List Tk × Tm) (h : FT (progR B) f q) (w : World) (a : Option Addr) (len cap : Nat) (h1 : len ≤ cap) (h2 : cap ≤ 9223372036854775807) (hr : IsBytes w B a len) (hk : Knob w) : Calls Tryd.prog 14 #[.slice a len cap] w (RetQ w f q) := by
  refine (parse_prog B w a len cap h1 h2 hr hk).mono ?_
  rintro e w' ⟨hx, hh⟩
  cases hT : progR B with
  | error q =>
    obtain ⟨p, g⟩ := q
    rw [hT] at hh h
    obtain ⟨e1, hf⟩ := h
    have e1 : f = g := e1
    subst e1
    exact ⟨none, 0, 0, ⟨0, 0, 0, 0, ⟨#[]⟩, ⟨#[]⟩, ⟨#[]⟩⟩, none, 0, 0, p, hh, hx, fun h0 => (hf h0).elim⟩
  | ok t' =>
    rw [hT] at hh h
    obtain ⟨rfl, rfl⟩ := h
    obtain ⟨v, rfl, ea, en, ec, a', n, c, rfl, k1, k2, hTk, hf, g1, g2, hl⟩ := hh
    exact ⟨ea, en, ec, q.2.head, a', n, c, 0, rfl, hx, fun _ => ⟨rfl, hf, g1, g2, rfl, hl, k1, k2, hTk⟩⟩
end Go.Proofs.YtaioeailgknfjaaDoor

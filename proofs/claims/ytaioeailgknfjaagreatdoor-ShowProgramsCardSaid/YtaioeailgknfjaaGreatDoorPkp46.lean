/- Part 46 of the proof: Ref05d, Ref05e, Ref05f, Ref05g; no condition of ours. -/
import Derived.Test.YtaioeailgknfjaaGreatDoorPkp20
import Derived.Test.YtaioeailgknfjaaGreatDoorPkp45
set_option linter.unusedVariables false
set_option linter.unusedSimpArgs false
namespace Go.Proofs.YtaioeailgknfjaaGreatDoor
open Go.Lib (hid)
open Go Go.RowKit Go.Sort
def StS {α : Type} (L : List Tk) (n i : Nat) (bad : Bool) (r : Res α) : Prop := match r with
  | .ok (_, l) => bad = false ∧ AtS L n i l ∧ Ended l
  | .error l => bad = true ∧ AtS L n i l
def thenR {α β : Type} (s : Res α) (k : List Tk → Res β) : Res β := match s with
  | .error l => .error l
  | .ok (_, l) => k l
theorem getW_next {x : ByteArray} {l l' : List Tk} {u : Unit} (he : Ended l) (h : getW x l = .ok (u, l')) : Ended l' := by
  unfold getW at h
  split at h
  · rename_i hi
    cases h
    exact (he.is_ hi).1
  · cases h
theorem getK_next {k : Int} (hk : k ≠ 6) {x : ByteArray} {l l' : List Tk} (he : Ended l) (h : getK k l = .ok (x, l')) : Ended l' := by
  have := getK_behind he hk
  rw [h] at this
  exact this.1
theorem ref5_wantS {α : Type} (L : List Tk) (a : Option Addr) (n c i : Nat) (bad : Bool) (s : Res α) (x : ByteArray) (hx : x ≠ ByteArray.empty) (w : World) (hL : IsL w L a n c) (hs : StS L n i bad s) :
    Calls Tryz.prog 43 #[.agg #[.slice a n c, .int .i64 (i : Nat), .bool bad], .string x] w fun e w' => Ext w w' ∧ ∃ i' bad', e = .returned (.agg #[.slice a n c, .int .i64 (i' : Nat), .bool bad']) ∧ StS L n i' bad' (thenR s (getW x)) := by
  cases s with
  | error l =>
    obtain ⟨rfl, hA⟩ := hs
    refine (ref5_want_bad a n c i x w).mono ?_
    rintro e w' ⟨rfl, hx⟩
    exact ⟨hx, i, true, rfl, rfl, hA⟩
  | ok q =>
    obtain ⟨u, l⟩ := q
    obtain ⟨rfl, hA, he⟩ := hs
    refine (ref5_want L a n c i x hx l w hL hA he).mono ?_
    rintro e w' ⟨hx, i', hh⟩
    refine ⟨hx, i', ?_⟩
    show ∃ bad', _ ∧ StS L n i' bad' (getW x l)
    cases hg : getW x l with
    | error l' =>
      rw [hg] at hh
      exact ⟨true, hh.1, rfl, hh.2⟩
    | ok q =>
      obtain ⟨u, l'⟩ := q
      rw [hg] at hh
      exact ⟨false, hh.1, rfl, hh.2, getW_next he hg⟩
theorem ref5_getS {α : Type} (L : List Tk) (a : Option Addr) (n c i : Nat) (bad : Bool) (s : Res α) (k : Int) (hk : k ≠ 6) (w : World) (hL : IsL w L a n c) (hs : StS L n i bad s) :
    Calls Tryz.prog 42 #[.agg #[.slice a n c, .int .i64 (i : Nat), .bool bad], .int .u8 k] w fun e w' => Ext w w' ∧ ∃ i' bad' tx, e = .returned (.tuple #[.agg #[.slice a n c, .int .i64 (i' : Nat), .bool bad'], .string tx]) ∧ StS L n i' bad' (thenR s (getK k)) ∧ ∀ x l', thenR s (getK k) = .ok (x, l') → tx = x := by
  cases s with
  | error l =>
    obtain ⟨rfl, hA⟩ := hs
    refine (ref5_get_bad a n c i k w).mono ?_
    rintro e w' ⟨rfl, hx⟩
    exact ⟨hx, i, true, _, rfl, ⟨rfl, hA⟩, fun x l' h => by cases h⟩
  | ok q =>
    obtain ⟨u, l⟩ := q
    obtain ⟨rfl, hA, he⟩ := hs
    refine (ref5_get L a n c i k hk l w hL hA he).mono ?_
    rintro e w' ⟨hx, i', v, hh⟩
    refine ⟨hx, i', ?_⟩
    show ∃ bad' tx, _ ∧ StS L n i' bad' (getK k l) ∧ ∀ x l', getK k l = .ok (x, l') → tx = x
    cases hg : getK k l with
    | error l' =>
      rw [hg] at hh
      obtain ⟨e1, hA', tx, rfl⟩ := hh
      exact ⟨true, tx, e1, ⟨rfl, hA'⟩, fun x l' h => by cases h⟩
    | ok q =>
      obtain ⟨x, l'⟩ := q
      rw [hg] at hh
      obtain ⟨e1, hA', hv⟩ := hh
      have hv : v = .string x := hv
      subst hv
      exact ⟨false, x, e1, ⟨rfl, hA', getK_next hk he hg⟩, fun x' l'' h => by cases h; rfl⟩
def RetE (L : List Tk) (a : Option Addr) (n c : Nat) (w : World) (r : Res Tm) (e : Ending) (w' : World) : Prop :=
  Ext w w' ∧ ∃ (i : Nat) (bad : Bool) (x : Hd) (a' : Option Addr) (n' c' : Nat), e = .returned (.tuple #[.agg #[.slice a n c, .int .i64 (i : Nat), .bool bad], .agg #[.int .u8 x.k, .int .u8 x.op, .int .i64 x.pos, .int .i64 x.n, .string x.name, .string x.arg, .string x.exn, .slice a' n' c']]) ∧ StS L n i bad r ∧
    (∀ t l, r = .ok (t, l) → t.head = x ∧ x.Fits ∧ n' ≤ c' ∧ c' ≤ 9223372036854775807 ∧ IsTmsA (fun b => b < w.heap.size) w' t.kids a' n')
def DoesS (F : Nat) (more : Array Value) (nt : NT) (f : Nat) : Prop := ∀ (L : List Tk) (a : Option Addr) (n c i : Nat) (l : List Tk) (r : Res Tm) (w : World), IsL w L a n c → AtS L n i l → Ended l → parseF f nt l = some r → Calls Tryz.prog F (#[.agg #[.slice a n c, .int .i64 (i : Nat), .bool false]] ++ more) w (RetE L a n c w r)
def zeroH : Hd := ⟨0, 0, 0, 0, ⟨#[]⟩, ⟨#[]⟩, ⟨#[]⟩⟩
set_option maxRecDepth 60000 in
set_option maxHeartbeats 2000000 in
theorem ref5_expr_bad (a : Option Addr) (n c i : Nat) (w : World) :
    Calls Tryz.prog 44 #[.agg #[.slice a n c, .int .i64 (i : Nat), .bool true]] w fun e w' => Ext w w' ∧ e = .returned (.tuple #[.agg #[.slice a n c, .int .i64 (i : Nat), .bool true], .agg #[.int .u8 0, .int .u8 0, .int .i64 0, .int .i64 0, .string ⟨#[]⟩, .string ⟨#[]⟩, .string ⟨#[]⟩, .slice none 0 0]]) := by
  go_enter Tryz.func44, Tryz.ntmps44
  go_wp2_with fail
  exact bodyPost_ret (v := .tuple #[.agg #[.slice a n c, .int .i64 (i : Nat), .bool true], .agg #[.int .u8 0, .int .u8 0, .int .i64 0, .int .i64 0, .string ⟨#[]⟩, .string ⟨#[]⟩, .string ⟨#[]⟩, .slice none 0 0]]) (by simp [results, Tryz.results44, go_sem]) rfl ⟨by (exact eX), rfl⟩
set_option maxRecDepth 60000 in
set_option maxHeartbeats 2000000 in
theorem ref5_unary_bad (a : Option Addr) (n c i : Nat) (w : World) :
    Calls Tryz.prog 119 #[.agg #[.slice a n c, .int .i64 (i : Nat), .bool true]] w fun e w' => Ext w w' ∧ e = .returned (.tuple #[.agg #[.slice a n c, .int .i64 (i : Nat), .bool true], .agg #[.int .u8 0, .int .u8 0, .int .i64 0, .int .i64 0, .string ⟨#[]⟩, .string ⟨#[]⟩, .string ⟨#[]⟩, .slice none 0 0]]) := by
  go_enter Tryz.func119, Tryz.ntmps119
  go_wp2_with fail
  exact bodyPost_ret (v := .tuple #[.agg #[.slice a n c, .int .i64 (i : Nat), .bool true], .agg #[.int .u8 0, .int .u8 0, .int .i64 0, .int .i64 0, .string ⟨#[]⟩, .string ⟨#[]⟩, .string ⟨#[]⟩, .slice none 0 0]]) (by simp [results, Tryz.results119, go_sem]) rfl ⟨by (exact eX), rfl⟩
theorem ref5_exprS {α : Type} {f : Nat} (hE : DoesS 44 #[] .expr f) (L : List Tk) (a : Option Addr) (n c i : Nat) (bad : Bool) (s : Res α) (r : Res Tm) (w : World) (hL : IsL w L a n c) (hs : StS L n i bad s) (hr : ∀ u l, s = .ok (u, l) → parseF f .expr l = some r) (he : ∀ l, s = .error l → r = .error l) :
    Calls Tryz.prog 44 #[.agg #[.slice a n c, .int .i64 (i : Nat), .bool bad]] w (RetE L a n c w r) := by
  cases s with
  | error l =>
    obtain ⟨rfl, hA⟩ := hs
    obtain rfl := he l rfl
    refine (ref5_expr_bad a n c i w).mono ?_
    rintro e w' ⟨hx, rfl⟩
    exact ⟨hx, i, true, zeroH, none, 0, 0, rfl, ⟨rfl, hA⟩, fun t l h => by cases h⟩
  | ok q =>
    obtain ⟨u, l⟩ := q
    obtain ⟨rfl, hA, hE'⟩ := hs
    exact hE L a n c i l r w hL hA hE' (hr u l rfl)
theorem ref5_unaryS {α : Type} {f : Nat} (hE : DoesS 119 #[] .unary f) (L : List Tk) (a : Option Addr) (n c i : Nat) (bad : Bool) (s : Res α) (r : Res Tm) (w : World) (hL : IsL w L a n c) (hs : StS L n i bad s) (hr : ∀ u l, s = .ok (u, l) → parseF f .unary l = some r) (he : ∀ l, s = .error l → r = .error l) :
    Calls Tryz.prog 119 #[.agg #[.slice a n c, .int .i64 (i : Nat), .bool bad]] w (RetE L a n c w r) := by
  cases s with
  | error l =>
    obtain ⟨rfl, hA⟩ := hs
    obtain rfl := he l rfl
    refine (ref5_unary_bad a n c i w).mono ?_
    rintro e w' ⟨hx, rfl⟩
    exact ⟨hx, i, true, zeroH, none, 0, 0, rfl, ⟨rfl, hA⟩, fun t l h => by cases h⟩
  | ok q =>
    obtain ⟨u, l⟩ := q
    obtain ⟨rfl, hA, hE'⟩ := hs
    exact hE L a n c i l r w hL hA hE' (hr u l rfl)
def partsF (f : Nat) : List ByteArray → List Tm → List Tk → Option (Res (List Tm))
  | [], acc, l => some (.ok (acc, l))
  | x :: xs, acc, l => andThen (some (if x = ByteArray.empty then .ok ((), l) else getW x l)) fun _ l1 => andThen (parseF f .expr l1) fun t l2 => partsF f xs (acc ++ [t]) l2
def RetK (L : List Tk) (a : Option Addr) (n c : Nat) (w : World) (m : Nat) (r : Res (List Tm)) (e : Ending) (w' : World) : Prop :=
  Ext w w' ∧ ∃ (i : Nat) (bad : Bool) (v : Value) (xs : List Value), e = .returned (.tuple #[.agg #[.slice a n c, .int .i64 (i : Nat), .bool bad], v]) ∧ StS L n i bad r ∧ w'.ownsRow w.heap.size 28 8 v m xs ∧ (∀ u ∈ xs, u.oneCell' = true) ∧ ∀ ts l, r = .ok (ts, l) → FlatA (fun b => b < w.heap.size ∨ v.ownBlock = some b) w' ts xs
theorem FlatA.grown {sb : Nat} {v v' : Value} {w w' : World} {l : List Tm} {xs : List Value} (h : FlatA (KidA sb v) w l xs) (hg : w.grownBy w' v.ownBlock) {N : Nat} (hw : v'.ownBlock = v.ownBlock ∨ ∀ k, v'.ownBlock = some k → N ≤ k) (hN : w.heap.size ≤ N) : FlatA (KidA sb v') w' l xs :=
  h.move (fun b hb hA' => by
    rcases hA' with h | h
    · exact .inl h
    · rcases hw with hw | hw
      · exact .inr (by rw [← hw]; exact h)
      · have := hw b h; omega) fun p u hA hu => hg.cell hu (fun e => hA (.inr e.symm))
theorem IsTmsA.grown5 {A : Nat → Prop} {sb : Nat} {v v' : Value} {w w' : World} {l : List Tm} {aa : Option Addr} {len : Nat} (h : IsTmsA A w l aa len) (hA : ∀ b, KidA sb v b → A b) (hg : w.grownBy w' v.ownBlock) {N : Nat} (hw : v'.ownBlock = v.ownBlock ∨ ∀ k, v'.ownBlock = some k → N ≤ k) (hN : w.heap.size ≤ N) : IsTmsA (KidA sb v') w' l aa len :=
  h.move (fun b hb hA' => by
    rcases hA' with h | h
    · exact hA b (.inl h)
    · rcases hw with hw | hw
      · exact hA b (.inr (by rw [← hw]; exact h))
      · have := hw b h; omega) fun p u hq hu => hg.cell hu (fun e => hq (hA _ (.inr e.symm)))
theorem owns_none5 (w : World) (base : Nat) (e : TypeId) (size : Nat) (hb : base ≤ w.heap.size) : (w.alloc (.cells #[] e)).ownsRow base e size (.slice (some ⟨w.heap.size, 0, none⟩) 0 0) 0 [] :=
  ⟨by simp, .inr ⟨w.heap.size, 0, #[], rfl, hb, heap_alloc_new w _, Nat.le_refl _, Nat.zero_le _, by simp, by simp⟩⟩
theorem owns_low {w : World} {base base' : Nat} {e : TypeId} {size n : Nat} {v : Value} {xs : List Value} (h : w.ownsRow base e size v n xs) (hb : base' ≤ base) : w.ownsRow base' e size v n xs := ⟨h.1, h.2.imp id fun ⟨g, cap, cur, e, hg, r⟩ => ⟨g, cap, cur, e, Nat.le_trans hb hg, r⟩⟩
theorem parts_step {f : Nat} {x : ByteArray} {ws : List ByteArray} {r : Res (List Tm)} {q : Res (List Tm)} (hok : ∀ ts l, q = .ok (ts, l) → partsF f (x :: ws) ts l = some r) (her : ∀ l, q = .error l → r = .error l) :
    ∃ (r1 : Res Tm) (q2 : Res (List Tm)), (∀ u l, thenR q (fun l => if x = ByteArray.empty then .ok ((), l) else getW x l) = .ok (u, l) → parseF f .expr l = some r1) ∧ (∀ l, thenR q (fun l => if x = ByteArray.empty then .ok ((), l) else getW x l) = .error l → r1 = .error l) ∧
      (∀ (L : List Tk) (n i : Nat) (bad : Bool), StS L n i bad r1 → StS L n i bad q2) ∧ (∀ ts2 l2, q2 = .ok (ts2, l2) → ∃ ts l t, q = .ok (ts, l) ∧ r1 = .ok (t, l2) ∧ ts2 = ts ++ [t] ∧ partsF f ws ts2 l2 = some r) ∧ (∀ l, q2 = .error l → r = .error l) := by
  cases q with
  | error l =>
    have h := her l rfl
    subst h
    exact ⟨.error l, .error l, fun u l' h => (by cases h), fun l' h => (by cases h; rfl), fun L n i bad h => h, fun ts2 l2 h => (by cases h), fun l' h => (by cases h; rfl)⟩
  | ok p =>
    obtain ⟨ts, l⟩ := p
    have hp := hok ts l rfl
    unfold partsF at hp
    show ∃ (r1 : Res Tm) (q2 : Res (List Tm)), (∀ u l', (if x = ByteArray.empty then .ok ((), l) else getW x l) = .ok (u, l') → parseF f .expr l' = some r1) ∧ (∀ l', (if x = ByteArray.empty then .ok ((), l) else getW x l) = .error l' → r1 = .error l') ∧ _
    generalize (if x = ByteArray.empty then (.ok ((), l) : Res Unit) else getW x l) = g at *
    cases g with
    | error l1 =>
      have hp : some (.error l1) = some r := hp
      cases hp
      exact ⟨.error l1, .error l1, fun u l' h => (by cases h), fun l' h => (by cases h; rfl), fun L n i bad h => h, fun ts2 l2 h => (by cases h), fun l' h => (by cases h; rfl)⟩
    | ok p1 =>
      obtain ⟨u1, l1⟩ := p1
      have hp : andThen (parseF f .expr l1) (fun t l2 => partsF f ws (ts ++ [t]) l2) = some r := hp
      cases hx : parseF f .expr l1 with
      | none => rw [hx] at hp; cases hp
      | some r1 =>
        rw [hx] at hp
        cases r1 with
        | error l2 =>
          have hp : some (.error l2) = some r := hp
          cases hp
          exact ⟨.error l2, .error l2, fun u l' h => (by cases h; exact hx), fun l' h => (by cases h), fun L n i bad h => h, fun ts2 l2 h => (by cases h), fun l' h => (by cases h; rfl)⟩
        | ok p2 =>
          obtain ⟨t, l2⟩ := p2
          have hp : partsF f ws (ts ++ [t]) l2 = some r := hp
          exact ⟨.ok (t, l2), .ok (ts ++ [t], l2), fun u l' h => (by cases h; exact hx), fun l' h => (by cases h), fun L n i bad h => h, fun ts2 l3 h => (by cases h; exact ⟨ts, l, t, rfl, rfl, rfl, hp⟩), fun l' h => (by cases h)⟩
theorem SBlk.ext {w w' : World} {g : Nat} {a : Option Addr} {n c i : Nat} {bad : Bool} (h : SBlk w g a n c i bad) (hx : Ext w w') : SBlk w' g a n c i bad := Blk.ext h hx
theorem FlatA.extx {A X : Nat → Prop} {w w' : World} (hx : ExtX X w w') (hX : ∀ b, X b → A b) {l : List Tm} {xs : List Value} (h : FlatA A w l xs) : FlatA A w' l xs := h.move (fun _ _ h => h) fun p u hA hu => hx.cell (fun g => hA (hX _ g)) hu
theorem FlatA.ext {A : Nat → Prop} {w w' : World} (hx : Ext w w') {l : List Tm} {xs : List Value} (h : FlatA A w l xs) : FlatA A w' l xs := h.move (fun _ _ h => h) fun _ _ _ hu => hx.cell hu
theorem list_at (w : World) (l : List Value) (T : TypeId) : ∀ i u, l[i]? = some u → (w.alloc (.cells l.toArray T)).cell? ((⟨w.heap.size, 0, none⟩ : Addr).add i) = some u := fun i u hu => by
  rw [Addr.add_lit, Nat.zero_add]
  exact (World.cell?_alloc_new w _ _ _).trans (by simpa using hu)
def t8 (x : Hd) (a : Option Addr) (n c : Nat) : List Value := [.int .u8 x.k, .int .u8 x.op, .int .i64 x.pos, .int .i64 x.n, .string x.name, .string x.arg, .string x.exn, .slice a n c]
theorem t8_one (x : Hd) (a : Option Addr) (n c : Nat) : ∀ u ∈ t8 x a n c, u.oneCell' = true := by
  intro u hu
  simp [t8] at hu
  rcases hu with rfl | rfl | rfl | rfl | rfl | rfl | rfl | rfl <;> rfl
theorem IsRow.drop_at {ws : List ByteArray} {j : Nat} {x : ByteArray} (h : ws[j]? = some x) : ws.drop j = x :: ws.drop (j + 1) := by
  have hl : j < ws.length := lt_of_some_ h
  rw [List.drop_eq_getElem_cons hl]
  rw [List.getElem?_eq_getElem hl] at h
  cases h
  rfl
set_option maxRecDepth 60000 in
set_option maxHeartbeats 8000000 in
theorem ref5_parts {α : Type} {f : Nat} (hE : DoesS 44 #[] .expr f) (ws : List ByteArray) (hws : ws.length ≤ 3) (L : List Tk) (a : Option Addr) (n c i : Nat) (bad : Bool) (s : Res α) (r : Res (List Tm)) (w : World) (aw : Option Addr) (hr : IsRow w (vstr ws) aw ws.length) (hL : IsL w L a n c) (hs : StS L n i bad s) (hp : ∀ u l, s = .ok (u, l) → partsF f ws [] l = some r) (he : ∀ l, s = .error l → r = .error l) :
    Calls Tryz.prog 71 #[.agg #[.slice a n c, .int .i64 (i : Nat), .bool bad], .slice aw ws.length ws.length] w (RetK L a n c w ws.length r) := by
  have HR := hid hr
  have HL := hid hL
  have HE := hid hE
  obtain ⟨q0, hq0⟩ : ∃ q0 : Res (List Tm), StS L n i bad q0 ∧ (∀ ts l, q0 = .ok (ts, l) → ts = [] ∧ partsF f ws ts l = some r) ∧ (∀ l, q0 = .error l → r = .error l) := by
    cases s with
    | error l => exact ⟨.error l, hs, fun ts l' h => (by cases h), fun l' h => (by cases h; exact he l rfl)⟩
    | ok q =>
      obtain ⟨u, l⟩ := q
      exact ⟨.ok ([], l), hs, fun ts l' h => (by cases h; exact ⟨rfl, hp u l rfl⟩), fun l' h => by cases h⟩
  have HQ := hid hq0
  obtain ⟨i0, hi0, hz0, hz1', hz2'⟩ := info_parts infoTmP
  have HI := hid (And.intro hi0 (And.intro hz0 (And.intro hz1' hz2')))
  clear hr hL hE hs hp he hq0 hi0 hz0 hz1' hz2'
  go_enter Tryz.func71, Tryz.ntmps71
  go_wp2_with fail
  go_loopg [6, 13] (ws.length) (fun g s0 ix wr => ∃ (v : Value) (j i' : Nat) (bad' : Bool) (xs : List Value) (q : Res (List Tm)), v = s0 ∧ g = ws.length - j ∧ ix = .int .i64 j ∧ j ≤ ws.length ∧ wr.ownsRow (w.heap.size + 1 + 1) 28 8 v j xs ∧ (∀ u ∈ xs, u.oneCell' = true) ∧ SBlk wr w.heap.size a n c i' bad' ∧ Blk wr (w.heap.size + 1) 71 #[.slice none 0 0, .int .i64 0, .bool false] ∧ StS L n i' bad' q ∧ (∀ ts l, q = .ok (ts, l) → FlatA (KidA (w.heap.size + 1) v) wr ts xs ∧ partsF f (ws.drop j) ts l = some r) ∧ (∀ l, q = .error l → r = .error l) ∧ Ext w wr)
  case atStart =>
    refine ⟨_, 0, i, bad, [], q0, rfl, rfl, rfl, Nat.zero_le _, ?_, by simp, ?_, ?_, HQ.out.1, ?_, HQ.out.2.2, by (exact eX)⟩
    · have h := owns_none5 ((w.alloc (.cells #[.slice a n c, .int .i64 (i : Nat), .bool bad] 71)).alloc (.cells #[.slice none 0 0, .int .i64 0, .bool false] 71)) (w.heap.size + 1 + 1) 28 8 (by simp)
      rw [World.size_alloc, World.size_alloc] at h
      exact h
    · exact ((Blk.new w 71 #[.slice a n c, .int .i64 (i : Nat), .bool bad]).alloc _).alloc _
    · have h := (Blk.new (w.alloc (.cells #[.slice a n c, .int .i64 (i : Nat), .bool bad] 71)) 71 #[.slice none 0 0, .int .i64 0, .bool false]).alloc (.cells #[] 28)
      rw [World.size_alloc] at h
      exact h
    · intro ts l h
      obtain ⟨rfl, hq⟩ := HQ.out.2.1 ts l h
      exact ⟨by simp [FlatA], hq⟩
  case round =>
    obtain ⟨v, j, i', bad', xs, q, rfl, rfl, rfl, hj, hO, h1, hS, hT, hq, hok, her, hx⟩ := hrel
    by_cases hlt : j < ws.length
    · obtain ⟨x, b, o, g, rfl, qx0⟩ := HR.out.str hlt
      have hbw : b < w.heap.size := World.block_lt_of_cell? _ _ qx0
      have qx := hx.cell qx0
      have nw := fun W (h : ExtX (· = w.heap.size) wr W) => h.cell (p := ⟨b, o + j, none⟩) (show ¬ b = w.heap.size by omega) qx
      have hz : (j : Int) < (ws.length : Int) := by omega
      have hdr := IsRow.drop_at g
      obtain ⟨r1, q2, hr1, her1, hst, hok2, her2⟩ := parts_step (f := f) (x := x) (ws := ws.drop (j + 1)) (r := r) (q := q) (fun ts l h => by rw [← hdr]; exact (hok ts l h).2) her
      have HFL : Hid (∀ ts l, q = .ok (ts, l) → FlatA (KidA (w.heap.size + 1) v) wr ts xs) := hid fun ts l h => (hok ts l h).1
      have HO := hid hO
      have H1 := hid h1
      have HX := hid hx
      have HST := hid hst
      have HOK2 := hid hok2
      have HER2 := hid her2
      have HS := hid hS
      have HB := hid hT
      have hsz := Below.size hx
      clear hdr hok her hst hok2 her2 g
      by_cases hx0 : x = ByteArray.empty
      · subst hx0
        have hs2 : StS L n i' bad' (thenR q fun l => if ByteArray.empty = ByteArray.empty then (.ok ((), l) : Res Unit) else getW ByteArray.empty l) := by
          cases q with
          | error l => exact hq
          | ok p => exact hq
        obtain ⟨W2, hW2⟩ : ∃ W2, W2 = wr := ⟨_, rfl⟩
        obtain ⟨i2, hi2⟩ : ∃ i2, i2 = i' := ⟨_, rfl⟩
        obtain ⟨bad2, hbad2⟩ : ∃ b2, b2 = bad' := ⟨_, rfl⟩
        have HS2 : Hid (SBlk W2 w.heap.size a n c i2 bad2) := hid (by rw [hW2, hi2, hbad2]; exact HS.out)
        have HB2 : Hid (Blk W2 (w.heap.size + 1) 71 #[.slice none 0 0, .int .i64 0, .bool false]) := hid (by rw [hW2]; exact HB.out)
        have HY2 : Hid (Ext w W2) := hid (by rw [hW2]; exact hx)
        have HO2 : Hid (W2.ownsRow (w.heap.size + 1 + 1) 28 8 v j xs) := hid (by rw [hW2]; exact HO.out)
        have HF2 : Hid (∀ ts l, q = .ok (ts, l) → FlatA (KidA (w.heap.size + 1) v) W2 ts xs) := hid (by rw [hW2]; exact HFL.out)
        have hs2 : StS L n i2 bad2 (thenR q fun l => if ByteArray.empty = ByteArray.empty then (.ok ((), l) : Res Unit) else getW ByteArray.empty l) := by rw [hi2, hbad2]; exact hs2
        have qx2 : W2.cell? ⟨b, o + j, none⟩ = some (.string ByteArray.empty) := by rw [hW2]; exact qx
        have he0 := empty_list0
        rw [← hW2]
        clear hq hS hT hx nw qx hW2 hi2 hbad2 HS HB HO HFL HX
        have HOW2 := HO2
        have KE := hid (ref5_exprS HE.out L a n c i2 bad2 _ r1 W2 (HL.out.ext HY2.out) hs2 hr1 her1)
        obtain ⟨p0, p1, p2, f0, f1, f2, l0⟩ := SBlk.open_ HS2.out
        have hz2 := Below.size HY2.out
        have hb2 := HB2.out.lt
        clear hs2 hr1 her1
        go_upto_region 9 with (go_at_call 44; refine (KE.out).mono ?_; rintro e w3 ⟨x3, i3, bad3, y, ak, nk, ck, rfl, hs3, hT3⟩; obtain ⟨m0, m1, m2, k0, k1, k2, ll0⟩ := SBlk.open_ (SBlk.ext HS2.out x3))
        have hs3z := Below.size x3
        have S4 : SBlk ((((((w3.setCell ⟨w.heap.size, 0, none⟩ (.slice a n c)).setCell ⟨w.heap.size, 1, none⟩ (.int .i64 (i3 : Nat))).setCell ⟨w.heap.size, 2, none⟩ (.bool bad3)).alloc (.cells #[.slice a n c, .int .i64 (i3 : Nat), .bool bad3] 71)).alloc (.cells #[.int .u8 y.k, .int .u8 y.op, .int .i64 y.pos, .int .i64 y.n, .string y.name, .string y.arg, .string y.exn, .slice ak nk ck] 28))) w.heap.size a n c i3 bad3 := ((Blk.lay3 (SBlk.ext HS2.out x3) (u0 := .slice a n c) (u1 := .int .i64 (i3 : Nat)) (u2 := .bool bad3)).alloc _).alloc _
        have X34 : ExtX (· = w.heap.size) w3 ((((((w3.setCell ⟨w.heap.size, 0, none⟩ (.slice a n c)).setCell ⟨w.heap.size, 1, none⟩ (.int .i64 (i3 : Nat))).setCell ⟨w.heap.size, 2, none⟩ (.bool bad3)).alloc (.cells #[.slice a n c, .int .i64 (i3 : Nat), .bool bad3] 71)).alloc (.cells #[.int .u8 y.k, .int .u8 y.op, .int .i64 y.pos, .int .i64 y.n, .string y.name, .string y.arg, .string y.exn, .slice ak nk ck] 28))) := (((((ExtX.refl (A := (· = w.heap.size)) w3).setCell (p := ⟨w.heap.size, 0, none⟩) (.inl rfl) (.slice a n c)).setCell (p := ⟨w.heap.size, 1, none⟩) (.inl rfl) (.int .i64 (i3 : Nat))).setCell (p := ⟨w.heap.size, 2, none⟩) (.inl rfl) (.bool bad3)).alloc _).alloc _
        have T4 : Blk ((((((w3.setCell ⟨w.heap.size, 0, none⟩ (.slice a n c)).setCell ⟨w.heap.size, 1, none⟩ (.int .i64 (i3 : Nat))).setCell ⟨w.heap.size, 2, none⟩ (.bool bad3)).alloc (.cells #[.slice a n c, .int .i64 (i3 : Nat), .bool bad3] 71)).alloc (.cells #[.int .u8 y.k, .int .u8 y.op, .int .i64 y.pos, .int .i64 y.n, .string y.name, .string y.arg, .string y.exn, .slice ak nk ck] 28))) (w3.heap.size + 1) 28 #[.int .u8 y.k, .int .u8 y.op, .int .i64 y.pos, .int .i64 y.n, .string y.name, .string y.arg, .string y.exn, .slice ak nk ck] := by
          have h := Blk.new ((((w3.setCell ⟨w.heap.size, 0, none⟩ (.slice a n c)).setCell ⟨w.heap.size, 1, none⟩ (.int .i64 (i3 : Nat))).setCell ⟨w.heap.size, 2, none⟩ (.bool bad3)).alloc (.cells #[.slice a n c, .int .i64 (i3 : Nat), .bool bad3] 71)) 28 #[.int .u8 y.k, .int .u8 y.op, .int .i64 y.pos, .int .i64 y.n, .string y.name, .string y.arg, .string y.exn, .slice ak nk ck]
          rw [show ((((w3.setCell ⟨w.heap.size, 0, none⟩ (.slice a n c)).setCell ⟨w.heap.size, 1, none⟩ (.int .i64 (i3 : Nat))).setCell ⟨w.heap.size, 2, none⟩ (.bool bad3)).alloc (.cells #[.slice a n c, .int .i64 (i3 : Nat), .bool bad3] 71)).heap.size = w3.heap.size + 1 by simp [World.setCell]] at h
          exact h
        clear p0 p1 p2 f0 f1 f2 l0 m0 m1 m2 k0 k1 k2 ll0
        generalize ((((((w3.setCell ⟨w.heap.size, 0, none⟩ (.slice a n c)).setCell ⟨w.heap.size, 1, none⟩ (.int .i64 (i3 : Nat))).setCell ⟨w.heap.size, 2, none⟩ (.bool bad3)).alloc (.cells #[.slice a n c, .int .i64 (i3 : Nat), .bool bad3] 71)).alloc (.cells #[.int .u8 y.k, .int .u8 y.op, .int .i64 y.pos, .int .i64 y.n, .string y.name, .string y.arg, .string y.exn, .slice ak nk ck] 28))) = W4 at *
        have O4 := hid (owns_keep X34 (fun k (e : k = w.heap.size) => by omega) (owns_ext x3 HO2.out))
        have F4 : Hid (∀ ts l, q = .ok (ts, l) → FlatA (KidA (w.heap.size + 1) v) W4 ts xs) := hid fun ts l h => ((HF2.out ts l h).ext x3).extx X34 (fun b (e : b = w.heap.size) => .inl (by omega))
        have K4 : Hid (∀ t l, r1 = .ok (t, l) → t.head = y ∧ y.Fits ∧ nk ≤ ck ∧ ck ≤ 9223372036854775807 ∧ IsTmsA (fun b => b < W2.heap.size) W4 t.kids ak nk) := hid fun t l h => by
          obtain ⟨e1, e2, e3, e4, e5⟩ := hT3 t l h
          exact ⟨e1, e2, e3, e4, e5.extx X34 (fun b (e : b = w.heap.size) => by omega)⟩
        have Y4 : Ext w W4 := ExtX.ext (HY2.out.trans x3) X34 (fun b (e : b = w.heap.size) => by omega)
        have hz4 := Below.size Y4
        have hw24 : W2.heap.size ≤ W4.heap.size := Nat.le_trans hs3z X34.size
        have HS4 := hid S4
        have HY4 := hid Y4
        have HB4 := hid (Blk.extx (HB2.out.ext x3) X34 (show ¬ w.heap.size + 1 = w.heap.size by omega))
        have HS3 := hid hs3
        obtain ⟨c0, c1, c2, c3, c4, c5, c6, c7⟩ := T4.eight
        have lt4 := T4.lt
        have ls4 := Blk.lt S4
        have hrow := fun k hk => O4.out.lt k hk
        clear S4 X34 T4 hT3 hs3 Y4 x3 HO2 HF2 HB2 HS2
        go_wp2_with (at_builtin; refine wpList_append_mine rfl (.tmp 33) (.tmp 35) 26 ?r0 (w.heap.size + 1 + 1) 28 i0 (.agg #[.int .u8 0, .int .u8 0, .int .i64 0, .int .i64 0, .string ⟨#[]⟩, .string ⟨#[]⟩, .string ⟨#[]⟩, .slice none 0 0]) 8 96 ?r1 ?r2 ?r3 ?r4 ?r5 ?r6 ?r7 v j xs ?r8 ?r9 ⟨W4.heap.size, 0, none⟩ 1 1 (t8 y ak nk ck) ?r10 ?r11 ?r12 ?r13 ?r14 ?r15 ?r16 ?r17)
        case r0 => rfl
        case r1 => exact Tryz.underlying26
        case r2 => exact HI.out.1
        case r3 => exact HI.out.2.1
        case r4 => exact HI.out.2.2.1
        case r5 => exact HI.out.2.2.2
        case r6 => rfl
        case r7 => decide
        case r8 => rfl
        case r9 => exact owns_ext ((Ext.refl _).alloc _) O4.out
        case r10 => rfl
        case r11 => rfl
        case r12 => exact list_at W4 (t8 y ak nk ck) _
        case r13 => exact t8_one y ak nk ck
        case r14 => unfold maxLen; omega
        case r15 => omega
        case r16 => simp; omega
        case r17 =>
          intro v9 w9 ho9 hg9 hw9
          have S9 : SBlk w9 w.heap.size a n c i3 bad3 := (hg9.block w.heap.size (by simp; omega) (fun e => by have := hrow _ e.symm; omega)).trans (Blk.alloc HS4.out _)
          have B9 := (hg9.block (w.heap.size + 1) (by have := HB4.out.lt; simp; omega) (fun e => by have := hrow _ e.symm; omega)).trans (Blk.alloc HB4.out _)
          have Y9 : Ext w w9 := ext_grown hg9 (HY4.out.alloc _) (fun k hk => by have := hrow k hk; omega)
          have F9 : ∀ ts2 l2, q2 = .ok (ts2, l2) → FlatA (KidA (w.heap.size + 1) v9) w9 ts2 (xs ++ t8 y ak nk ck) ∧ partsF f (ws.drop (j + 1)) ts2 l2 = some r := fun ts2 l2 h => by
            obtain ⟨ts, l, t, hq, h1', rfl, hp⟩ := HOK2.out ts2 l2 h
            obtain ⟨rfl, hf, g1, g2, hk⟩ := K4.out t l2 h1'
            refine ⟨FlatA.append (((F4.out ts l hq).ext ((Ext.refl _).alloc _)).grown hg9 hw9 (by simp)) ⟨ak, nk, ck, [], by simp [t8, tcells], hf, g1, g2, (hk.ext ((Ext.refl _).alloc _)).grown5 (fun b hb => ?_) hg9 hw9 (by simp), rfl⟩, hp⟩
            rcases hb with hb | hb
            · show b < W2.heap.size
              have hb : b ≤ w.heap.size + 1 := hb
              omega
            · have := HOW2.out.lt b hb
              exact this.2
          have H9 := hid (And.intro S9 (And.intro B9 (And.intro Y9 (And.intro F9 ho9))))
          clear S9 B9 Y9 F9 ho9 hg9 hw9 hrow
          go_wp2_with fail
          go_roundg (ws.length - (j + 1))
          case rel => exact ⟨v9, j + 1, i3, bad3, _, q2, rfl, rfl, by go_num, by omega, H9.out.2.2.2.2, (by intro u hu; rcases List.mem_append.1 hu with hu | hu; exact H1.out u hu; exact t8_one y ak nk ck u hu), H9.out.1, H9.out.2.1, HST.out _ _ _ _ HS3.out, H9.out.2.2.2.1, HER2.out, H9.out.2.2.1⟩
          case measure => omega
      · have hb0 : (x.toList == ([] : List UInt8)) = false := by
          have := ne_beq hx0
          rwa [empty_list0] at this
        have hq3 : ∀ (i2 : Nat) (bad2 : Bool), StS L n i2 bad2 (thenR q (getW x)) → StS L n i2 bad2 (thenR q fun l => if x = ByteArray.empty then (.ok ((), l) : Res Unit) else getW x l) := fun i2 bad2 h => by
          have e : (fun l => if x = ByteArray.empty then (.ok ((), l) : Res Unit) else getW x l) = getW x := by funext l; rw [if_neg hx0]
          rw [e]
          exact h
        have KW := hid fun W (h : Ext wr W) => ref5_wantS L a n c i' bad' q x hx0 W (HL.out.ext (hx.trans h)) hq
        have HQ3 := hid hq3
        obtain ⟨p0, p1, p2, f0, f1, f2, l0⟩ := SBlk.open_ hS
        clear hx0 hq3 hq hS hT
        go_upto_region 6 with fail
        refine wp_region_held_drew (S := fun w' => ExtX (· = w.heap.size) wr w') (by kernel_rfl) (by (try dsimp only); (exact xX)) (fun hHeld => ?_)
        refine tL 1 ?_;try simp only [Act.put,pA,pB,pC]
        refine tL 2 ?_;try simp only [Act.put,pA,pB,pC]
        refine tL 3 ?_;try simp only [Act.put,pA,pB,pC]
        refine tL 4 ?_;try simp only [Act.put,pA,pB,pC]
        refine dK 0 fun K hK => ?_; go_simp; refine hK.out _ _ (by (try dsimp only); (exact xX)) (fun hHeld => ?_); clear hK K; try simp only [Act.put,pA,pB,pC]
        refine dK 5 fun K hK => ?_; go_simp; (first | (refine (KW.out _ (by (exact eX))).mono ?_; rintro e w2 ⟨x2, i2, bad2, rfl, hs2⟩; have z2 : ExtX (· = w.heap.size) wr w2 := ExtX.of ((by (exact eX) : Ext wr _).trans x2); have S2 := SBlk.ext HS.out ((by (exact eX) : Ext wr _).trans x2); obtain ⟨m0, m1, m2, k0, k1, k2, ll0⟩ := SBlk.open_ S2; have HS2' := hid (Blk.lay3 S2 (u0 := .slice a n c) (u1 := .int .i64 (i2 : Nat)) (u2 := .bool bad2)); clear S2)); (try (focus (go_wp2_with fail))); refine hK.out _ _ (by (try dsimp only); (exact xX)) (fun hHeld => ?_); clear hK K; try simp only [Act.put,pA,pB,pC]
        refine dK 6 fun K hK => ?_; go_simp; refine hK.out _ _ (by (try dsimp only); (exact xX)) (fun hHeld => ?_); clear hK K; try simp only [Act.put,pA,pB,pC]
        refine wpAnyH_done (by kernel_rfl) ?_ _
        have HS2 : Hid (SBlk (((w2.setCell ⟨w.heap.size, 0, none⟩ (.slice a n c)).setCell ⟨w.heap.size, 1, none⟩ (.int .i64 (i2 : Nat))).setCell ⟨w.heap.size, 2, none⟩ (.bool bad2)) w.heap.size a n c i2 bad2) := hid HS2'.out
        have HB2 := hid (Blk.extx HB.out hHeld (show ¬ w.heap.size + 1 = w.heap.size by omega))
        have HO2 := hid (owns_keep hHeld (fun k (e : k = w.heap.size) => by omega) HO.out)
        have HF2 : Hid (∀ ts l, q = .ok (ts, l) → FlatA (KidA (w.heap.size + 1) v) (((w2.setCell ⟨w.heap.size, 0, none⟩ (.slice a n c)).setCell ⟨w.heap.size, 1, none⟩ (.int .i64 (i2 : Nat))).setCell ⟨w.heap.size, 2, none⟩ (.bool bad2)) ts xs) := hid fun ts l h => (HFL.out ts l h).extx hHeld (fun b (e : b = w.heap.size) => .inl (by omega))
        have HY2 := hid (ExtX.ext HX.out hHeld (fun b (e : b = w.heap.size) => by omega))
        have hs2 := HQ3.out i2 bad2 hs2
        have HOW2 := HO2
        clear HS2' hHeld z2 m0 m1 m2 k0 k1 k2 ll0 p0 p1 p2 f0 f1 f2 l0 HX HS HB HO HFL nw qx KW HQ3 x2
        generalize (((w2.setCell ⟨w.heap.size, 0, none⟩ (.slice a n c)).setCell ⟨w.heap.size, 1, none⟩ (.int .i64 (i2 : Nat))).setCell ⟨w.heap.size, 2, none⟩ (.bool bad2)) = W2 at *
        have KE := hid (ref5_exprS HE.out L a n c i2 bad2 _ r1 W2 (HL.out.ext HY2.out) hs2 hr1 her1)
        obtain ⟨p0, p1, p2, f0, f1, f2, l0⟩ := SBlk.open_ HS2.out
        have hz2 := Below.size HY2.out
        have hb2 := HB2.out.lt
        clear hs2 hr1 her1
        go_upto_region 9 with (go_at_call 44; refine (KE.out).mono ?_; rintro e w3 ⟨x3, i3, bad3, y, ak, nk, ck, rfl, hs3, hT3⟩; obtain ⟨m0, m1, m2, k0, k1, k2, ll0⟩ := SBlk.open_ (SBlk.ext HS2.out x3))
        have hs3z := Below.size x3
        have S4 : SBlk ((((((w3.setCell ⟨w.heap.size, 0, none⟩ (.slice a n c)).setCell ⟨w.heap.size, 1, none⟩ (.int .i64 (i3 : Nat))).setCell ⟨w.heap.size, 2, none⟩ (.bool bad3)).alloc (.cells #[.slice a n c, .int .i64 (i3 : Nat), .bool bad3] 71)).alloc (.cells #[.int .u8 y.k, .int .u8 y.op, .int .i64 y.pos, .int .i64 y.n, .string y.name, .string y.arg, .string y.exn, .slice ak nk ck] 28))) w.heap.size a n c i3 bad3 := ((Blk.lay3 (SBlk.ext HS2.out x3) (u0 := .slice a n c) (u1 := .int .i64 (i3 : Nat)) (u2 := .bool bad3)).alloc _).alloc _
        have X34 : ExtX (· = w.heap.size) w3 ((((((w3.setCell ⟨w.heap.size, 0, none⟩ (.slice a n c)).setCell ⟨w.heap.size, 1, none⟩ (.int .i64 (i3 : Nat))).setCell ⟨w.heap.size, 2, none⟩ (.bool bad3)).alloc (.cells #[.slice a n c, .int .i64 (i3 : Nat), .bool bad3] 71)).alloc (.cells #[.int .u8 y.k, .int .u8 y.op, .int .i64 y.pos, .int .i64 y.n, .string y.name, .string y.arg, .string y.exn, .slice ak nk ck] 28))) := (((((ExtX.refl (A := (· = w.heap.size)) w3).setCell (p := ⟨w.heap.size, 0, none⟩) (.inl rfl) (.slice a n c)).setCell (p := ⟨w.heap.size, 1, none⟩) (.inl rfl) (.int .i64 (i3 : Nat))).setCell (p := ⟨w.heap.size, 2, none⟩) (.inl rfl) (.bool bad3)).alloc _).alloc _
        have T4 : Blk ((((((w3.setCell ⟨w.heap.size, 0, none⟩ (.slice a n c)).setCell ⟨w.heap.size, 1, none⟩ (.int .i64 (i3 : Nat))).setCell ⟨w.heap.size, 2, none⟩ (.bool bad3)).alloc (.cells #[.slice a n c, .int .i64 (i3 : Nat), .bool bad3] 71)).alloc (.cells #[.int .u8 y.k, .int .u8 y.op, .int .i64 y.pos, .int .i64 y.n, .string y.name, .string y.arg, .string y.exn, .slice ak nk ck] 28))) (w3.heap.size + 1) 28 #[.int .u8 y.k, .int .u8 y.op, .int .i64 y.pos, .int .i64 y.n, .string y.name, .string y.arg, .string y.exn, .slice ak nk ck] := by
          have h := Blk.new ((((w3.setCell ⟨w.heap.size, 0, none⟩ (.slice a n c)).setCell ⟨w.heap.size, 1, none⟩ (.int .i64 (i3 : Nat))).setCell ⟨w.heap.size, 2, none⟩ (.bool bad3)).alloc (.cells #[.slice a n c, .int .i64 (i3 : Nat), .bool bad3] 71)) 28 #[.int .u8 y.k, .int .u8 y.op, .int .i64 y.pos, .int .i64 y.n, .string y.name, .string y.arg, .string y.exn, .slice ak nk ck]
          rw [show ((((w3.setCell ⟨w.heap.size, 0, none⟩ (.slice a n c)).setCell ⟨w.heap.size, 1, none⟩ (.int .i64 (i3 : Nat))).setCell ⟨w.heap.size, 2, none⟩ (.bool bad3)).alloc (.cells #[.slice a n c, .int .i64 (i3 : Nat), .bool bad3] 71)).heap.size = w3.heap.size + 1 by simp [World.setCell]] at h
          exact h
        clear p0 p1 p2 f0 f1 f2 l0 m0 m1 m2 k0 k1 k2 ll0
        generalize ((((((w3.setCell ⟨w.heap.size, 0, none⟩ (.slice a n c)).setCell ⟨w.heap.size, 1, none⟩ (.int .i64 (i3 : Nat))).setCell ⟨w.heap.size, 2, none⟩ (.bool bad3)).alloc (.cells #[.slice a n c, .int .i64 (i3 : Nat), .bool bad3] 71)).alloc (.cells #[.int .u8 y.k, .int .u8 y.op, .int .i64 y.pos, .int .i64 y.n, .string y.name, .string y.arg, .string y.exn, .slice ak nk ck] 28))) = W4 at *
        have O4 := hid (owns_keep X34 (fun k (e : k = w.heap.size) => by omega) (owns_ext x3 HO2.out))
        have F4 : Hid (∀ ts l, q = .ok (ts, l) → FlatA (KidA (w.heap.size + 1) v) W4 ts xs) := hid fun ts l h => ((HF2.out ts l h).ext x3).extx X34 (fun b (e : b = w.heap.size) => .inl (by omega))
        have K4 : Hid (∀ t l, r1 = .ok (t, l) → t.head = y ∧ y.Fits ∧ nk ≤ ck ∧ ck ≤ 9223372036854775807 ∧ IsTmsA (fun b => b < W2.heap.size) W4 t.kids ak nk) := hid fun t l h => by
          obtain ⟨e1, e2, e3, e4, e5⟩ := hT3 t l h
          exact ⟨e1, e2, e3, e4, e5.extx X34 (fun b (e : b = w.heap.size) => by omega)⟩
        have Y4 : Ext w W4 := ExtX.ext (HY2.out.trans x3) X34 (fun b (e : b = w.heap.size) => by omega)
        have hz4 := Below.size Y4
        have hw24 : W2.heap.size ≤ W4.heap.size := Nat.le_trans hs3z X34.size
        have HS4 := hid S4
        have HY4 := hid Y4
        have HB4 := hid (Blk.extx (HB2.out.ext x3) X34 (show ¬ w.heap.size + 1 = w.heap.size by omega))
        have HS3 := hid hs3
        obtain ⟨c0, c1, c2, c3, c4, c5, c6, c7⟩ := T4.eight
        have lt4 := T4.lt
        have ls4 := Blk.lt S4
        have hrow := fun k hk => O4.out.lt k hk
        clear S4 X34 T4 hT3 hs3 Y4 x3 HO2 HF2 HB2 HS2
        go_wp2_with (at_builtin; refine wpList_append_mine rfl (.tmp 33) (.tmp 35) 26 ?r0 (w.heap.size + 1 + 1) 28 i0 (.agg #[.int .u8 0, .int .u8 0, .int .i64 0, .int .i64 0, .string ⟨#[]⟩, .string ⟨#[]⟩, .string ⟨#[]⟩, .slice none 0 0]) 8 96 ?r1 ?r2 ?r3 ?r4 ?r5 ?r6 ?r7 v j xs ?r8 ?r9 ⟨W4.heap.size, 0, none⟩ 1 1 (t8 y ak nk ck) ?r10 ?r11 ?r12 ?r13 ?r14 ?r15 ?r16 ?r17)
        case r0 => rfl
        case r1 => exact Tryz.underlying26
        case r2 => exact HI.out.1
        case r3 => exact HI.out.2.1
        case r4 => exact HI.out.2.2.1
        case r5 => exact HI.out.2.2.2
        case r6 => rfl
        case r7 => decide
        case r8 => rfl
        case r9 => exact owns_ext ((Ext.refl _).alloc _) O4.out
        case r10 => rfl
        case r11 => rfl
        case r12 => exact list_at W4 (t8 y ak nk ck) _
        case r13 => exact t8_one y ak nk ck
        case r14 => unfold maxLen; omega
        case r15 => omega
        case r16 => simp; omega
        case r17 =>
          intro v9 w9 ho9 hg9 hw9
          have S9 : SBlk w9 w.heap.size a n c i3 bad3 := (hg9.block w.heap.size (by simp; omega) (fun e => by have := hrow _ e.symm; omega)).trans (Blk.alloc HS4.out _)
          have B9 := (hg9.block (w.heap.size + 1) (by have := HB4.out.lt; simp; omega) (fun e => by have := hrow _ e.symm; omega)).trans (Blk.alloc HB4.out _)
          have Y9 : Ext w w9 := ext_grown hg9 (HY4.out.alloc _) (fun k hk => by have := hrow k hk; omega)
          have F9 : ∀ ts2 l2, q2 = .ok (ts2, l2) → FlatA (KidA (w.heap.size + 1) v9) w9 ts2 (xs ++ t8 y ak nk ck) ∧ partsF f (ws.drop (j + 1)) ts2 l2 = some r := fun ts2 l2 h => by
            obtain ⟨ts, l, t, hq, h1', rfl, hp⟩ := HOK2.out ts2 l2 h
            obtain ⟨rfl, hf, g1, g2, hk⟩ := K4.out t l2 h1'
            refine ⟨FlatA.append (((F4.out ts l hq).ext ((Ext.refl _).alloc _)).grown hg9 hw9 (by simp)) ⟨ak, nk, ck, [], by simp [t8, tcells], hf, g1, g2, (hk.ext ((Ext.refl _).alloc _)).grown5 (fun b hb => ?_) hg9 hw9 (by simp), rfl⟩, hp⟩
            rcases hb with hb | hb
            · show b < W2.heap.size
              have hb : b ≤ w.heap.size + 1 := hb
              omega
            · have := HOW2.out.lt b hb
              exact this.2
          have H9 := hid (And.intro S9 (And.intro B9 (And.intro Y9 (And.intro F9 ho9))))
          clear S9 B9 Y9 F9 ho9 hg9 hw9 hrow
          go_wp2_with fail
          go_roundg (ws.length - (j + 1))
          case rel => exact ⟨v9, j + 1, i3, bad3, _, q2, rfl, rfl, by go_num, by omega, H9.out.2.2.2.2, (by intro u hu; rcases List.mem_append.1 hu with hu | hu; exact H1.out u hu; exact t8_one y ak nk ck u hu), H9.out.1, H9.out.2.1, HST.out _ _ _ _ HS3.out, H9.out.2.2.2.1, HER2.out, H9.out.2.2.1⟩
          case measure => omega
    · obtain rfl : j = ws.length := by omega
      have hqr : q = r := by
        cases q with
        | error l => exact (her l rfl).symm
        | ok p =>
          obtain ⟨ts, l⟩ := p
          have h := (hok ts l rfl).2
          rw [List.drop_length] at h
          exact Option.some.inj h
      subst hqr
      have hz : ¬ (ws.length : Int) < (ws.length : Int) := by omega
      have X9 : ExtX (· = w.heap.size + 1) wr (((wr.setCell ⟨w.heap.size + 1, 0, none⟩ (.slice a n c)).setCell ⟨w.heap.size + 1, 1, none⟩ (.int .i64 (i' : Nat))).setCell ⟨w.heap.size + 1, 2, none⟩ (.bool bad')) := (((ExtX.refl (A := (· = w.heap.size + 1)) wr).setCell (p := ⟨w.heap.size + 1, 0, none⟩) (.inl rfl) _).setCell (p := ⟨w.heap.size + 1, 1, none⟩) (.inl rfl) _).setCell (p := ⟨w.heap.size + 1, 2, none⟩) (.inl rfl) _
      have HB9 := hid (Blk.lay3 hT (u0 := .slice a n c) (u1 := .int .i64 (i' : Nat)) (u2 := .bool bad'))
      have HY9 := hid (ExtX.ext hx X9 (fun b (e : b = w.heap.size + 1) => by omega))
      have HO9 := hid (owns_low (owns_keep X9 (fun k (e : k = w.heap.size + 1) => by omega) hO) (show w.heap.size ≤ w.heap.size + 1 + 1 by omega))
      have HF9 : Hid (∀ ts l, q = .ok (ts, l) → FlatA (fun b => b < w.heap.size ∨ v.ownBlock = some b) (((wr.setCell ⟨w.heap.size + 1, 0, none⟩ (.slice a n c)).setCell ⟨w.heap.size + 1, 1, none⟩ (.int .i64 (i' : Nat))).setCell ⟨w.heap.size + 1, 2, none⟩ (.bool bad')) ts xs) := hid fun ts l h => ((hok ts l h).1.extx X9 (fun b (e : b = w.heap.size + 1) => .inl (by omega))).move (fun b hb h => by
        rcases h with h | h
        · exact .inl (by omega)
        · exact .inr h) (fun _ _ _ hu => hu)
      obtain ⟨p0, p1, p2, f0, f1, f2, l0⟩ := SBlk.open_ hS
      have b0 := hT.cell 0
      have b1 := hT.cell 1
      have b2 := hT.cell 2
      simp at b0 b1 b2
      have g0 := hT.frozen 0
      have g1 := hT.frozen 1
      have g2 := hT.frozen 2
      have lb := hT.lt
      have HQ9 := hid hq
      have H19 := hid h1
      clear X9 hO hok her hx hq h1 hS hT
      go_wp2_with fail
      obtain ⟨r0, r1, r2, -⟩ := SBlk.open_ HB9.out
      exact bodyPost_ret (v := .tuple #[.agg #[.slice a n c, .int .i64 (i' : Nat), .bool bad'], v]) (by simp [results, Tryz.results71, go_sem, r0, r1, r2]) rfl ⟨HY9.out, i', bad', v, xs, rfl, HQ9.out, HO9.out, H19.out, HF9.out⟩
def AvQ (lo b4 : Nat) (b : Nat) : Prop := b < lo ∨ b = b4
def leftR (q : Res Tm) : Nat := match q with
  | .ok (_, l) => l.length
  | .error _ => 0
structure LoopQ (L : List Tk) (a : Option Addr) (n c : Nat) (w : World) (b4 : Nat) (P : Tm → List Tk → Prop) (r : Res Tm) (g : Nat) (i : Nat) (bad : Bool) (x : Hd) (ak : Option Addr) (nk ck : Nat) (q : Res Tm) (wr : World) : Prop where
  g : g = leftR q
  s : SBlk wr w.heap.size a n c i bad
  z1 : Blk wr (w.heap.size + 1) 71 #[.slice none 0 0, .int .i64 0, .bool false]
  z2 : Blk wr (w.heap.size + 1 + 1) 28 zeroT
  t : Blk wr b4 28 #[.int .u8 x.k, .int .u8 x.op, .int .i64 x.pos, .int .i64 x.n, .string x.name, .string x.arg, .string x.exn, .slice ak nk ck]
  lt4 : w.heap.size + 1 + 1 < b4
  st : StS L n i bad q
  ok : ∀ t l, q = .ok (t, l) → t.head = x ∧ x.Fits ∧ nk ≤ ck ∧ ck ≤ 9223372036854775807 ∧ IsTmsA (AvQ (w.heap.size + 1 + 1 + 1) b4) wr t.kids ak nk ∧ P t l
  er : ∀ l, q = .error l → r = .error l
  x : Ext w wr
theorem blk3 {w w1 : World} {cs1 cs2 cs3 : Array Value} {T1 T2 T3 : TypeId} (x : Ext (((w.alloc (.cells cs1 T1)).alloc (.cells cs2 T2)).alloc (.cells cs3 T3)) w1) : Blk w1 w.heap.size T1 cs1 ∧ Blk w1 (w.heap.size + 1) T2 cs2 ∧ Blk w1 (w.heap.size + 1 + 1) T3 cs3 := by
  refine ⟨(((Blk.new w T1 cs1).alloc _).alloc _).ext x, ?_, ?_⟩
  · have h := (Blk.new (w.alloc (.cells cs1 T1)) T2 cs2).alloc (.cells cs3 T3)
    rw [World.size_alloc] at h
    exact h.ext x
  · have h := Blk.new ((w.alloc (.cells cs1 T1)).alloc (.cells cs2 T2)) T3 cs3
    rw [World.size_alloc, World.size_alloc] at h
    exact h.ext x
def w3s (w3 : World) (s : Nat) (a : Option Addr) (n c i : Nat) (bad : Bool) : World := ((w3.setCell ⟨s, 0, none⟩ (.slice a n c)).setCell ⟨s, 1, none⟩ (.int .i64 (i : Nat))).setCell ⟨s, 2, none⟩ (.bool bad)
theorem w3s_x {w3 : World} {s : Nat} {a : Option Addr} {n c i : Nat} {bad : Bool} : ExtX (· = s) w3 (w3s w3 s a n c i bad) := (((ExtX.refl (A := (· = s)) w3).setCell (p := ⟨s, 0, none⟩) (.inl rfl) _).setCell (p := ⟨s, 1, none⟩) (.inl rfl) _).setCell (p := ⟨s, 2, none⟩) (.inl rfl) _
theorem w3s_size {w3 : World} {s : Nat} {a : Option Addr} {n c i : Nat} {bad : Bool} : (w3s w3 s a n c i bad).heap.size = w3.heap.size := by simp [w3s, World.setCell]
theorem w3s_blk {w3 : World} {s : Nat} {a : Option Addr} {n c i i' : Nat} {bad bad' : Bool} (h : SBlk w3 s a n c i' bad') : SBlk (w3s w3 s a n c i bad) s a n c i bad := Blk.lay3 h
theorem kids_new {A : Nat → Prop} {w1 : World} {s lo : Nat} {a : Option Addr} {n c i : Nat} {bad : Bool} {o : Obj} {ks : List Tm} {ak : Option Addr} {nk : Nat} (h : IsTmsA A w1 ks ak nk) (hA : ∀ b, b < lo → A b) (hs : s < lo) : IsTmsA (AvQ lo w1.heap.size) ((w3s w1 s a n c i bad).alloc o) ks ak nk := by
  have h2 : IsTmsA (fun b => b < lo) (w3s w1 s a n c i bad) ks ak nk := IsTmsA.extx w3s_x (fun b (e : b = s) => by show b < lo; omega) (h.move (fun b _ hb => hA b hb) fun _ _ _ hu => hu)
  have h3 : IsTmsA (AvQ lo w1.heap.size) (w3s w1 s a n c i bad) ks ak nk := h2.move (fun b hb hA => by
    rcases hA with h | h
    · exact h
    · rw [w3s_size] at hb
      omega) fun _ _ _ hu => hu
  exact h3.ext ((Ext.refl _).alloc _)
theorem LoopQ.ext {L : List Tk} {a : Option Addr} {n c : Nat} {w : World} {b4 : Nat} {P : Tm → List Tk → Prop} {r : Res Tm} {g i : Nat} {bad : Bool} {x : Hd} {ak : Option Addr} {nk ck : Nat} {q : Res Tm} {wr W : World} (h : LoopQ L a n c w b4 P r g i bad x ak nk ck q wr) (hx : Ext wr W) : LoopQ L a n c w b4 P r g i bad x ak nk ck q W where
  g := h.g
  s := SBlk.ext h.s hx
  z1 := h.z1.ext hx
  z2 := h.z2.ext hx
  t := h.t.ext hx
  lt4 := h.lt4
  st := h.st
  ok := fun t l e => by
    obtain ⟨e1, e2, e3, e4, e5, e6⟩ := h.ok t l e
    exact ⟨e1, e2, e3, e4, e5.ext hx, e6⟩
  er := h.er
  x := h.x.trans hx
def w8s (w : World) (g : Nat) (x : Hd) (a : Option Addr) (n c : Nat) : World := (((((((w.setCell ⟨g, 0, none⟩ (.int .u8 x.k)).setCell ⟨g, 1, none⟩ (.int .u8 x.op)).setCell ⟨g, 2, none⟩ (.int .i64 x.pos)).setCell ⟨g, 3, none⟩ (.int .i64 x.n)).setCell ⟨g, 4, none⟩ (.string x.name)).setCell ⟨g, 5, none⟩ (.string x.arg)).setCell ⟨g, 6, none⟩ (.string x.exn)).setCell ⟨g, 7, none⟩ (.slice a n c)
theorem w8s_x {w : World} {g : Nat} {x : Hd} {a : Option Addr} {n c : Nat} : ExtX (· = g) w (w8s w g x a n c) := (ExtX.refl w).set8 (.inl rfl)
theorem LoopQ.ret {L : List Tk} {a : Option Addr} {n c : Nat} {w : World} {b4 : Nat} {P : Tm → List Tk → Prop} {r : Res Tm} {g i : Nat} {bad : Bool} {x : Hd} {ak : Option Addr} {nk ck : Nat} {wr W : World} (h : LoopQ L a n c w b4 P r g i bad x ak nk ck r wr) (hx : ExtX (fun b => b = w.heap.size + 1 ∨ b = w.heap.size + 1 + 1) wr W) :
    RetE L a n c w r (.returned (.tuple #[.agg #[.slice a n c, .int .i64 (i : Nat), .bool bad], .agg #[.int .u8 x.k, .int .u8 x.op, .int .i64 x.pos, .int .i64 x.n, .string x.name, .string x.arg, .string x.exn, .slice ak nk ck]])) W :=
  ⟨ExtX.ext h.x hx (fun b e => by rcases e with e | e <;> omega), i, bad, x, ak, nk, ck, rfl, h.st, fun t l e => by
    obtain ⟨e1, e2, e3, e4, e5, -⟩ := h.ok t l e
    exact ⟨e1, e2, e3, e4, (e5.extx hx (fun b e => .inl (by rcases e with e | e <;> omega))).move (fun b _ (hb : b < w.heap.size) => .inl (by omega)) (fun _ _ _ hu => hu)⟩⟩
theorem LoopQ.out1 {L : List Tk} {a : Option Addr} {n c : Nat} {w : World} {b4 : Nat} {P : Tm → List Tk → Prop} {r q : Res Tm} {g i : Nat} {bad : Bool} {x : Hd} {ak : Option Addr} {nk ck : Nat} {wr : World} (h : LoopQ L a n c w b4 P r g i bad x ak nk ck q wr) :
    SBlk (w8s (w3s wr (w.heap.size + 1) a n c i bad) (w.heap.size + 1 + 1) x ak nk ck) (w.heap.size + 1) a n c i bad ∧ Blk (w8s (w3s wr (w.heap.size + 1) a n c i bad) (w.heap.size + 1 + 1) x ak nk ck) (w.heap.size + 1 + 1) 28 #[.int .u8 x.k, .int .u8 x.op, .int .i64 x.pos, .int .i64 x.n, .string x.name, .string x.arg, .string x.exn, .slice ak nk ck] ∧
    ExtX (fun b => b = w.heap.size + 1 ∨ b = w.heap.size + 1 + 1) wr (w8s (w3s wr (w.heap.size + 1) a n c i bad) (w.heap.size + 1 + 1) x ak nk ck) :=
  ⟨Blk.extx (Blk.lay3 h.z1) w8s_x (by show ¬ w.heap.size + 1 = w.heap.size + 1 + 1; omega), (Blk.extx h.z2 w3s_x (by show ¬ w.heap.size + 1 + 1 = w.heap.size + 1; omega)).lay8, (w3s_x.mono fun b e => .inl e).trans (w8s_x.mono fun b e => .inr e)⟩
theorem args_step {f : Nat} {t : Tm} {l : List Tk} {r : Res Tm} (hb : beginsT l = true) (h : parseF (f + 1) (.args t) l = some r) :
    ∃ r1, parseF f .unary l = some r1 ∧ (∀ l', r1 = .error l' → r = .error l') ∧ ∀ tb l2, r1 = .ok (tb, l2) → parseF f (.args (.mk (hd0 10 t.head.pos) [t, tb])) l2 = some r := by
  unfold parseF at h
  rw [if_pos hb] at h
  cases hu : parseF f .unary l with
  | none => rw [hu] at h; cases h
  | some r1 =>
    rw [hu] at h
    refine ⟨r1, rfl, ?_, ?_⟩
    · rintro l' rfl
      exact (Option.some.inj h).symm
    · rintro tb l2 rfl
      exact h
theorem args_stop {f : Nat} {t : Tm} {l : List Tk} {r : Res Tm} (hb : beginsT l = false) (h : parseF f (.args t) l = some r) : r = .ok (t, l) := by
  cases f with
  | zero => cases h
  | succ f =>
    unfold parseF at h
    rw [if_neg (by rw [hb]; simp)] at h
    exact (Option.some.inj h).symm
set_option maxRecDepth 60000 in
set_option maxHeartbeats 8000000 in
theorem ref5_apply (f : Nat) (hU : ∀ g, g ≤ f → DoesS 119 #[] .unary g) : DoesS 95 #[] (.lvl 4) (f + 1) := by
  intro L a n c i l r w hL hA he hp
  obtain ⟨r0, hr0, her0, hok0⟩ : ∃ r0, parseF f .unary l = some r0 ∧ (∀ l', r0 = .error l' → r = .error l') ∧ ∀ ta l2, r0 = .ok (ta, l2) → parseF f (.args ta) l2 = some r := by
    unfold parseF at hp
    rw [if_neg (by omega), if_neg (by omega)] at hp
    cases hu : parseF f .unary l with
    | none => rw [hu] at hp; cases hp
    | some r1 =>
      rw [hu] at hp
      refine ⟨r1, rfl, ?_, ?_⟩
      · rintro l' rfl
        exact (Option.some.inj hp).symm
      · rintro tb l2 rfl
        exact hp
  have HL := hid hL
  have HU := hid hU
  have K0 := hid fun W (h : Ext w W) => hU f (Nat.le_refl _) L a n c i l r0 W (hL.ext h) hA he hr0
  have HER0 := hid her0
  have HOK0 := hid hok0
  clear hL hU hA he hp hr0 her0 hok0
  simp only [Array.append_empty] at K0 ⊢
  go_enter Tryz.func95, Tryz.ntmps95
  go_upto_region 2 with (go_at_call 119; refine (K0.out _ (by (exact eX))).mono ?_; rintro e w1 ⟨x1, i1, bad1, y, ak, nk, ck, rfl, hs1, hT1⟩; obtain ⟨m0, m1, m2, k0, k1, k2, ll0⟩ := SBlk.open_ (blk3 x1).1)
  obtain ⟨hS1, hZ1, hZ2⟩ := blk3 x1
  have y1 : Ext w w1 := by (exact eX)
  have hb1 : w.heap.size + 1 + 1 < w1.heap.size := hZ2.lt
  have S2 : SBlk (w3s w1 w.heap.size a n c i1 bad1) w.heap.size a n c i1 bad1 := w3s_blk hS1
  have X2 : ExtX (· = w.heap.size) w1 (w3s w1 w.heap.size a n c i1 bad1) := w3s_x
  have T2 := Blk.new (w3s w1 w.heap.size a n c i1 bad1) 28 #[.int .u8 y.k, .int .u8 y.op, .int .i64 y.pos, .int .i64 y.n, .string y.name, .string y.arg, .string y.exn, .slice ak nk ck]
  rw [w3s_size] at T2
  have HQ0 : Hid (LoopQ L a n c w w1.heap.size (fun t l => ∃ m, m ≤ f ∧ parseF m (.args t) l = some r) r (leftR r0) i1 bad1 y ak nk ck r0 ((w3s w1 w.heap.size a n c i1 bad1).alloc (.cells #[.int .u8 y.k, .int .u8 y.op, .int .i64 y.pos, .int .i64 y.n, .string y.name, .string y.arg, .string y.exn, .slice ak nk ck] 28))) := hid {
    g := rfl
    s := S2.alloc _
    z1 := (hZ1.extx X2 (by show ¬ w.heap.size + 1 = w.heap.size; omega)).alloc _
    z2 := (hZ2.extx X2 (by show ¬ w.heap.size + 1 + 1 = w.heap.size; omega)).alloc _
    t := T2
    lt4 := hb1
    st := hs1
    ok := fun t l h => by
      obtain ⟨e1, e2, e3, e4, e5⟩ := hT1 t l h
      exact ⟨e1, e2, e3, e4, kids_new e5 (fun b hb => by show b < _; simp; omega) (by omega), f, Nat.le_refl _, HOK0.out t l h⟩
    er := HER0.out
    x := (ExtX.ext y1 X2 (fun b (e : b = w.heap.size) => by omega)).alloc _ }
  unfold w3s at HQ0
  clear x1 hS1 hZ1 hZ2 y1 S2 X2 T2 hs1 hT1 m0 m1 m2 k0 k1 k2 ll0 K0 HOK0 HER0
  generalize ((((w1.setCell ⟨w.heap.size, 0, none⟩ (.slice a n c)).setCell ⟨w.heap.size, 1, none⟩ (.int .i64 (i1 : Nat))).setCell ⟨w.heap.size, 2, none⟩ (.bool bad1)).alloc (.cells #[.int .u8 y.k, .int .u8 y.op, .int .i64 y.pos, .int .i64 y.n, .string y.name, .string y.arg, .string y.exn, .slice ak nk ck] 28)) = W0 at *
  generalize w1.heap.size = b4 at *
  clear w1
  go_wp2_with fail
  go_loopg [] (leftR r0) (fun g wr => ∃ (i' : Nat) (bad' : Bool) (x : Hd) (ax : Option Addr) (nx cx : Nat) (q : Res Tm), LoopQ L a n c w b4 (fun t l => ∃ m, m ≤ f ∧ parseF m (.args t) l = some r) r g i' bad' x ax nx cx q wr)
  case atStart => exact ⟨_, _, _, _, _, _, _, HQ0.out⟩
  case round =>
    obtain ⟨i', bad', x, ax, nx, cx, q, hQ⟩ := hrel
    cases q with
    | error l' =>
      obtain rfl := hQ.er l' rfl
      have hb : bad' = true := hQ.st.1
      subst hb
      obtain ⟨WX, hWX⟩ : ∃ WX, WX = wr := ⟨_, rfl⟩
      have hQX := hQ
      rw [← hWX] at hQX
      rw [← hWX]
      clear hQ hWX
      have HQX := hid hQX
      obtain ⟨p0, p1, p2, f0, f1, f2, l0⟩ := SBlk.open_ hQX.s
      obtain ⟨c0, c1, c2, c3, c4, c5, c6, c7⟩ := hQX.t.eight
      have hl4 := hQX.lt4
      obtain ⟨z0, z1, z2, z3, z4, z5, z6, z7⟩ := hQX.z2.eight
      obtain ⟨g0, g1, g2, g3, g4, g5, g6, g7⟩ := hQX.z2.frozen8
      have v0 := hQX.z1.cell 0
      have v1 := hQX.z1.cell 1
      have v2 := hQX.z1.cell 2
      simp at v0 v1 v2
      have v3 := hQX.z1.frozen 0
      have v4 := hQX.z1.frozen 1
      have v5 := hQX.z1.frozen 2
      have lv := hQX.z1.lt
      have lz := hQX.z2.lt
      have ne1 : w.heap.size + 1 ≠ w.heap.size + 1 + 1 := by omega
      have ne2 : w.heap.size + 1 + 1 ≠ w.heap.size + 1 := by omega
      have ns0 := fun W (h : ExtX (fun b => b = w.heap.size + 1 ∨ b = w.heap.size + 1 + 1) WX W) => h.cell (p := ⟨w.heap.size, 0, none⟩) (show ¬ (w.heap.size = w.heap.size + 1 ∨ w.heap.size = w.heap.size + 1 + 1) by omega) p0
      have ns1 := fun W (h : ExtX (fun b => b = w.heap.size + 1 ∨ b = w.heap.size + 1 + 1) WX W) => h.cell (p := ⟨w.heap.size, 1, none⟩) (show ¬ (w.heap.size = w.heap.size + 1 ∨ w.heap.size = w.heap.size + 1 + 1) by omega) p1
      have ns2 := fun W (h : ExtX (fun b => b = w.heap.size + 1 ∨ b = w.heap.size + 1 + 1) WX W) => h.cell (p := ⟨w.heap.size, 2, none⟩) (show ¬ (w.heap.size = w.heap.size + 1 ∨ w.heap.size = w.heap.size + 1 + 1) by omega) p2
      have nc0 := fun W (h : ExtX (fun b => b = w.heap.size + 1 ∨ b = w.heap.size + 1 + 1) WX W) => h.cell (p := ⟨b4, 0, none⟩) (show ¬ (b4 = w.heap.size + 1 ∨ b4 = w.heap.size + 1 + 1) by omega) c0
      have nc1 := fun W (h : ExtX (fun b => b = w.heap.size + 1 ∨ b = w.heap.size + 1 + 1) WX W) => h.cell (p := ⟨b4, 1, none⟩) (show ¬ (b4 = w.heap.size + 1 ∨ b4 = w.heap.size + 1 + 1) by omega) c1
      have nc2 := fun W (h : ExtX (fun b => b = w.heap.size + 1 ∨ b = w.heap.size + 1 + 1) WX W) => h.cell (p := ⟨b4, 2, none⟩) (show ¬ (b4 = w.heap.size + 1 ∨ b4 = w.heap.size + 1 + 1) by omega) c2
      have nc3 := fun W (h : ExtX (fun b => b = w.heap.size + 1 ∨ b = w.heap.size + 1 + 1) WX W) => h.cell (p := ⟨b4, 3, none⟩) (show ¬ (b4 = w.heap.size + 1 ∨ b4 = w.heap.size + 1 + 1) by omega) c3
      have nc4 := fun W (h : ExtX (fun b => b = w.heap.size + 1 ∨ b = w.heap.size + 1 + 1) WX W) => h.cell (p := ⟨b4, 4, none⟩) (show ¬ (b4 = w.heap.size + 1 ∨ b4 = w.heap.size + 1 + 1) by omega) c4
      have nc5 := fun W (h : ExtX (fun b => b = w.heap.size + 1 ∨ b = w.heap.size + 1 + 1) WX W) => h.cell (p := ⟨b4, 5, none⟩) (show ¬ (b4 = w.heap.size + 1 ∨ b4 = w.heap.size + 1 + 1) by omega) c5
      have nc6 := fun W (h : ExtX (fun b => b = w.heap.size + 1 ∨ b = w.heap.size + 1 + 1) WX W) => h.cell (p := ⟨b4, 6, none⟩) (show ¬ (b4 = w.heap.size + 1 ∨ b4 = w.heap.size + 1 + 1) by omega) c6
      have nc7 := fun W (h : ExtX (fun b => b = w.heap.size + 1 ∨ b = w.heap.size + 1 + 1) WX W) => h.cell (p := ⟨b4, 7, none⟩) (show ¬ (b4 = w.heap.size + 1 ∨ b4 = w.heap.size + 1 + 1) by omega) c7
      clear hQX
      go_upto_region 6 with fail
      refine wp_region_held_drew (S := fun w' => ExtX (fun b => b = w.heap.size + 1 ∨ b = w.heap.size + 1 + 1) WX w') (by kernel_rfl) (by (try dsimp only); (exact xX)) (fun hHeld => ?_)
      refine tL 0 ?_;try simp only [Act.put,pA,pB,pC]
      refine tL 1 ?_;try simp only [Act.put,pA,pB,pC]
      refine dK 2 fun K hK => ?_; go_simp; refine hK.out _ _ (by (try dsimp only); (exact xX)) (fun hHeld => ?_); clear hK K; try simp only [Act.put,pA,pB,pC]
      refine dK 3 fun K hK => ?_; go_simp; refine hK.out _ _ (by (try dsimp only); (exact xX)) (fun hHeld => ?_); clear hK K; try simp only [Act.put,pA,pB,pC]
      refine wpAnyH_done (by kernel_rfl) ?_ _
      repeat (first | go_values | go_skip | go_guarded | go_step | go_upon)
      obtain ⟨hs, ht, hx9⟩ := HQX.out.out1
      obtain ⟨r0, r1, r2, -⟩ := SBlk.open_ (show SBlk _ _ a n c i' true from Blk.drew hs)
      obtain ⟨r3, r4, r5, r6, r7, r8, r9, ra⟩ := ht.drew.eight
      have hx8 := hx9.drew
      unfold w8s w3s at r0 r1 r2 r3 r4 r5 r6 r7 r8 r9 ra
      exact bodyPost_ret (v := .tuple #[.agg #[.slice a n c, .int .i64 (i' : Nat), .bool true], .agg #[.int .u8 x.k, .int .u8 x.op, .int .i64 x.pos, .int .i64 x.n, .string x.name, .string x.arg, .string x.exn, .slice ax nx cx]]) (by simp [results, Tryz.results95, go_sem, r0, r1, r2, r3, r4, r5, r6, r7, r8, r9, ra]) rfl (HQX.out.ret hx8)
    | ok p =>
      obtain ⟨t, l1⟩ := p
      obtain ⟨hbf, hA1, he1⟩ := hQ.st
      subst hbf
      obtain ⟨et, hfx, gx1, gx2, hTx, m, hm, hpm⟩ := hQ.ok t l1 rfl
      have KS := hid fun W (h : Ext wr W) => ref5_starts L a n c i' l1 W (HL.out.ext (hQ.x.trans h)) hA1
      obtain ⟨p0, p1, p2, f0, f1, f2, l0⟩ := SBlk.open_ hQ.s
      cases hb : beginsT l1 with
      | false =>
        have hr9 := args_stop hb hpm
        rw [hb] at KS
        subst hr9
        clear hA1 he1 et hfx gx1 gx2 hTx hpm hb
        go_upto_region 6 with (go_at_call 120; refine (KS.out _ (Ext.refl _)).mono ?_; rintro e WX ⟨rfl, x2⟩)
        have hQX := hQ.ext x2
        clear hQ x2 p0 p1 p2 f0 f1 f2 l0
        have HQX := hid hQX
        obtain ⟨p0, p1, p2, f0, f1, f2, l0⟩ := SBlk.open_ hQX.s
        obtain ⟨c0, c1, c2, c3, c4, c5, c6, c7⟩ := hQX.t.eight
        have hl4 := hQX.lt4
        obtain ⟨z0, z1, z2, z3, z4, z5, z6, z7⟩ := hQX.z2.eight
        obtain ⟨g0, g1, g2, g3, g4, g5, g6, g7⟩ := hQX.z2.frozen8
        have v0 := hQX.z1.cell 0
        have v1 := hQX.z1.cell 1
        have v2 := hQX.z1.cell 2
        simp at v0 v1 v2
        have v3 := hQX.z1.frozen 0
        have v4 := hQX.z1.frozen 1
        have v5 := hQX.z1.frozen 2
        have lv := hQX.z1.lt
        have lz := hQX.z2.lt
        have ne1 : w.heap.size + 1 ≠ w.heap.size + 1 + 1 := by omega
        have ne2 : w.heap.size + 1 + 1 ≠ w.heap.size + 1 := by omega
        have ns0 := fun W (h : ExtX (fun b => b = w.heap.size + 1 ∨ b = w.heap.size + 1 + 1) WX W) => h.cell (p := ⟨w.heap.size, 0, none⟩) (show ¬ (w.heap.size = w.heap.size + 1 ∨ w.heap.size = w.heap.size + 1 + 1) by omega) p0
        have ns1 := fun W (h : ExtX (fun b => b = w.heap.size + 1 ∨ b = w.heap.size + 1 + 1) WX W) => h.cell (p := ⟨w.heap.size, 1, none⟩) (show ¬ (w.heap.size = w.heap.size + 1 ∨ w.heap.size = w.heap.size + 1 + 1) by omega) p1
        have ns2 := fun W (h : ExtX (fun b => b = w.heap.size + 1 ∨ b = w.heap.size + 1 + 1) WX W) => h.cell (p := ⟨w.heap.size, 2, none⟩) (show ¬ (w.heap.size = w.heap.size + 1 ∨ w.heap.size = w.heap.size + 1 + 1) by omega) p2
        have nc0 := fun W (h : ExtX (fun b => b = w.heap.size + 1 ∨ b = w.heap.size + 1 + 1) WX W) => h.cell (p := ⟨b4, 0, none⟩) (show ¬ (b4 = w.heap.size + 1 ∨ b4 = w.heap.size + 1 + 1) by omega) c0
        have nc1 := fun W (h : ExtX (fun b => b = w.heap.size + 1 ∨ b = w.heap.size + 1 + 1) WX W) => h.cell (p := ⟨b4, 1, none⟩) (show ¬ (b4 = w.heap.size + 1 ∨ b4 = w.heap.size + 1 + 1) by omega) c1
        have nc2 := fun W (h : ExtX (fun b => b = w.heap.size + 1 ∨ b = w.heap.size + 1 + 1) WX W) => h.cell (p := ⟨b4, 2, none⟩) (show ¬ (b4 = w.heap.size + 1 ∨ b4 = w.heap.size + 1 + 1) by omega) c2
        have nc3 := fun W (h : ExtX (fun b => b = w.heap.size + 1 ∨ b = w.heap.size + 1 + 1) WX W) => h.cell (p := ⟨b4, 3, none⟩) (show ¬ (b4 = w.heap.size + 1 ∨ b4 = w.heap.size + 1 + 1) by omega) c3
        have nc4 := fun W (h : ExtX (fun b => b = w.heap.size + 1 ∨ b = w.heap.size + 1 + 1) WX W) => h.cell (p := ⟨b4, 4, none⟩) (show ¬ (b4 = w.heap.size + 1 ∨ b4 = w.heap.size + 1 + 1) by omega) c4
        have nc5 := fun W (h : ExtX (fun b => b = w.heap.size + 1 ∨ b = w.heap.size + 1 + 1) WX W) => h.cell (p := ⟨b4, 5, none⟩) (show ¬ (b4 = w.heap.size + 1 ∨ b4 = w.heap.size + 1 + 1) by omega) c5
        have nc6 := fun W (h : ExtX (fun b => b = w.heap.size + 1 ∨ b = w.heap.size + 1 + 1) WX W) => h.cell (p := ⟨b4, 6, none⟩) (show ¬ (b4 = w.heap.size + 1 ∨ b4 = w.heap.size + 1 + 1) by omega) c6
        have nc7 := fun W (h : ExtX (fun b => b = w.heap.size + 1 ∨ b = w.heap.size + 1 + 1) WX W) => h.cell (p := ⟨b4, 7, none⟩) (show ¬ (b4 = w.heap.size + 1 ∨ b4 = w.heap.size + 1 + 1) by omega) c7
        clear hQX
        refine wp_region_held_drew (S := fun w' => ExtX (fun b => b = w.heap.size + 1 ∨ b = w.heap.size + 1 + 1) WX w') (by kernel_rfl) (by (try dsimp only); (exact xX)) (fun hHeld => ?_)
        refine tL 0 ?_;try simp only [Act.put,pA,pB,pC]
        refine tL 1 ?_;try simp only [Act.put,pA,pB,pC]
        refine dK 2 fun K hK => ?_; go_simp; refine hK.out _ _ (by (try dsimp only); (exact xX)) (fun hHeld => ?_); clear hK K; try simp only [Act.put,pA,pB,pC]
        refine dK 3 fun K hK => ?_; go_simp; refine hK.out _ _ (by (try dsimp only); (exact xX)) (fun hHeld => ?_); clear hK K; try simp only [Act.put,pA,pB,pC]
        refine wpAnyH_done (by kernel_rfl) ?_ _
        repeat (first | go_values | go_skip | go_guarded | go_step | go_upon)
        obtain ⟨hs, ht, hx9⟩ := HQX.out.out1
        obtain ⟨r0, r1, r2, -⟩ := SBlk.open_ (show SBlk _ _ a n c i' false from Blk.drew hs)
        obtain ⟨r3, r4, r5, r6, r7, r8, r9, ra⟩ := ht.drew.eight
        have hx8 := hx9.drew
        unfold w8s w3s at r0 r1 r2 r3 r4 r5 r6 r7 r8 r9 ra
        exact bodyPost_ret (v := .tuple #[.agg #[.slice a n c, .int .i64 (i' : Nat), .bool false], .agg #[.int .u8 x.k, .int .u8 x.op, .int .i64 x.pos, .int .i64 x.n, .string x.name, .string x.arg, .string x.exn, .slice ax nx cx]]) (by simp [results, Tryz.results95, go_sem, r0, r1, r2, r3, r4, r5, r6, r7, r8, r9, ra]) rfl (HQX.out.ret hx8)
      | true =>
        cases m with
        | zero => cases hpm
        | succ m =>
        obtain ⟨r1, hr1, her1, hok1⟩ := args_step hb hpm
        have KU := hid fun W (h : Ext wr W) => HU.out m (by omega) L a n c i' l1 r1 W (HL.out.ext (hQ.x.trans h)) hA1 he1 hr1
        simp only [Array.append_empty] at KU
        rw [hb] at KS
        have HTOLD := hid (parseF_told he1 hr1)
        have hpos : 0 < l1.length := by
          cases l1 with
          | nil => exact he1.elim
          | cons _ _ => simp
        have HQ1 := hid hQ
        have HER1 := hid her1
        have HOK1 := hid hok1
        have hb4 := hQ.lt4
        have hb4r := hQ.t.lt
        have hszr := Below.size hQ.x
        have hz2r := hQ.z2.lt
        subst et
        clear hA1 he1 hfx gx1 gx2 hTx hpm hb hr1 her1 hok1 hQ
        go_upto_region 5 with (first | (go_at_call 120; refine (KS.out _ (Ext.refl _)).mono ?_; rintro e w2 ⟨rfl, x2⟩; obtain ⟨m0, m1, m2, k0, k1, k2, ll0⟩ := SBlk.open_ (SBlk.ext HQ1.out.s x2)) | (go_at_call 119; refine (KU.out _ x2).mono ?_; rintro e w3 ⟨x3, i3, bad3, z, az, nz, cz, rfl, hs3, hT3⟩; obtain ⟨m0, m1, m2, k0, k1, k2, ll0⟩ := SBlk.open_ (SBlk.ext HQ1.out.s (x2.trans x3))))
        have hQ3 := HQ1.out.ext (x2.trans x3)
        have hs23 := Below.size x3
        have hs12 := Below.size x2
        have S4 : SBlk (((w3s w3 w.heap.size a n c i3 bad3).alloc (.cells #[.slice a n c, .int .i64 (i3 : Nat), .bool bad3] 71)).alloc (.cells #[.int .u8 z.k, .int .u8 z.op, .int .i64 z.pos, .int .i64 z.n, .string z.name, .string z.arg, .string z.exn, .slice az nz cz] 28)) w.heap.size a n c i3 bad3 := ((w3s_blk hQ3.s).alloc _).alloc _
        have X34 : ExtX (· = w.heap.size) w3 (((w3s w3 w.heap.size a n c i3 bad3).alloc (.cells #[.slice a n c, .int .i64 (i3 : Nat), .bool bad3] 71)).alloc (.cells #[.int .u8 z.k, .int .u8 z.op, .int .i64 z.pos, .int .i64 z.n, .string z.name, .string z.arg, .string z.exn, .slice az nz cz] 28)) := (w3s_x.alloc _).alloc _
        have U4 := Blk.new ((w3s w3 w.heap.size a n c i3 bad3).alloc (.cells #[.slice a n c, .int .i64 (i3 : Nat), .bool bad3] 71)) 28 #[.int .u8 z.k, .int .u8 z.op, .int .i64 z.pos, .int .i64 z.n, .string z.name, .string z.arg, .string z.exn, .slice az nz cz]
        rw [World.size_alloc, w3s_size] at U4
        unfold w3s at S4 X34 U4
        generalize ((((((w3.setCell ⟨w.heap.size, 0, none⟩ (.slice a n c)).setCell ⟨w.heap.size, 1, none⟩ (.int .i64 (i3 : Nat))).setCell ⟨w.heap.size, 2, none⟩ (.bool bad3)).alloc (.cells #[.slice a n c, .int .i64 (i3 : Nat), .bool bad3] 71)).alloc (.cells #[.int .u8 z.k, .int .u8 z.op, .int .i64 z.pos, .int .i64 z.n, .string z.name, .string z.arg, .string z.exn, .slice az nz cz] 28))) = W4 at *
        have T4 := Blk.extx hQ3.t X34 (show ¬ b4 = w.heap.size by omega)
        have HZ1 := hid (Blk.extx hQ3.z1 X34 (show ¬ w.heap.size + 1 = w.heap.size by omega))
        have HZ2 := hid (Blk.extx hQ3.z2 X34 (show ¬ w.heap.size + 1 + 1 = w.heap.size by omega))
        have HKX : Hid (t.head.Fits ∧ nx ≤ cx ∧ cx ≤ 9223372036854775807 ∧ IsTmsA (AvQ (w.heap.size + 1 + 1 + 1) b4) W4 t.kids ax nx) := hid (by
          obtain ⟨-, e2, e3, e4, e5, -⟩ := hQ3.ok t l1 rfl
          exact ⟨e2, e3, e4, e5.extx X34 (fun b (e : b = w.heap.size) => .inl (by omega))⟩)
        have HKZ : Hid (∀ tb l2, r1 = .ok (tb, l2) → tb.head = z ∧ z.Fits ∧ nz ≤ cz ∧ cz ≤ 9223372036854775807 ∧ IsTmsA (AvQ (w.heap.size + 1 + 1 + 1) b4) W4 tb.kids az nz) := hid fun tb l2 h => by
          obtain ⟨e1, e2, e3, e4, e5⟩ := hT3 tb l2 h
          exact ⟨e1, e2, e3, e4, (e5.extx X34 (fun b (e : b = w.heap.size) => by show b < w2.heap.size; omega)).move (fun b _ hA => by
            show b < w2.heap.size
            rcases hA with h | h <;> omega) (fun _ _ _ hu => hu)⟩
        have HY4 := hid (ExtX.ext hQ3.x X34 (fun b (e : b = w.heap.size) => by omega))
        have hw34 := X34.size
        have HS4 := hid S4
        have HT4 := hid T4
        have HS3 := hid hs3
        obtain ⟨c0, c1, c2, c3, c4, c5, c6, c7⟩ := T4.eight
        obtain ⟨d0, d1, d2, d3, d4, d5, d6, d7⟩ := U4.eight
        have lt4 := T4.lt
        have lu4 := U4.lt
        clear hQ3 S4 X34 T4 U4 x2 x3 hs3 hT3 m0 m1 m2 k0 k1 k2 ll0 p0 p1 p2 f0 f1 f2 l0 KS KU
        go_wp2_with (go_at_call 121; refine (ref5_term _ _ _ _ _ _).mono ?_; rintro e w6 ⟨rfl, x6⟩; obtain ⟨g0, g1, g2, g3, g4, g5, g6, g7⟩ := (HT4.out.ext (((Ext.refl _).alloc _).trans x6)).frozen8; obtain ⟨c0, c1, c2, c3, c4, c5, c6, c7⟩ := (HT4.out.ext (((Ext.refl _).alloc _).trans x6)).eight; have lt6 := (HT4.out.ext (((Ext.refl _).alloc _).trans x6)).lt)
        have y46 : Ext W4 w6 := ((Ext.refl _).alloc _).trans x6
        have G6 := (Blk.new W4 28 #[.int .u8 t.head.k, .int .u8 t.head.op, .int .i64 t.head.pos, .int .i64 t.head.n, .string t.head.name, .string t.head.arg, .string t.head.exn, .slice ax nx cx, .int .u8 z.k, .int .u8 z.op, .int .i64 z.pos, .int .i64 z.n, .string z.name, .string z.arg, .string z.exn, .slice az nz cz]).ext x6
        have X7 : ExtX (· = b4) w6 (w8s w6 b4 ⟨10, 0, t.head.pos, 0, ⟨#[]⟩, ⟨#[]⟩, ⟨#[]⟩⟩ (some ⟨W4.heap.size, 0, none⟩) 2 2) := w8s_x
        have HLQ : Hid (∃ q2, LoopQ L a n c w b4 (fun t l => ∃ m, m ≤ f ∧ parseF m (.args t) l = some r) r (leftR q2) i3 bad3 ⟨10, 0, t.head.pos, 0, ⟨#[]⟩, ⟨#[]⟩, ⟨#[]⟩⟩ (some ⟨W4.heap.size, 0, none⟩) 2 2 q2 (w8s w6 b4 ⟨10, 0, t.head.pos, 0, ⟨#[]⟩, ⟨#[]⟩, ⟨#[]⟩⟩ (some ⟨W4.heap.size, 0, none⟩) 2 2) ∧ leftR q2 < l1.length) := hid (by
          have base : ∀ q2 : Res Tm, StS L n i3 bad3 q2 → (∀ t' l', q2 = .ok (t', l') → ∃ tb, r1 = .ok (tb, l') ∧ t' = .mk (hd0 10 t.head.pos) [t, tb]) → (∀ l', q2 = .error l' → r = .error l') → LoopQ L a n c w b4 (fun t l => ∃ m, m ≤ f ∧ parseF m (.args t) l = some r) r (leftR q2) i3 bad3 ⟨10, 0, t.head.pos, 0, ⟨#[]⟩, ⟨#[]⟩, ⟨#[]⟩⟩ (some ⟨W4.heap.size, 0, none⟩) 2 2 q2 (w8s w6 b4 ⟨10, 0, t.head.pos, 0, ⟨#[]⟩, ⟨#[]⟩, ⟨#[]⟩⟩ (some ⟨W4.heap.size, 0, none⟩) 2 2) := fun q2 hst hok her => {
            g := rfl
            s := Blk.extx (SBlk.ext HS4.out y46) X7 (by show ¬ w.heap.size = b4; omega)
            z1 := Blk.extx (HZ1.out.ext y46) X7 (by show ¬ w.heap.size + 1 = b4; omega)
            z2 := Blk.extx (HZ2.out.ext y46) X7 (by show ¬ w.heap.size + 1 + 1 = b4; omega)
            t := (HT4.out.ext y46).lay8
            lt4 := hb4
            st := hst
            ok := fun t' l' h => by
              obtain ⟨tb, e1, rfl⟩ := hok t' l' h
              obtain ⟨f1, f2, f3, f4⟩ := HKX.out
              obtain ⟨rfl, g2, g3, g4, g5⟩ := HKZ.out tb l' e1
              have hm0 : t.head.Fits := f1
              refine ⟨rfl, ⟨by show (0 : Int) ≤ 10; omega, by show (10 : Int) ≤ 255; omega, by show (0 : Int) ≤ 0; omega, by show (0 : Int) ≤ 255; omega, hm0.pos0, hm0.pos1, by show (-9223372036854775808 : Int) ≤ 0; omega, by show (0 : Int) ≤ 9223372036854775807; omega, by show (0 : Nat) ≤ 9223372036854775807; omega, by show (0 : Nat) ≤ 9223372036854775807; omega, by show (0 : Nat) ≤ 9223372036854775807; omega⟩, Nat.le_refl _, by omega, ?_, m, by omega, HOK1.out tb l' e1⟩
              have hp := pair_row (A := AvQ (w.heap.size + 1 + 1 + 1) b4) (g := W4.heap.size) y46 f2 f3 g3 g4 f1 g2 f4 g5 (fun h => by rcases h with h | h <;> omega) G6
              have e1 : Tm.mk t.head t.kids = t := by cases t; rfl
              have e2 : Tm.mk tb.head tb.kids = tb := by cases tb; rfl
              rw [e1, e2] at hp
              exact hp.extx X7 (fun b (e : b = b4) => .inr e)
            er := her
            x := ExtX.ext (HY4.out.trans y46) X7 (fun b (e : b = b4) => by omega) }
          cases r1 with
          | error l2 =>
            exact ⟨.error l2, base _ HS3.out (fun _ _ h => by cases h) (fun l' h => by cases h; exact HER1.out _ rfl), hpos⟩
          | ok p2 =>
            obtain ⟨tb, l2⟩ := p2
            exact ⟨.ok (.mk (hd0 10 t.head.pos) [t, tb], l2), base _ HS3.out (fun t' l' h => by cases h; exact ⟨tb, rfl, rfl⟩) (fun l' h => by cases h), HTOLD.out.2⟩)
        clear y46 G6 X7 x6
        obtain ⟨q2, hq2, hlt2⟩ := HLQ.out
        go_roundg (leftR q2)
        case rel =>
          unfold w8s at hq2
          exact ⟨_, _, _, _, _, _, q2, hq2⟩
        case measure =>
          have hg := HQ1.out.g
          rw [hg]
          exact hlt2
theorem isT_tx {xs : List ByteArray} {l : List Tk} (h : isT xs l = true) : textT l = txS l := by
  obtain ⟨t, r, rfl, -, -, hk⟩ := isT_ne h
  show t.text = if t.k = 4 ∨ t.k = 5 then t.text else _
  rw [if_pos hk]
def PL (f k : Nat) (r : Res Tm) (t : Tm) (l : List Tk) : Prop := if k < 2 then (if isT (signsL k) l then andThen (parseF f (.lvl (k + 1)) l.tail) fun b l2 => some (.ok (putT (textT l) t b, l2)) else some (.ok (t, l))) = some r else ∃ m, m ≤ f ∧ parseF m (.more k t) l = some r
theorem lvl_first {f k : Nat} {l : List Tk} {r : Res Tm} (hk : k < 4) (h : parseF (f + 1) (.lvl k) l = some r) : ∃ r0, parseF f (.lvl (k + 1)) l = some r0 ∧ (∀ l', r0 = .error l' → r = .error l') ∧ ∀ ta l2, r0 = .ok (ta, l2) → PL f k r ta l2 := by
  unfold parseF at h
  by_cases h2 : k < 2
  · rw [if_pos h2] at h
    cases hu : parseF f (.lvl (k + 1)) l with
    | none => rw [hu] at h; cases h
    | some r1 =>
      rw [hu] at h
      refine ⟨r1, rfl, ?_, ?_⟩
      · rintro l' rfl
        exact (Option.some.inj h).symm
      · rintro tb l2 rfl
        unfold PL
        rw [if_pos h2]
        exact h
  · rw [if_neg h2, if_pos hk] at h
    cases hu : parseF f (.lvl (k + 1)) l with
    | none => rw [hu] at h; cases h
    | some r1 =>
      rw [hu] at h
      refine ⟨r1, rfl, ?_, ?_⟩
      · rintro l' rfl
        exact (Option.some.inj h).symm
      · rintro tb l2 rfl
        unfold PL
        rw [if_neg h2]
        exact ⟨f, Nat.le_refl _, h⟩
theorem PL.stop {f k : Nat} {r : Res Tm} {t : Tm} {l : List Tk} (hb : isT (signsL k) l = false) (h : PL f k r t l) : r = .ok (t, l) := by
  unfold PL at h
  split at h
  · rw [if_neg (by rw [hb]; simp)] at h
    exact (Option.some.inj h).symm
  · obtain ⟨m, -, h⟩ := h
    cases m with
    | zero => cases h
    | succ m =>
      unfold parseF at h
      rw [if_neg (by rw [hb]; simp)] at h
      exact (Option.some.inj h).symm
theorem PL.step {f k : Nat} {r : Res Tm} {t : Tm} {l : List Tk} (hb : isT (signsL k) l = true) (h : PL f k r t l) : ∃ m r1, m ≤ f ∧ parseF m (.lvl (k + 1)) l.tail = some r1 ∧ (∀ l', r1 = .error l' → r = .error l') ∧ ∀ tb l2, r1 = .ok (tb, l2) → (k < 2 → r = .ok (putT (textT l) t tb, l2)) ∧ (¬ k < 2 → PL f k r (putT (textT l) t tb) l2) := by
  unfold PL at h
  by_cases h2 : k < 2
  · rw [if_pos h2, if_pos hb] at h
    cases hu : parseF f (.lvl (k + 1)) l.tail with
    | none => rw [hu] at h; cases h
    | some r1 =>
      rw [hu] at h
      refine ⟨f, r1, Nat.le_refl _, hu, ?_, ?_⟩
      · rintro l' rfl
        exact (Option.some.inj h).symm
      · rintro tb l2 rfl
        exact ⟨fun _ => (Option.some.inj h).symm, fun h' => absurd h2 h'⟩
  · rw [if_neg h2] at h
    obtain ⟨m, hm, h⟩ := h
    cases m with
    | zero => cases h
    | succ m =>
      unfold parseF at h
      rw [if_pos hb] at h
      cases hu : parseF m (.lvl (k + 1)) l.tail with
      | none => rw [hu] at h; cases h
      | some r1 =>
        rw [hu] at h
        refine ⟨m, r1, by omega, hu, ?_, ?_⟩
        · rintro l' rfl
          exact (Option.some.inj h).symm
        · rintro tb l2 rfl
          refine ⟨fun h' => absurd h' h2, fun _ => ?_⟩
          unfold PL
          rw [if_neg h2]
          exact ⟨m, by omega, h⟩
theorem SBlk.next {w : World} {g : Nat} {a : Option Addr} {n c i : Nat} {bad : Bool} (h : SBlk w g a n c i bad) : SBlk (w.setCell ⟨g, 1, none⟩ (.int .i64 ((i : Int) + 1))) g a n c (i + 1) bad := by
  have h := Blk.set_ h 1 (.int .i64 ((i : Int) + 1))
  simp only [List.setIfInBounds_toArray, List.set_cons_succ, List.set_cons_zero] at h
  exact h
theorem putH_eta (x : ByteArray) (p : Int) : putH x p = ⟨(putH x p).k, (putH x p).op, p, 0, ⟨#[]⟩, ⟨#[]⟩, ⟨#[]⟩⟩ := by
  unfold putH
  split <;> rfl
theorem putH_bound (x : ByteArray) (p : Int) : 0 ≤ (putH x p).k ∧ (putH x p).k ≤ 255 ∧ 0 ≤ (putH x p).op ∧ (putH x p).op ≤ 255 := by
  unfold putH
  split
  · simp [hd0]
  · have := opOf_bound x
    simp only [hd0]
    omega
theorem signs_len (k : Nat) : (signsL k).length ≤ 2 ∧ inB (signsL k) ByteArray.empty = false := by
  match k with
  | 0 => exact ⟨by decide, by decide +kernel⟩
  | 1 => exact ⟨by decide, by decide +kernel⟩
  | 2 => exact ⟨by decide, by decide +kernel⟩
  | k + 3 => exact ⟨by show 1 ≤ 2; omega, by show inB [s_star] ByteArray.empty = false; decide +kernel⟩
set_option maxRecDepth 60000 in
set_option maxHeartbeats 16000000 in
theorem ref5_level (k f : Nat) (hk : k < 4) (hF : ∀ g, g ≤ f → DoesS 72 #[.int .i64 ((k : Int) + 1)] (.lvl (k + 1)) g) : DoesS 72 #[.int .i64 (k : Int)] (.lvl k) (f + 1) := by
  intro L a n c i l r w hL hA he hp
  obtain ⟨r0, hr0, her0, hok0⟩ := lvl_first hk hp
  have HL := hid hL
  have HF := hid hF
  have K0 := hid fun W (h : Ext w W) => hF f (Nat.le_refl _) L a n c i l r0 W (hL.ext h) hA he hr0
  have HER0 := hid her0
  have HOK0 := hid hok0
  have hk4 : ((k : Int) == 4) = false := by simp; omega
  have hwk : IntKind.i64.wrap ((k : Int) + 1) = (k : Int) + 1 := IntWalk.i64_in _ ⟨by omega, by omega⟩
  have hnc := hL.le
  have hcM := hL.cap
  clear hL hF hA he hp hr0 her0 hok0
  have e0 : (#[.agg #[.slice a n c, .int .i64 (i : Nat), .bool false]] ++ #[.int .i64 ((k : Int) + 1)] : Array Value) = #[.agg #[.slice a n c, .int .i64 (i : Nat), .bool false], .int .i64 ((k : Int) + 1)] := rfl
  rw [e0] at K0
  have e1 : (#[.agg #[.slice a n c, .int .i64 (i : Nat), .bool false]] ++ #[.int .i64 (k : Int)] : Array Value) = #[.agg #[.slice a n c, .int .i64 (i : Nat), .bool false], .int .i64 (k : Int)] := rfl
  rw [e1]
  clear e0 e1
  go_enter Tryz.func72, Tryz.ntmps72
  go_upto_region 4 with (go_at_call 72; refine (K0.out _ (by (exact eX))).mono ?_; rintro e w1 ⟨x1, i1, bad1, y, ak, nk, ck, rfl, hs1, hT1⟩; obtain ⟨m0, m1, m2, k0, k1, k2, ll0⟩ := SBlk.open_ (blk3 x1).1)
  obtain ⟨hS1, hZ1, hZ2⟩ := blk3 x1
  have y1 : Ext w w1 := by (exact eX)
  have hb1 : w.heap.size + 1 + 1 < w1.heap.size := hZ2.lt
  have S2 : SBlk (w3s w1 w.heap.size a n c i1 bad1) w.heap.size a n c i1 bad1 := w3s_blk hS1
  have X2 : ExtX (· = w.heap.size) w1 (w3s w1 w.heap.size a n c i1 bad1) := w3s_x
  have T2 := Blk.new (w3s w1 w.heap.size a n c i1 bad1) 28 #[.int .u8 y.k, .int .u8 y.op, .int .i64 y.pos, .int .i64 y.n, .string y.name, .string y.arg, .string y.exn, .slice ak nk ck]
  rw [w3s_size] at T2
  have HQ0 : Hid (LoopQ L a n c w w1.heap.size (PL f k r) r (leftR r0) i1 bad1 y ak nk ck r0 ((w3s w1 w.heap.size a n c i1 bad1).alloc (.cells #[.int .u8 y.k, .int .u8 y.op, .int .i64 y.pos, .int .i64 y.n, .string y.name, .string y.arg, .string y.exn, .slice ak nk ck] 28))) := hid {
    g := rfl
    s := S2.alloc _
    z1 := (hZ1.extx X2 (by show ¬ w.heap.size + 1 = w.heap.size; omega)).alloc _
    z2 := (hZ2.extx X2 (by show ¬ w.heap.size + 1 + 1 = w.heap.size; omega)).alloc _
    t := T2
    lt4 := hb1
    st := hs1
    ok := fun t l h => by
      obtain ⟨e1, e2, e3, e4, e5⟩ := hT1 t l h
      exact ⟨e1, e2, e3, e4, kids_new e5 (fun b hb => by show b < _; simp; omega) (by omega), HOK0.out t l h⟩
    er := HER0.out
    x := (ExtX.ext y1 X2 (fun b (e : b = w.heap.size) => by omega)).alloc _ }
  unfold w3s at HQ0
  clear x1 hS1 hZ1 hZ2 y1 S2 X2 T2 hs1 hT1 m0 m1 m2 k0 k1 k2 ll0 K0 HOK0 HER0
  generalize ((((w1.setCell ⟨w.heap.size, 0, none⟩ (.slice a n c)).setCell ⟨w.heap.size, 1, none⟩ (.int .i64 (i1 : Nat))).setCell ⟨w.heap.size, 2, none⟩ (.bool bad1)).alloc (.cells #[.int .u8 y.k, .int .u8 y.op, .int .i64 y.pos, .int .i64 y.n, .string y.name, .string y.arg, .string y.exn, .slice ak nk ck] 28)) = W0 at *
  generalize w1.heap.size = b4 at *
  clear w1
  go_wp2_with fail
  go_loopg [] (leftR r0) (fun g wr => ∃ (i' : Nat) (bad' : Bool) (x : Hd) (ax : Option Addr) (nx cx : Nat) (q : Res Tm), LoopQ L a n c w b4 (PL f k r) r g i' bad' x ax nx cx q wr)
  case atStart => exact ⟨_, _, _, _, _, _, _, HQ0.out⟩
  case round =>
    obtain ⟨i', bad', x, ax, nx, cx, q, hQ⟩ := hrel
    cases q with
    | error l' =>
      obtain rfl := hQ.er l' rfl
      have hb : bad' = true := hQ.st.1
      subst hb
      obtain ⟨WX, hWX⟩ : ∃ WX, WX = wr := ⟨_, rfl⟩
      have hQX := hQ
      rw [← hWX] at hQX
      rw [← hWX]
      clear hQ hWX
      have ns := fun W (h : Ext WX W) => h.cell (Blk.cell hQX.s 2)
      simp at ns
      go_upto_region 4 with fail
      refine wp_region_held_drew (S := fun w' => Ext WX w') (by kernel_rfl) (by (try dsimp only); (exact eX)) (fun hHeld => ?_)
      refine tL 0 ?_;try simp only [Act.put,pA,pB,pC]
      refine tL 1 ?_;try simp only [Act.put,pA,pB,pC]
      refine tL 2 ?_;try simp only [Act.put,pA,pB,pC]
      refine tL 3 ?_;try simp only [Act.put,pA,pB,pC]
      first | (refine tL 4 ?_;try simp only [Act.put,pA,pB,pC]) | (refine held_skip 4 rfl (by kernel_rfl) (by kernel_rfl) (by kernel_rfl) (fun _ _ _ h => h) (by assumption) (by rfl) ?_; try simp only [Act.put,pA,pB,pC])
      first | (refine tL 6 ?_;try simp only [Act.put,pA,pB,pC]) | (refine held_skip 6 rfl (by kernel_rfl) (by kernel_rfl) (by kernel_rfl) (fun _ _ _ h => h) (by assumption) (by rfl) ?_; try simp only [Act.put,pA,pB,pC])
      first | (refine held_skip 5 rfl (by kernel_rfl) (by kernel_rfl) (by kernel_rfl) (fun _ _ _ h => h) (by assumption) (by rfl) ?_; try simp only [Act.put,pA,pB,pC]) | (refine dK 5 fun K hK => ?_; go_simp; (first | (fail)); (try (focus (go_wp2_with fail))); refine hK.out _ _ (by (try dsimp only); (exact eX)) (fun hHeld => ?_); clear hK K; try simp only [Act.put,pA,pB,pC])
      first | (refine held_skip 7 rfl (by kernel_rfl) (by kernel_rfl) (by kernel_rfl) (fun _ _ _ h => h) (by assumption) (by rfl) ?_; try simp only [Act.put,pA,pB,pC]) | (refine dK 7 fun K hK => ?_; go_simp; (first | (fail)); (try (focus (go_wp2_with fail))); refine hK.out _ _ (by (try dsimp only); (exact eX)) (fun hHeld => ?_); clear hK K; try simp only [Act.put,pA,pB,pC])
      first | (refine held_skip 8 rfl (by kernel_rfl) (by kernel_rfl) (by kernel_rfl) (fun _ _ _ h => h) (by assumption) (by rfl) ?_; try simp only [Act.put,pA,pB,pC]) | (refine dK 8 fun K hK => ?_; go_simp; (first | (fail)); (try (focus (go_wp2_with fail))); refine hK.out _ _ (by (try dsimp only); (exact eX)) (fun hHeld => ?_); clear hK K; try simp only [Act.put,pA,pB,pC])
      refine tL 9 ?_;try simp only [Act.put,pA,pB,pC]
      refine wpAnyH_done (by kernel_rfl) ?_ _
      obtain ⟨WY, hWY⟩ : ∃ WY, WY = WX.drew := ⟨_, rfl⟩
      have hQY := hQX.ext hHeld
      rw [← hWY] at hQY
      rw [← hWY]
      clear hQX hHeld ns hWY
      have HQX := hid hQY
      obtain ⟨p0, p1, p2, f0, f1, f2, l0⟩ := SBlk.open_ hQY.s
      obtain ⟨c0, c1, c2, c3, c4, c5, c6, c7⟩ := hQY.t.eight
      have hl4 := hQY.lt4
      obtain ⟨z0, z1, z2, z3, z4, z5, z6, z7⟩ := hQY.z2.eight
      obtain ⟨g0, g1, g2, g3, g4, g5, g6, g7⟩ := hQY.z2.frozen8
      have v0 := hQY.z1.cell 0
      have v1 := hQY.z1.cell 1
      have v2 := hQY.z1.cell 2
      simp at v0 v1 v2
      have v3 := hQY.z1.frozen 0
      have v4 := hQY.z1.frozen 1
      have v5 := hQY.z1.frozen 2
      have lv := hQY.z1.lt
      have lz := hQY.z2.lt
      have ne1 : w.heap.size + 1 ≠ w.heap.size + 1 + 1 := by omega
      have ne2 : w.heap.size + 1 + 1 ≠ w.heap.size + 1 := by omega
      have ns0 := fun W (h : ExtX (fun b => b = w.heap.size + 1 ∨ b = w.heap.size + 1 + 1) WY W) => h.cell (p := ⟨w.heap.size, 0, none⟩) (show ¬ (w.heap.size = w.heap.size + 1 ∨ w.heap.size = w.heap.size + 1 + 1) by omega) p0
      have ns1 := fun W (h : ExtX (fun b => b = w.heap.size + 1 ∨ b = w.heap.size + 1 + 1) WY W) => h.cell (p := ⟨w.heap.size, 1, none⟩) (show ¬ (w.heap.size = w.heap.size + 1 ∨ w.heap.size = w.heap.size + 1 + 1) by omega) p1
      have ns2 := fun W (h : ExtX (fun b => b = w.heap.size + 1 ∨ b = w.heap.size + 1 + 1) WY W) => h.cell (p := ⟨w.heap.size, 2, none⟩) (show ¬ (w.heap.size = w.heap.size + 1 ∨ w.heap.size = w.heap.size + 1 + 1) by omega) p2
      have nc0 := fun W (h : ExtX (fun b => b = w.heap.size + 1 ∨ b = w.heap.size + 1 + 1) WY W) => h.cell (p := ⟨b4, 0, none⟩) (show ¬ (b4 = w.heap.size + 1 ∨ b4 = w.heap.size + 1 + 1) by omega) c0
      have nc1 := fun W (h : ExtX (fun b => b = w.heap.size + 1 ∨ b = w.heap.size + 1 + 1) WY W) => h.cell (p := ⟨b4, 1, none⟩) (show ¬ (b4 = w.heap.size + 1 ∨ b4 = w.heap.size + 1 + 1) by omega) c1
      have nc2 := fun W (h : ExtX (fun b => b = w.heap.size + 1 ∨ b = w.heap.size + 1 + 1) WY W) => h.cell (p := ⟨b4, 2, none⟩) (show ¬ (b4 = w.heap.size + 1 ∨ b4 = w.heap.size + 1 + 1) by omega) c2
      have nc3 := fun W (h : ExtX (fun b => b = w.heap.size + 1 ∨ b = w.heap.size + 1 + 1) WY W) => h.cell (p := ⟨b4, 3, none⟩) (show ¬ (b4 = w.heap.size + 1 ∨ b4 = w.heap.size + 1 + 1) by omega) c3
      have nc4 := fun W (h : ExtX (fun b => b = w.heap.size + 1 ∨ b = w.heap.size + 1 + 1) WY W) => h.cell (p := ⟨b4, 4, none⟩) (show ¬ (b4 = w.heap.size + 1 ∨ b4 = w.heap.size + 1 + 1) by omega) c4
      have nc5 := fun W (h : ExtX (fun b => b = w.heap.size + 1 ∨ b = w.heap.size + 1 + 1) WY W) => h.cell (p := ⟨b4, 5, none⟩) (show ¬ (b4 = w.heap.size + 1 ∨ b4 = w.heap.size + 1 + 1) by omega) c5
      have nc6 := fun W (h : ExtX (fun b => b = w.heap.size + 1 ∨ b = w.heap.size + 1 + 1) WY W) => h.cell (p := ⟨b4, 6, none⟩) (show ¬ (b4 = w.heap.size + 1 ∨ b4 = w.heap.size + 1 + 1) by omega) c6
      have nc7 := fun W (h : ExtX (fun b => b = w.heap.size + 1 ∨ b = w.heap.size + 1 + 1) WY W) => h.cell (p := ⟨b4, 7, none⟩) (show ¬ (b4 = w.heap.size + 1 ∨ b4 = w.heap.size + 1 + 1) by omega) c7
      clear hQY
      go_upto_region 12 with fail
      refine wp_region_held_drew (S := fun w' => ExtX (fun b => b = w.heap.size + 1 ∨ b = w.heap.size + 1 + 1) WY w') (by kernel_rfl) (by (try dsimp only); (exact xX)) (fun hHeld => ?_)
      refine tL 0 ?_;try simp only [Act.put,pA,pB,pC]
      refine tL 1 ?_;try simp only [Act.put,pA,pB,pC]
      refine dK 2 fun K hK => ?_; go_simp; refine hK.out _ _ (by (try dsimp only); (exact xX)) (fun hHeld => ?_); clear hK K; try simp only [Act.put,pA,pB,pC]
      refine dK 3 fun K hK => ?_; go_simp; refine hK.out _ _ (by (try dsimp only); (exact xX)) (fun hHeld => ?_); clear hK K; try simp only [Act.put,pA,pB,pC]
      refine wpAnyH_done (by kernel_rfl) ?_ _
      repeat (first | go_values | go_skip | go_guarded | go_step | go_upon)
      obtain ⟨hs, ht, hx9⟩ := HQX.out.out1
      obtain ⟨r0, r1, r2, -⟩ := SBlk.open_ (show SBlk _ _ a n c i' true from Blk.drew hs)
      obtain ⟨r3, r4, r5, r6, r7, r8, r9, ra⟩ := ht.drew.eight
      have hx8 := hx9.drew
      unfold w8s w3s at r0 r1 r2 r3 r4 r5 r6 r7 r8 r9 ra
      exact bodyPost_ret (v := .tuple #[.agg #[.slice a n c, .int .i64 (i' : Nat), .bool true], .agg #[.int .u8 x.k, .int .u8 x.op, .int .i64 x.pos, .int .i64 x.n, .string x.name, .string x.arg, .string x.exn, .slice ax nx cx]]) (by simp [results, Tryz.results72, go_sem, r0, r1, r2, r3, r4, r5, r6, r7, r8, r9, ra]) rfl (HQX.out.ret hx8)
    | ok p =>
      obtain ⟨t, l1⟩ := p
      obtain ⟨hbf, hA1, he1⟩ := hQ.st
      subst hbf
      obtain ⟨et, hfx, gx1, gx2, hTx, hpm⟩ := hQ.ok t l1 rfl
      obtain ⟨hsl, hse⟩ := signs_len k
      have KX := hid fun W (h : Ext wr W) => ref5_text L a n c i' false l1 W (HL.out.ext (hQ.x.trans h)) hA1
      have KI := hid fun W (aa : Option Addr) (hr : IsRow W (vstr (signsL k)) aa (signsL k).length) => ref5_in (signsL k) (txS l1) W aa (signsL k).length (signsL k).length (Nat.le_refl _) (by omega) hr
      rw [txS_is hse l1] at KI
      have ns0 := fun W (h : Ext wr W) => h.cell (Blk.cell hQ.s 0)
      have ns1 := fun W (h : Ext wr W) => h.cell (Blk.cell hQ.s 1)
      have ns2 := fun W (h : Ext wr W) => h.cell (Blk.cell hQ.s 2)
      simp at ns0 ns1 ns2
      have HQ1 := hid hQ
      have hb4 := hQ.lt4
      have hb4r := hQ.t.lt
      have hszr := Below.size hQ.x
      have hz2r := hQ.z2.lt
      cases hb : isT (signsL k) l1 with
      | false =>
        have hr9 := PL.stop hb hpm
        rw [hb] at KI
        subst hr9
        clear hA1 he1 hfx gx1 gx2 hTx hpm hb hQ
        go_upto_region 4 with fail
        refine wp_region_held_drew (S := fun w' => Ext wr w') (by kernel_rfl) (by (try dsimp only); (exact eX)) (fun hHeld => ?_)
        refine tL 0 ?_;try simp only [Act.put,pA,pB,pC]
        refine tL 1 ?_;try simp only [Act.put,pA,pB,pC]
        refine tL 2 ?_;try simp only [Act.put,pA,pB,pC]
        refine tL 3 ?_;try simp only [Act.put,pA,pB,pC]
        first | (refine tL 4 ?_;try simp only [Act.put,pA,pB,pC]) | (refine held_skip 4 rfl (by kernel_rfl) (by kernel_rfl) (by kernel_rfl) (fun _ _ _ h => h) (by assumption) (by rfl) ?_; try simp only [Act.put,pA,pB,pC])
        first | (refine tL 6 ?_;try simp only [Act.put,pA,pB,pC]) | (refine held_skip 6 rfl (by kernel_rfl) (by kernel_rfl) (by kernel_rfl) (fun _ _ _ h => h) (by assumption) (by rfl) ?_; try simp only [Act.put,pA,pB,pC])
        first | (refine held_skip 5 rfl (by kernel_rfl) (by kernel_rfl) (by kernel_rfl) (fun _ _ _ h => h) (by assumption) (by rfl) ?_; try simp only [Act.put,pA,pB,pC]) | (refine dK 5 fun K hK => ?_; go_simp; (first | (go_at_call 97; refine (ref5_signs k hk _).mono ?_; rintro e w5 ⟨aS, rfl, hrow, x5⟩; have HROW := hid hrow; clear hrow)); (try (focus (go_wp2_with fail))); refine hK.out _ _ (by (try dsimp only); (exact eX)) (fun hHeld => ?_); clear hK K; try simp only [Act.put,pA,pB,pC])
        first | (refine held_skip 7 rfl (by kernel_rfl) (by kernel_rfl) (by kernel_rfl) (fun _ _ _ h => h) (by assumption) (by rfl) ?_; try simp only [Act.put,pA,pB,pC]) | (refine dK 7 fun K hK => ?_; go_simp; (first | (go_at_call 41; refine (KX.out _ (by (exact eX))).mono ?_; rintro e w6 ⟨rfl, x6⟩)); (try (focus (go_wp2_with fail))); refine hK.out _ _ (by (try dsimp only); (exact eX)) (fun hHeld => ?_); clear hK K; try simp only [Act.put,pA,pB,pC])
        first | (refine held_skip 8 rfl (by kernel_rfl) (by kernel_rfl) (by kernel_rfl) (fun _ _ _ h => h) (by assumption) (by rfl) ?_; try simp only [Act.put,pA,pB,pC]) | (refine dK 8 fun K hK => ?_; go_simp; (first | (go_at_call 96; refine (KI.out _ _ (HROW.out.ext (by (exact eX)))).mono ?_; rintro e w7 ⟨rfl, x7⟩)); (try (focus (go_wp2_with fail))); refine hK.out _ _ (by (try dsimp only); (exact eX)) (fun hHeld => ?_); clear hK K; try simp only [Act.put,pA,pB,pC])
        refine tL 9 ?_;try simp only [Act.put,pA,pB,pC]
        refine wpAnyH_done (by kernel_rfl) ?_ _
        all_goals
          have hQX := HQ1.out.ext hHeld
          clear hHeld ns0 ns1 ns2 HROW
          have HQX := hid hQX
          obtain ⟨p0, p1, p2, f0, f1, f2, l0⟩ := SBlk.open_ hQX.s
          obtain ⟨c0, c1, c2, c3, c4, c5, c6, c7⟩ := hQX.t.eight
          have hl4 := hQX.lt4
          obtain ⟨z0, z1, z2, z3, z4, z5, z6, z7⟩ := hQX.z2.eight
          obtain ⟨g0, g1, g2, g3, g4, g5, g6, g7⟩ := hQX.z2.frozen8
          have v0 := hQX.z1.cell 0
          have v1 := hQX.z1.cell 1
          have v2 := hQX.z1.cell 2
          simp at v0 v1 v2
          have v3 := hQX.z1.frozen 0
          have v4 := hQX.z1.frozen 1
          have v5 := hQX.z1.frozen 2
          have lv := hQX.z1.lt
          have lz := hQX.z2.lt
          have ne1 : w.heap.size + 1 ≠ w.heap.size + 1 + 1 := by omega
          have ne2 : w.heap.size + 1 + 1 ≠ w.heap.size + 1 := by omega
          have ns0 := fun W (h : ExtX (fun b => b = w.heap.size + 1 ∨ b = w.heap.size + 1 + 1) w7 W) => h.cell (p := ⟨w.heap.size, 0, none⟩) (show ¬ (w.heap.size = w.heap.size + 1 ∨ w.heap.size = w.heap.size + 1 + 1) by omega) p0
          have ns1 := fun W (h : ExtX (fun b => b = w.heap.size + 1 ∨ b = w.heap.size + 1 + 1) w7 W) => h.cell (p := ⟨w.heap.size, 1, none⟩) (show ¬ (w.heap.size = w.heap.size + 1 ∨ w.heap.size = w.heap.size + 1 + 1) by omega) p1
          have ns2 := fun W (h : ExtX (fun b => b = w.heap.size + 1 ∨ b = w.heap.size + 1 + 1) w7 W) => h.cell (p := ⟨w.heap.size, 2, none⟩) (show ¬ (w.heap.size = w.heap.size + 1 ∨ w.heap.size = w.heap.size + 1 + 1) by omega) p2
          have nc0 := fun W (h : ExtX (fun b => b = w.heap.size + 1 ∨ b = w.heap.size + 1 + 1) w7 W) => h.cell (p := ⟨b4, 0, none⟩) (show ¬ (b4 = w.heap.size + 1 ∨ b4 = w.heap.size + 1 + 1) by omega) c0
          have nc1 := fun W (h : ExtX (fun b => b = w.heap.size + 1 ∨ b = w.heap.size + 1 + 1) w7 W) => h.cell (p := ⟨b4, 1, none⟩) (show ¬ (b4 = w.heap.size + 1 ∨ b4 = w.heap.size + 1 + 1) by omega) c1
          have nc2 := fun W (h : ExtX (fun b => b = w.heap.size + 1 ∨ b = w.heap.size + 1 + 1) w7 W) => h.cell (p := ⟨b4, 2, none⟩) (show ¬ (b4 = w.heap.size + 1 ∨ b4 = w.heap.size + 1 + 1) by omega) c2
          have nc3 := fun W (h : ExtX (fun b => b = w.heap.size + 1 ∨ b = w.heap.size + 1 + 1) w7 W) => h.cell (p := ⟨b4, 3, none⟩) (show ¬ (b4 = w.heap.size + 1 ∨ b4 = w.heap.size + 1 + 1) by omega) c3
          have nc4 := fun W (h : ExtX (fun b => b = w.heap.size + 1 ∨ b = w.heap.size + 1 + 1) w7 W) => h.cell (p := ⟨b4, 4, none⟩) (show ¬ (b4 = w.heap.size + 1 ∨ b4 = w.heap.size + 1 + 1) by omega) c4
          have nc5 := fun W (h : ExtX (fun b => b = w.heap.size + 1 ∨ b = w.heap.size + 1 + 1) w7 W) => h.cell (p := ⟨b4, 5, none⟩) (show ¬ (b4 = w.heap.size + 1 ∨ b4 = w.heap.size + 1 + 1) by omega) c5
          have nc6 := fun W (h : ExtX (fun b => b = w.heap.size + 1 ∨ b = w.heap.size + 1 + 1) w7 W) => h.cell (p := ⟨b4, 6, none⟩) (show ¬ (b4 = w.heap.size + 1 ∨ b4 = w.heap.size + 1 + 1) by omega) c6
          have nc7 := fun W (h : ExtX (fun b => b = w.heap.size + 1 ∨ b = w.heap.size + 1 + 1) w7 W) => h.cell (p := ⟨b4, 7, none⟩) (show ¬ (b4 = w.heap.size + 1 ∨ b4 = w.heap.size + 1 + 1) by omega) c7
          clear hQX
          go_upto_region 12 with fail
          refine wp_region_held_drew (S := fun w' => ExtX (fun b => b = w.heap.size + 1 ∨ b = w.heap.size + 1 + 1) w7 w') (by kernel_rfl) (by (try dsimp only); (exact xX)) (fun hHeld => ?_)
          refine tL 0 ?_;try simp only [Act.put,pA,pB,pC]
          refine tL 1 ?_;try simp only [Act.put,pA,pB,pC]
          refine dK 2 fun K hK => ?_; go_simp; refine hK.out _ _ (by (try dsimp only); (exact xX)) (fun hHeld => ?_); clear hK K; try simp only [Act.put,pA,pB,pC]
          refine dK 3 fun K hK => ?_; go_simp; refine hK.out _ _ (by (try dsimp only); (exact xX)) (fun hHeld => ?_); clear hK K; try simp only [Act.put,pA,pB,pC]
          refine wpAnyH_done (by kernel_rfl) ?_ _
          repeat (first | go_values | go_skip | go_guarded | go_step | go_upon)
          obtain ⟨hs, ht, hx9⟩ := HQX.out.out1
          obtain ⟨r0, r1, r2, -⟩ := SBlk.open_ (show SBlk _ _ a n c i' false from Blk.drew hs)
          obtain ⟨r3, r4, r5, r6, r7, r8, r9, ra⟩ := ht.drew.eight
          have hx8 := hx9.drew
          unfold w8s w3s at r0 r1 r2 r3 r4 r5 r6 r7 r8 r9 ra
          exact bodyPost_ret (v := .tuple #[.agg #[.slice a n c, .int .i64 (i' : Nat), .bool false], .agg #[.int .u8 x.k, .int .u8 x.op, .int .i64 x.pos, .int .i64 x.n, .string x.name, .string x.arg, .string x.exn, .slice ax nx cx]]) (by simp [results, Tryz.results72, go_sem, r0, r1, r2, r3, r4, r5, r6, r7, r8, r9, ra]) rfl (HQX.out.ret hx8)
      | true =>
        obtain ⟨m, r1, hm, hr1, her1, hok1⟩ := PL.step hb hpm
        have hE2 := he1.is_ hb
        obtain ⟨hE2, hlen2⟩ := hE2
        obtain ⟨tk, l', bb, oo, hl1, -, -, -, -, -, hnx⟩ := hA1.tok (HL.out.ext hQ.x)
        have hne : l1.tail ≠ [] := by intro h; rw [h] at hE2; exact hE2
        have hA2 : AtS L n (i' + 1) l1.tail := by
          rw [hl1] at hne ⊢
          exact hnx hne
        have hi2 := hA2.2
        have hwi : IntKind.i64.wrap ((i' : Int) + 1) = (i' : Int) + 1 := IntWalk.i64_in _ ⟨by omega, by omega⟩
        have KU : Hid (∀ W, Ext w W → Calls Tryz.prog 72 #[.agg #[.slice a n c, .int .i64 ((i' : Int) + 1), .bool false], .int .i64 ((k : Int) + 1)] W (RetE L a n c W r1)) := hid fun W h => HF.out m hm L a n c (i' + 1) l1.tail r1 W (HL.out.ext h) hA2 hE2 hr1
        rw [hb] at KI
        have HTOLD := hid (parseF_told hE2 hr1)
        have HER1 := hid her1
        have HTX := isT_tx hb
        rw [HTX] at hok1
        have HOK1 := hid hok1
        subst et
        have HLT := hid hlen2
        have HE2 := hid hE2
        clear hA1 he1 hfx gx1 gx2 hTx hpm hb hr1 her1 hok1 hE2 hl1 hnx hne hA2 HTX hQ hlen2
        go_upto_region 4 with fail
        refine wp_region_held_drew (S := fun w' => Ext wr w') (by kernel_rfl) (by (try dsimp only); (exact eX)) (fun hHeld => ?_)
        refine tL 0 ?_;try simp only [Act.put,pA,pB,pC]
        refine tL 1 ?_;try simp only [Act.put,pA,pB,pC]
        refine tL 2 ?_;try simp only [Act.put,pA,pB,pC]
        refine tL 3 ?_;try simp only [Act.put,pA,pB,pC]
        first | (refine tL 4 ?_;try simp only [Act.put,pA,pB,pC]) | (refine held_skip 4 rfl (by kernel_rfl) (by kernel_rfl) (by kernel_rfl) (fun _ _ _ h => h) (by assumption) (by rfl) ?_; try simp only [Act.put,pA,pB,pC])
        first | (refine tL 6 ?_;try simp only [Act.put,pA,pB,pC]) | (refine held_skip 6 rfl (by kernel_rfl) (by kernel_rfl) (by kernel_rfl) (fun _ _ _ h => h) (by assumption) (by rfl) ?_; try simp only [Act.put,pA,pB,pC])
        first | (refine held_skip 5 rfl (by kernel_rfl) (by kernel_rfl) (by kernel_rfl) (fun _ _ _ h => h) (by assumption) (by rfl) ?_; try simp only [Act.put,pA,pB,pC]) | (refine dK 5 fun K hK => ?_; go_simp; (first | (go_at_call 97; refine (ref5_signs k hk _).mono ?_; rintro e w5 ⟨aS, rfl, hrow, x5⟩; have HROW := hid hrow; clear hrow)); (try (focus (go_wp2_with fail))); refine hK.out _ _ (by (try dsimp only); (exact eX)) (fun hHeld => ?_); clear hK K; try simp only [Act.put,pA,pB,pC])
        first | (refine held_skip 7 rfl (by kernel_rfl) (by kernel_rfl) (by kernel_rfl) (fun _ _ _ h => h) (by assumption) (by rfl) ?_; try simp only [Act.put,pA,pB,pC]) | (refine dK 7 fun K hK => ?_; go_simp; (first | (go_at_call 41; refine (KX.out _ (by (exact eX))).mono ?_; rintro e w6 ⟨rfl, x6⟩)); (try (focus (go_wp2_with fail))); refine hK.out _ _ (by (try dsimp only); (exact eX)) (fun hHeld => ?_); clear hK K; try simp only [Act.put,pA,pB,pC])
        first | (refine held_skip 8 rfl (by kernel_rfl) (by kernel_rfl) (by kernel_rfl) (fun _ _ _ h => h) (by assumption) (by rfl) ?_; try simp only [Act.put,pA,pB,pC]) | (refine dK 8 fun K hK => ?_; go_simp; (first | (go_at_call 96; refine (KI.out _ _ (HROW.out.ext (by (exact eX)))).mono ?_; rintro e w7 ⟨rfl, x7⟩)); (try (focus (go_wp2_with fail))); refine hK.out _ _ (by (try dsimp only); (exact eX)) (fun hHeld => ?_); clear hK K; try simp only [Act.put,pA,pB,pC])
        refine tL 9 ?_;try simp only [Act.put,pA,pB,pC]
        refine wpAnyH_done (by kernel_rfl) ?_ _
        all_goals
          have hQX := HQ1.out.ext hHeld
          have X17 := hid hHeld
          obtain ⟨p0, p1, p2, f0, f1, f2, l0⟩ := SBlk.open_ hQX.s
          clear hHeld ns0 ns1 ns2 HROW hQX
          go_upto_region 9 with (first | (go_at_call 41; refine (KX.out _ X17.out).mono ?_; rintro e w8 ⟨rfl, x8⟩; obtain ⟨m0, m1, m2, k0, k1, k2, ll0⟩ := SBlk.open_ (SBlk.ext HQ1.out.s (X17.out.trans x8))) | (go_at_call 72; refine (KU.out _ (Ext.setCell (HQ1.out.x.trans (X17.out.trans x8)) (by simp) _)).mono ?_; rintro e w3 ⟨x3, i3, bad3, z, az, nz, cz, rfl, hs3, hT3⟩; obtain ⟨m0, m1, m2, k0, k1, k2, ll0⟩ := SBlk.open_ (SBlk.ext (SBlk.next (SBlk.ext HQ1.out.s (X17.out.trans x8))) x3)))
          have XN : ExtX (· = w.heap.size) wr (w8.setCell ⟨w.heap.size, 1, none⟩ (.int .i64 ((i' : Int) + 1))) := (ExtX.of (A := (· = w.heap.size)) (X17.out.trans x8)).setCell (p := ⟨w.heap.size, 1, none⟩) (.inl rfl) _
          have S3 := SBlk.ext (SBlk.next (SBlk.ext HQ1.out.s (X17.out.trans x8))) x3
          have hs23 := Below.size x3
          have hs12 := XN.size
          have S4 : SBlk (((w3s w3 w.heap.size a n c i3 bad3).alloc (.cells #[.slice a n c, .int .i64 (i3 : Nat), .bool bad3] 71)).alloc (.cells #[.int .u8 z.k, .int .u8 z.op, .int .i64 z.pos, .int .i64 z.n, .string z.name, .string z.arg, .string z.exn, .slice az nz cz] 28)) w.heap.size a n c i3 bad3 := ((w3s_blk S3).alloc _).alloc _
          have X34 : ExtX (· = w.heap.size) w3 (((w3s w3 w.heap.size a n c i3 bad3).alloc (.cells #[.slice a n c, .int .i64 (i3 : Nat), .bool bad3] 71)).alloc (.cells #[.int .u8 z.k, .int .u8 z.op, .int .i64 z.pos, .int .i64 z.n, .string z.name, .string z.arg, .string z.exn, .slice az nz cz] 28)) := (w3s_x.alloc _).alloc _
          have U4 := Blk.new ((w3s w3 w.heap.size a n c i3 bad3).alloc (.cells #[.slice a n c, .int .i64 (i3 : Nat), .bool bad3] 71)) 28 #[.int .u8 z.k, .int .u8 z.op, .int .i64 z.pos, .int .i64 z.n, .string z.name, .string z.arg, .string z.exn, .slice az nz cz]
          rw [World.size_alloc, w3s_size] at U4
          unfold w3s at S4 X34 U4
          generalize ((((((w3.setCell ⟨w.heap.size, 0, none⟩ (.slice a n c)).setCell ⟨w.heap.size, 1, none⟩ (.int .i64 (i3 : Nat))).setCell ⟨w.heap.size, 2, none⟩ (.bool bad3)).alloc (.cells #[.slice a n c, .int .i64 (i3 : Nat), .bool bad3] 71)).alloc (.cells #[.int .u8 z.k, .int .u8 z.op, .int .i64 z.pos, .int .i64 z.n, .string z.name, .string z.arg, .string z.exn, .slice az nz cz] 28))) = W4 at *
          have XR : ExtX (· = w.heap.size) wr W4 := (XN.then_ x3).trans X34
          have T4 := Blk.extx HQ1.out.t XR (show ¬ b4 = w.heap.size by omega)
          have HZ1 := hid (Blk.extx HQ1.out.z1 XR (show ¬ w.heap.size + 1 = w.heap.size by omega))
          have HZ2 := hid (Blk.extx HQ1.out.z2 XR (show ¬ w.heap.size + 1 + 1 = w.heap.size by omega))
          have HKX : Hid (t.head.Fits ∧ nx ≤ cx ∧ cx ≤ 9223372036854775807 ∧ IsTmsA (AvQ (w.heap.size + 1 + 1 + 1) b4) W4 t.kids ax nx) := hid (by
            obtain ⟨-, e2, e3, e4, e5, -⟩ := HQ1.out.ok t l1 rfl
            exact ⟨e2, e3, e4, e5.extx XR (fun b (e : b = w.heap.size) => .inl (by omega))⟩)
          have hw3sz : wr.heap.size ≤ (w8.setCell ⟨w.heap.size, 1, none⟩ (.int .i64 ((i' : Int) + 1))).heap.size := hs12
          have HKZ : Hid (∀ tb l2, r1 = .ok (tb, l2) → tb.head = z ∧ z.Fits ∧ nz ≤ cz ∧ cz ≤ 9223372036854775807 ∧ IsTmsA (AvQ (w.heap.size + 1 + 1 + 1) b4) W4 tb.kids az nz) := hid fun tb l2 h => by
            obtain ⟨e1, e2, e3, e4, e5⟩ := hT3 tb l2 h
            exact ⟨e1, e2, e3, e4, (e5.extx X34 (fun b (e : b = w.heap.size) => by show b < (w8.setCell ⟨w.heap.size, 1, none⟩ (.int .i64 ((i' : Int) + 1))).heap.size; omega)).move (fun b _ hA => by
              show b < (w8.setCell ⟨w.heap.size, 1, none⟩ (.int .i64 ((i' : Int) + 1))).heap.size
              rcases hA with h | h <;> omega) (fun _ _ _ hu => hu)⟩
          have HY4 := hid (ExtX.ext HQ1.out.x XR (fun b (e : b = w.heap.size) => by omega))
          have hw34 := XR.size
          have HS4 := hid S4
          have HT4 := hid T4
          have HS3 := hid hs3
          obtain ⟨c0, c1, c2, c3, c4, c5, c6, c7⟩ := T4.eight
          obtain ⟨d0, d1, d2, d3, d4, d5, d6, d7⟩ := U4.eight
          have lt4 := T4.lt
          have lu4 := U4.lt
          clear S3 S4 X34 T4 U4 x8 x3 hs3 hT3 m0 m1 m2 k0 k1 k2 ll0 p0 p1 p2 f0 f1 f2 l0 KU KX KI XN XR hw3sz hs12 hs23
          go_upto_region 10 with (go_at_call 98; refine (ref5_put (txS l1) t.head z ax az nx nz cx cz _).mono ?_; rintro e w6 ⟨g, rfl, hgn, hG6, x6⟩; obtain ⟨g0, g1, g2, g3, g4, g5, g6, g7⟩ := (HT4.out.ext x6).frozen8; obtain ⟨c0, c1, c2, c3, c4, c5, c6, c7⟩ := (HT4.out.ext x6).eight; have lt6 := (HT4.out.ext x6).lt)
          have X7 : ExtX (· = b4) w6 (w8s w6 b4 ⟨(putH (txS l1) t.head.pos).k, (putH (txS l1) t.head.pos).op, t.head.pos, 0, ⟨#[]⟩, ⟨#[]⟩, ⟨#[]⟩⟩ (some ⟨g, 0, none⟩) 2 2) := w8s_x
          have base : ∀ (P : Tm → List Tk → Prop) (q2 : Res Tm), StS L n i3 bad3 q2 → (∀ t' l', q2 = .ok (t', l') → (∃ tb, r1 = .ok (tb, l') ∧ t' = putT (txS l1) t tb) ∧ P t' l') → (∀ l', q2 = .error l' → r = .error l') → LoopQ L a n c w b4 P r (leftR q2) i3 bad3 ⟨(putH (txS l1) t.head.pos).k, (putH (txS l1) t.head.pos).op, t.head.pos, 0, ⟨#[]⟩, ⟨#[]⟩, ⟨#[]⟩⟩ (some ⟨g, 0, none⟩) 2 2 q2 (w8s w6 b4 ⟨(putH (txS l1) t.head.pos).k, (putH (txS l1) t.head.pos).op, t.head.pos, 0, ⟨#[]⟩, ⟨#[]⟩, ⟨#[]⟩⟩ (some ⟨g, 0, none⟩) 2 2) := fun P q2 hst hok her => {
            g := rfl
            s := Blk.extx (SBlk.ext HS4.out x6) X7 (by show ¬ w.heap.size = b4; omega)
            z1 := Blk.extx (HZ1.out.ext x6) X7 (by show ¬ w.heap.size + 1 = b4; omega)
            z2 := Blk.extx (HZ2.out.ext x6) X7 (by show ¬ w.heap.size + 1 + 1 = b4; omega)
            t := (HT4.out.ext x6).lay8
            lt4 := hb4
            st := hst
            ok := fun t' l' h => by
              obtain ⟨⟨tb, e1, rfl⟩, hP⟩ := hok t' l' h
              obtain ⟨f1, f2, f3, f4⟩ := HKX.out
              obtain ⟨rfl, g2, g3, g4, g5⟩ := HKZ.out tb l' e1
              have hm0 : t.head.Fits := f1
              obtain ⟨b1, b2, b3, b5⟩ := putH_bound (txS l1) t.head.pos
              have eT := putT_H (txS l1) t tb
              refine ⟨by rw [eT]; exact putH_eta _ _, ⟨b1, b2, b3, b5, hm0.pos0, hm0.pos1, by show (-9223372036854775808 : Int) ≤ 0; omega, by show (0 : Int) ≤ 9223372036854775807; omega, by show (0 : Nat) ≤ 9223372036854775807; omega, by show (0 : Nat) ≤ 9223372036854775807; omega, by show (0 : Nat) ≤ 9223372036854775807; omega⟩, Nat.le_refl _, by omega, ?_, hP⟩
              rw [eT]
              have hgn' : ¬ AvQ (w.heap.size + 1 + 1 + 1) b4 g := fun h => by rcases h with h | h <;> omega
              have hp := pair_row (A := AvQ (w.heap.size + 1 + 1 + 1) b4) (g := g) x6 f2 f3 g3 g4 f1 g2 f4 g5 hgn' hG6
              have e1 : Tm.mk t.head t.kids = t := by cases t; rfl
              have e2 : Tm.mk tb.head tb.kids = tb := by cases tb; rfl
              rw [e1, e2] at hp
              exact hp.extx X7 (fun b (e : b = b4) => .inr e)
            er := her
            x := ExtX.ext (HY4.out.trans x6) X7 (fun b (e : b = b4) => by omega) }
          have HBASE := hid base
          clear base
          by_cases h2 : k < 2
          · have hz2 : (k : Int) < 2 := by omega
            have hQX : LoopQ L a n c w b4 (fun _ _ => True) r (leftR r) i3 bad3 ⟨(putH (txS l1) t.head.pos).k, (putH (txS l1) t.head.pos).op, t.head.pos, 0, ⟨#[]⟩, ⟨#[]⟩, ⟨#[]⟩⟩ (some ⟨g, 0, none⟩) 2 2 r (w8s w6 b4 ⟨(putH (txS l1) t.head.pos).k, (putH (txS l1) t.head.pos).op, t.head.pos, 0, ⟨#[]⟩, ⟨#[]⟩, ⟨#[]⟩⟩ (some ⟨g, 0, none⟩) 2 2) := by
              cases r1 with
              | error l2 =>
                have e := HER1.out l2 rfl
                subst e
                exact HBASE.out (fun _ _ => True) _ HS3.out (fun _ _ h => by cases h) (fun l' h => h)
              | ok p2 =>
                obtain ⟨tb, l2⟩ := p2
                have e := (HOK1.out tb l2 rfl).1 h2
                subst e
                exact HBASE.out (fun _ _ => True) _ HS3.out (fun t' l' h => by cases h; exact ⟨⟨tb, rfl, rfl⟩, trivial⟩) (fun l' h => h)
            unfold w8s at hQX
            clear X7 hG6 x6 g0 g1 g2 g3 g4 g5 g6 g7 c0 c1 c2 c3 c4 c5 c6 c7 d0 d1 d2 d3 d4 d5 d6 d7 lt6
            generalize ((((((((w6.setCell ⟨b4, 0, none⟩ (.int .u8 (putH (txS l1) t.head.pos).k)).setCell ⟨b4, 1, none⟩ (.int .u8 (putH (txS l1) t.head.pos).op)).setCell ⟨b4, 2, none⟩ (.int .i64 t.head.pos)).setCell ⟨b4, 3, none⟩ (.int .i64 0)).setCell ⟨b4, 4, none⟩ (.string ⟨#[]⟩)).setCell ⟨b4, 5, none⟩ (.string ⟨#[]⟩)).setCell ⟨b4, 6, none⟩ (.string ⟨#[]⟩)).setCell ⟨b4, 7, none⟩ (.slice (some ⟨g, 0, none⟩) 2 2)) = WZ at *
            have HQX := hid hQX
            obtain ⟨p0, p1, p2, f0, f1, f2, l0⟩ := SBlk.open_ hQX.s
            obtain ⟨c0, c1, c2, c3, c4, c5, c6, c7⟩ := hQX.t.eight
            have hl4 := hQX.lt4
            obtain ⟨z0, z1, z2, z3, z4, z5, z6, z7⟩ := hQX.z2.eight
            obtain ⟨g0, g1, g2, g3, g4, g5, g6, g7⟩ := hQX.z2.frozen8
            have v0 := hQX.z1.cell 0
            have v1 := hQX.z1.cell 1
            have v2 := hQX.z1.cell 2
            simp at v0 v1 v2
            have v3 := hQX.z1.frozen 0
            have v4 := hQX.z1.frozen 1
            have v5 := hQX.z1.frozen 2
            have lv := hQX.z1.lt
            have lz := hQX.z2.lt
            have ne1 : w.heap.size + 1 ≠ w.heap.size + 1 + 1 := by omega
            have ne2 : w.heap.size + 1 + 1 ≠ w.heap.size + 1 := by omega
            have ns0 := fun W (h : ExtX (fun b => b = w.heap.size + 1 ∨ b = w.heap.size + 1 + 1) WZ W) => h.cell (p := ⟨w.heap.size, 0, none⟩) (show ¬ (w.heap.size = w.heap.size + 1 ∨ w.heap.size = w.heap.size + 1 + 1) by omega) p0
            have ns1 := fun W (h : ExtX (fun b => b = w.heap.size + 1 ∨ b = w.heap.size + 1 + 1) WZ W) => h.cell (p := ⟨w.heap.size, 1, none⟩) (show ¬ (w.heap.size = w.heap.size + 1 ∨ w.heap.size = w.heap.size + 1 + 1) by omega) p1
            have ns2 := fun W (h : ExtX (fun b => b = w.heap.size + 1 ∨ b = w.heap.size + 1 + 1) WZ W) => h.cell (p := ⟨w.heap.size, 2, none⟩) (show ¬ (w.heap.size = w.heap.size + 1 ∨ w.heap.size = w.heap.size + 1 + 1) by omega) p2
            have nc0 := fun W (h : ExtX (fun b => b = w.heap.size + 1 ∨ b = w.heap.size + 1 + 1) WZ W) => h.cell (p := ⟨b4, 0, none⟩) (show ¬ (b4 = w.heap.size + 1 ∨ b4 = w.heap.size + 1 + 1) by omega) c0
            have nc1 := fun W (h : ExtX (fun b => b = w.heap.size + 1 ∨ b = w.heap.size + 1 + 1) WZ W) => h.cell (p := ⟨b4, 1, none⟩) (show ¬ (b4 = w.heap.size + 1 ∨ b4 = w.heap.size + 1 + 1) by omega) c1
            have nc2 := fun W (h : ExtX (fun b => b = w.heap.size + 1 ∨ b = w.heap.size + 1 + 1) WZ W) => h.cell (p := ⟨b4, 2, none⟩) (show ¬ (b4 = w.heap.size + 1 ∨ b4 = w.heap.size + 1 + 1) by omega) c2
            have nc3 := fun W (h : ExtX (fun b => b = w.heap.size + 1 ∨ b = w.heap.size + 1 + 1) WZ W) => h.cell (p := ⟨b4, 3, none⟩) (show ¬ (b4 = w.heap.size + 1 ∨ b4 = w.heap.size + 1 + 1) by omega) c3
            have nc4 := fun W (h : ExtX (fun b => b = w.heap.size + 1 ∨ b = w.heap.size + 1 + 1) WZ W) => h.cell (p := ⟨b4, 4, none⟩) (show ¬ (b4 = w.heap.size + 1 ∨ b4 = w.heap.size + 1 + 1) by omega) c4
            have nc5 := fun W (h : ExtX (fun b => b = w.heap.size + 1 ∨ b = w.heap.size + 1 + 1) WZ W) => h.cell (p := ⟨b4, 5, none⟩) (show ¬ (b4 = w.heap.size + 1 ∨ b4 = w.heap.size + 1 + 1) by omega) c5
            have nc6 := fun W (h : ExtX (fun b => b = w.heap.size + 1 ∨ b = w.heap.size + 1 + 1) WZ W) => h.cell (p := ⟨b4, 6, none⟩) (show ¬ (b4 = w.heap.size + 1 ∨ b4 = w.heap.size + 1 + 1) by omega) c6
            have nc7 := fun W (h : ExtX (fun b => b = w.heap.size + 1 ∨ b = w.heap.size + 1 + 1) WZ W) => h.cell (p := ⟨b4, 7, none⟩) (show ¬ (b4 = w.heap.size + 1 ∨ b4 = w.heap.size + 1 + 1) by omega) c7
            clear hQX
            go_upto_region 11 with fail
            refine wp_region_held_drew (S := fun w' => ExtX (fun b => b = w.heap.size + 1 ∨ b = w.heap.size + 1 + 1) WZ w') (by kernel_rfl) (by (try dsimp only); (exact xX)) (fun hHeld => ?_)
            refine tL 0 ?_;try simp only [Act.put,pA,pB,pC]
            refine tL 1 ?_;try simp only [Act.put,pA,pB,pC]
            refine dK 2 fun K hK => ?_; go_simp; refine hK.out _ _ (by (try dsimp only); (exact xX)) (fun hHeld => ?_); clear hK K; try simp only [Act.put,pA,pB,pC]
            refine dK 3 fun K hK => ?_; go_simp; refine hK.out _ _ (by (try dsimp only); (exact xX)) (fun hHeld => ?_); clear hK K; try simp only [Act.put,pA,pB,pC]
            refine wpAnyH_done (by kernel_rfl) ?_ _
            repeat (first | go_values | go_skip | go_guarded | go_step | go_upon)
            obtain ⟨hs, ht, hx9⟩ := HQX.out.out1
            obtain ⟨r0, r1, r2, -⟩ := SBlk.open_ (show SBlk _ _ a n c i3 bad3 from Blk.drew hs)
            obtain ⟨r3, r4, r5, r6, r7, r8, r9, ra⟩ := ht.drew.eight
            have hx8 := hx9.drew
            unfold w8s w3s at r0 r1 r2 r3 r4 r5 r6 r7 r8 r9 ra
            exact bodyPost_ret (v := .tuple #[.agg #[.slice a n c, .int .i64 (i3 : Nat), .bool bad3], .agg #[.int .u8 (putH (txS l1) t.head.pos).k, .int .u8 (putH (txS l1) t.head.pos).op, .int .i64 t.head.pos, .int .i64 0, .string ⟨#[]⟩, .string ⟨#[]⟩, .string ⟨#[]⟩, .slice (some ⟨g, 0, none⟩) 2 2]]) (by simp [results, Tryz.results72, go_sem, r0, r1, r2, r3, r4, r5, r6, r7, r8, r9, ra]) rfl (HQX.out.ret hx8)
          · have hz2 : ¬ (k : Int) < 2 := by omega
            have HLQ : Hid (∃ q2, LoopQ L a n c w b4 (PL f k r) r (leftR q2) i3 bad3 ⟨(putH (txS l1) t.head.pos).k, (putH (txS l1) t.head.pos).op, t.head.pos, 0, ⟨#[]⟩, ⟨#[]⟩, ⟨#[]⟩⟩ (some ⟨g, 0, none⟩) 2 2 q2 (w8s w6 b4 ⟨(putH (txS l1) t.head.pos).k, (putH (txS l1) t.head.pos).op, t.head.pos, 0, ⟨#[]⟩, ⟨#[]⟩, ⟨#[]⟩⟩ (some ⟨g, 0, none⟩) 2 2) ∧ leftR q2 < l1.length) := hid (by
              cases r1 with
              | error l2 => exact ⟨.error l2, HBASE.out _ _ HS3.out (fun _ _ h => by cases h) (fun l' h => by cases h; exact HER1.out _ rfl), by show 0 < l1.length; have := HLT.out; omega⟩
              | ok p2 =>
                obtain ⟨tb, l2⟩ := p2
                refine ⟨.ok (putT (txS l1) t tb, l2), HBASE.out _ _ HS3.out (fun t' l' h => by cases h; exact ⟨⟨tb, rfl, rfl⟩, (HOK1.out tb l2 rfl).2 h2⟩) (fun l' h => by cases h), ?_⟩
                have h1 : l2.length < l1.tail.length := HTOLD.out.2
                have h2 := HLT.out
                show l2.length < l1.length
                omega)
            clear X7 hG6 x6
            go_wp2_with fail
            obtain ⟨q2, hq2, hlt2⟩ := HLQ.out
            go_roundg (leftR q2)
            case rel =>
              unfold w8s at hq2
              exact ⟨_, _, _, _, _, _, q2, hq2⟩
            case measure =>
              have hg := HQ1.out.g
              rw [hg]
              exact hlt2
end Go.Proofs.YtaioeailgknfjaaGreatDoor

/- The walk of the law's moved: a term laid anew, its places moved. -/
import Derived.Test.YtljpbikcpjocmaaDoorTermS
import Derived.Test.YtljpbikcpjocmaaDoorRef04c
import Derived.Test.YtljpbikcpjocmaaDoorMov
namespace Go.Proofs.YtljpbikcpjocmaaDoor
open Go Go.RowKit Go.Sort

def Hd.at_ (h : Hd) (p : Int) : Hd := { h with pos := p }
mutual
/-- A term whose places are all moved. -/
def Tm.moved : Tm → Int → Tm
  | .mk h l, p => .mk (h.at_ p) (Tm.moveds l (p + 1))
def Tm.moveds : List Tm → Int → List Tm
  | [], _ => []
  | t :: l, p => t.moved p :: Tm.moveds l p
end
theorem Tm.moveds_length (l : List Tm) (p : Int) : (Tm.moveds l p).length = l.length := by
  induction l with
  | nil => rfl
  | cons t l ih => simp [Tm.moveds, ih]
theorem Tm.moveds_take_succ (l : List Tm) (p : Int) (i : Nat) (t : Tm) (h : l[i]? = some t) : Tm.moveds (l.take (i + 1)) p = Tm.moveds (l.take i) p ++ [t.moved p] := by
  induction l generalizing i with
  | nil => simp at h
  | cons x l ih =>
    cases i with
    | zero => simp at h; subst h; simp [Tm.moveds]
    | succ i => simp at h; simp [Tm.moveds, ih i h]
theorem Hd.same_at (h : Hd) (p : Int) : h.same (h.at_ p) = true := by simp [Hd.same, Hd.at_]
theorem Tm.same_moved (t : Tm) : ∀ p, t.same (t.moved p) = true := by
  induction t using Tm.ind with
  | h x l ih =>
    intro p
    simp only [Tm.moved, Tm.same, Hd.same_at, Bool.true_and]
    generalize p + 1 = q
    induction l with
    | nil => rfl
    | cons t l ihl =>
      simp only [Tm.moveds, Tm.sames, ih t (by simp) q, Bool.true_and]
      exact ihl fun t ht => ih t (by simp [ht])
theorem Hd.fits_at {h : Hd} (hf : h.Fits) {p : Int} (h0 : -9223372036854775808 ≤ p) (h1 : p ≤ 9223372036854775807) : (h.at_ p).Fits :=
  ⟨hf.k0, hf.k1, hf.op0, hf.op1, h0, h1, hf.n0, hf.n1, hf.name1, hf.arg1, hf.exn1⟩

/-- A call hands back a term that lies in new blocks alone. -/
def RetNew (w : World) (h : Hd) (l : List Tm) (e : Ending) (w' : World) : Prop := ∃ a len cap, e = .returned (.agg #[.int .u8 h.k, .int .u8 h.op, .int .i64 h.pos, .int .i64 h.n, .string h.name, .string h.arg, .string h.exn, .slice a len cap]) ∧ IsTmsA (fun b => b < w.heap.size) w' l a len ∧ len ≤ cap ∧ cap ≤ 9223372036854775807 ∧ h.Fits ∧ Ext w w'
abbrev Own2 (s : Nat) (v : Value) : Nat → Prop := fun b => b = s + 2 ∨ v.ownBlock = some b
def zeroTm : Array Value := #[.int .u8 0, .int .u8 0, .int .i64 0, .int .i64 0, .string ByteArray.empty, .string ByteArray.empty, .string ByteArray.empty, .slice none 0 0]
theorem tcells_one (h : Hd) (a : Option Addr) (len cap : Nat) : ∀ u ∈ (tcells h a len cap).toList, u.oneCell' = true := by
  intro u hu
  simp [tcells] at hu
  rcases hu with rfl | rfl | rfl | rfl | rfl | rfl | rfl | rfl <;> rfl
/-- The row of a term that has been laid: its terms. -/
theorem Mov.tms {E : TypeId} {s : Nat} {h : Hd} {ms : List Tm} {a : Option Addr} {c : Nat} {xs : List Value} {wr : World} (hM : Mov E s h ms a c xs wr) : IsTmsA (fun b => b < s + 3) wr ms a ms.length := by
  obtain ⟨hB, hO, hF, hc1, hc2⟩ := hM
  rcases Nat.eq_zero_or_pos ms.length with h0 | h0
  · obtain rfl := List.eq_nil_of_length_eq_zero h0
    exact IsTmsA.nil _
  · obtain ⟨g, cap, e, hg, hl, h1, h2, hc⟩ := owns_open hO h0
    simp at e
    obtain ⟨rfl, rfl⟩ := e
    exact hF.tms (fun b hb => .inl hb) g 0 (by omega) fun j u hu => by simpa using hc j u hu
/-- The result is laid. -/
theorem mov_done {w wr : World} {s : Nat} {h : Hd} {ms : List Tm} {aa : Option Addr} {cc : Nat} {xs : List Value} (hM : Mov 34 s h ms aa cc xs wr) (hB1 : Blk wr (s + 1) 34 zeroTm) (hsw : w.heap.size ≤ s + 1) (hx : Ext w wr) :
    Blk ((((((((wr.setCell ⟨s + 1, 0, none⟩ (.int .u8 h.k)).setCell ⟨s + 1, 1, none⟩ (.int .u8 h.op)).setCell ⟨s + 1, 2, none⟩ (.int .i64 h.pos)).setCell ⟨s + 1, 3, none⟩ (.int .i64 h.n)).setCell ⟨s + 1, 4, none⟩ (.string h.name)).setCell ⟨s + 1, 5, none⟩ (.string h.arg)).setCell ⟨s + 1, 6, none⟩ (.string h.exn)).setCell ⟨s + 1, 7, none⟩ (.slice aa ms.length cc)) (s + 1) 34 (tcells h aa ms.length cc) ∧ IsTmsA (fun b => b < s) ((((((((wr.setCell ⟨s + 1, 0, none⟩ (.int .u8 h.k)).setCell ⟨s + 1, 1, none⟩ (.int .u8 h.op)).setCell ⟨s + 1, 2, none⟩ (.int .i64 h.pos)).setCell ⟨s + 1, 3, none⟩ (.int .i64 h.n)).setCell ⟨s + 1, 4, none⟩ (.string h.name)).setCell ⟨s + 1, 5, none⟩ (.string h.arg)).setCell ⟨s + 1, 6, none⟩ (.string h.exn)).setCell ⟨s + 1, 7, none⟩ (.slice aa ms.length cc)) ms aa ms.length ∧ Ext w ((((((((wr.setCell ⟨s + 1, 0, none⟩ (.int .u8 h.k)).setCell ⟨s + 1, 1, none⟩ (.int .u8 h.op)).setCell ⟨s + 1, 2, none⟩ (.int .i64 h.pos)).setCell ⟨s + 1, 3, none⟩ (.int .i64 h.n)).setCell ⟨s + 1, 4, none⟩ (.string h.name)).setCell ⟨s + 1, 5, none⟩ (.string h.arg)).setCell ⟨s + 1, 6, none⟩ (.string h.exn)).setCell ⟨s + 1, 7, none⟩ (.slice aa ms.length cc)) := by
  have ht := hM.tms
  have hB8 := ((((((((hB1.set_ 0 (.int .u8 h.k)).set_ 1 (.int .u8 h.op)).set_ 2 (.int .i64 h.pos)).set_ 3 (.int .i64 h.n)).set_ 4 (.string h.name)).set_ 5 (.string h.arg)).set_ 6 (.string h.exn)).set_ 7 (.slice aa ms.length cc))
  have e8 : (((((((((#[.int .u8 0, .int .u8 0, .int .i64 0, .int .i64 0, .string ByteArray.empty, .string ByteArray.empty, .string ByteArray.empty, .slice none 0 0] : Array Value).setIfInBounds 0 (.int .u8 h.k)).setIfInBounds 1 (.int .u8 h.op)).setIfInBounds 2 (.int .i64 h.pos)).setIfInBounds 3 (.int .i64 h.n)).setIfInBounds 4 (.string h.name)).setIfInBounds 5 (.string h.arg)).setIfInBounds 6 (.string h.exn)).setIfInBounds 7 (.slice aa ms.length cc)) = tcells h aa ms.length cc := by simp [tcells]
  unfold zeroTm at hB8
  rw [e8] at hB8
  have ht8 := (IsTmsA.setCell (A := fun b => b < s + 3) (p := ⟨s + 1, 7, none⟩) (show s + 1 < s + 3 by omega) (.slice aa ms.length cc) (IsTmsA.setCell (A := fun b => b < s + 3) (p := ⟨s + 1, 6, none⟩) (show s + 1 < s + 3 by omega) (.string h.exn) (IsTmsA.setCell (A := fun b => b < s + 3) (p := ⟨s + 1, 5, none⟩) (show s + 1 < s + 3 by omega) (.string h.arg) (IsTmsA.setCell (A := fun b => b < s + 3) (p := ⟨s + 1, 4, none⟩) (show s + 1 < s + 3 by omega) (.string h.name) (IsTmsA.setCell (A := fun b => b < s + 3) (p := ⟨s + 1, 3, none⟩) (show s + 1 < s + 3 by omega) (.int .i64 h.n) (IsTmsA.setCell (A := fun b => b < s + 3) (p := ⟨s + 1, 2, none⟩) (show s + 1 < s + 3 by omega) (.int .i64 h.pos) (IsTmsA.setCell (A := fun b => b < s + 3) (p := ⟨s + 1, 1, none⟩) (show s + 1 < s + 3 by omega) (.int .u8 h.op) (IsTmsA.setCell (A := fun b => b < s + 3) (p := ⟨s + 1, 0, none⟩) (show s + 1 < s + 3 by omega) (.int .u8 h.k) ht))))))))
  exact ⟨hB8, ht8.off fun b _ hb => (show b < s + 3 by omega), (Ext.setCell (p := ⟨s + 1, 7, none⟩) (Ext.setCell (p := ⟨s + 1, 6, none⟩) (Ext.setCell (p := ⟨s + 1, 5, none⟩) (Ext.setCell (p := ⟨s + 1, 4, none⟩) (Ext.setCell (p := ⟨s + 1, 3, none⟩) (Ext.setCell (p := ⟨s + 1, 2, none⟩) (Ext.setCell (p := ⟨s + 1, 1, none⟩) (Ext.setCell (p := ⟨s + 1, 0, none⟩) hx hsw (.int .u8 h.k)) hsw (.int .u8 h.op)) hsw (.int .i64 h.pos)) hsw (.int .i64 h.n)) hsw (.string h.name)) hsw (.string h.arg)) hsw (.string h.exn)) hsw (.slice aa ms.length cc))⟩

set_option maxRecDepth 8000 in
set_option maxHeartbeats 4000000 in
theorem law04_moved (m : Nat) : ∀ (t : Tm) (p : Int) (w : World) (v : Value), t.size ≤ m → t.size ≤ 1000000 → 0 ≤ p → p + t.size ≤ 4000000 → IsTm w t v → ∃ h l, t.moved p = .mk h l ∧ Calls Tryd.prog 32 #[v, .int .i64 p] w (RetNew w h l) := by
  induction m with
  | zero => intro t p w v h; have := t.size_pos; omega
  | succ m ih =>
    intro t p w v hm hs hp0 hp1 ht
    obtain ⟨x, l⟩ := t
    refine ⟨x.at_ p, Tm.moveds l (p + 1), by rw [Tm.moved], ?_⟩
    obtain ⟨a, len, cap, rfl, h1, h2, hf, hl⟩ := ht.open_
    simp only [Tm.size] at hm hs hp1
    have HL := Lib.hid hl.length
    have IH := Lib.hid ih
    have HTL := Lib.hid hl
    have HF := Lib.hid hf
    obtain ⟨i0, hi, hz0, hz1, hz2⟩ := info_parts infoTm
    have HI := Lib.hid (And.intro hi (And.intro hz0 (And.intro hz1 hz2)))
    clear ih ht hf hl hi hz0 hz1 hz2
    go_enter Tryd.func32, Tryd.ntmps32
    go_wp2_with fail
    go_loopg [6] len (fun g i wr => ∃ (j : Nat) (aa : Option Addr) (cc : Nat) (xs : List Value), g = len - j ∧ j ≤ len ∧ i = .int .i64 j ∧ Mov 34 w.heap.size (x.at_ p) (Tm.moveds (l.take j) (p + 1)) aa cc xs wr ∧ Blk wr (w.heap.size + 1) 34 zeroTm ∧ wr.cell? ⟨w.heap.size, 7, none⟩ = some (.slice a len cap) ∧ Ext w wr)
    case atStart =>
      refine ⟨0, some ⟨w.heap.size + 3, 0, none⟩, 0, [], by omega, by omega, rfl, ⟨?_, ?_, ?_, Nat.le_refl _, by unfold maxLen; omega⟩, ?_, by simp [go_sem], (((((Ext.refl _).alloc _).alloc _).alloc _).alloc _)⟩
      · have h := (Blk.new ((w.alloc (.cells #[.int .u8 x.k, .int .u8 x.op, .int .i64 x.pos, .int .i64 x.n, .string x.name, .string x.arg, .string x.exn, .slice a len cap] 34)).alloc (.cells zeroTm 34)) 34 (tcells (x.at_ p) (some ⟨w.heap.size + 3, 0, none⟩) 0 0)).alloc (.cells #[] 34)
        rw [World.size_alloc, World.size_alloc] at h
        exact h
      · have h := owns_new (((w.alloc (.cells #[.int .u8 x.k, .int .u8 x.op, .int .i64 x.pos, .int .i64 x.n, .string x.name, .string x.arg, .string x.exn, .slice a len cap] 34)).alloc (.cells zeroTm 34)).alloc (.cells (tcells (x.at_ p) (some ⟨w.heap.size + 3, 0, none⟩) 0 0) 34)) (w.heap.size + 3) 34 8 0 [] (by simp) (by unfold maxLen; omega) rfl
        rw [World.size_alloc, World.size_alloc, World.size_alloc] at h
        exact h
      · rfl
      · have h := ((Blk.new (w.alloc (.cells #[.int .u8 x.k, .int .u8 x.op, .int .i64 x.pos, .int .i64 x.n, .string x.name, .string x.arg, .string x.exn, .slice a len cap] 34)) 34 zeroTm).alloc (.cells (tcells (x.at_ p) (some ⟨w.heap.size + 3, 0, none⟩) 0 0) 34)).alloc (.cells #[] 34)
        rw [World.size_alloc] at h
        exact h
    case round =>
      obtain ⟨j, aa, cc, xs, rfl, hj, rfl, hM, hB1, hc7, hx⟩ := hrel
      have hms : (Tm.moveds (l.take j) (p + 1)).length = j := by rw [Tm.moveds_length, List.length_take, ← HL.out]; omega
      obtain ⟨ms, hmsd⟩ : ∃ ms, ms = Tm.moveds (l.take j) (p + 1) := ⟨_, rfl⟩
      rw [← hmsd] at hM hms
      have HMS := Lib.hid hmsd
      have HM := Lib.hid hM
      have HB1 := Lib.hid hB1
      have d7 : wr.cell? ⟨w.heap.size + 2, 7, none⟩ = some (.slice aa ms.length cc) := hM.1.cell 7
      have dl := hM.1.lt
      have hc1 : ms.length ≤ cc := hM.2.2.2.1
      have hc2 : cc ≤ 9223372036854775807 := hM.2.2.2.2
      have HROW := Lib.hid fun k hk => (hM.2.1.lt k hk).1
      have hmsl : ms.length ≤ 1000000 := by have := Tm.sizes_length l; have := HL.out; omega
      have HJ := Lib.hid hms
      clear hM hmsd hB1 hms
      by_cases hlt : j < len
      · obtain ⟨y, k, b, o, ak, lenk, capk, g, rfl, hbo, hdd, hq, hfy, p1, p2, pl⟩ := HTL.out.at8 (Ext.refl w) hlt
        have hb0 := block_lt_of_cell hdd.c0
        simp at hb0
        have hne : ¬ (Own2 w.heap.size (Value.slice aa ms.length cc)) b := by
          rintro (e | e)
          · omega
          · have := HROW.out b e; omega
        have hne0 : ¬ (Own2 w.heap.size (Value.slice aa ms.length cc)) w.heap.size := by
          rintro (e | e)
          · omega
          · have := HROW.out _ e; omega
        have hne1 : ¬ (Own2 w.heap.size (Value.slice aa ms.length cc)) (w.heap.size + 1) := by
          rintro (e | e)
          · omega
          · have := HROW.out _ e; omega
        have q0 := fun W (h : ExtX (Own2 w.heap.size (Value.slice aa ms.length cc)) wr W) => h.cell hne (hx.cell hdd.c0)
        have q1 := fun W (h : ExtX (Own2 w.heap.size (Value.slice aa ms.length cc)) wr W) => h.cell hne (hx.cell hdd.c1)
        have q2 := fun W (h : ExtX (Own2 w.heap.size (Value.slice aa ms.length cc)) wr W) => h.cell hne (hx.cell hdd.c2)
        have q3 := fun W (h : ExtX (Own2 w.heap.size (Value.slice aa ms.length cc)) wr W) => h.cell hne (hx.cell hdd.c3)
        have q4 := fun W (h : ExtX (Own2 w.heap.size (Value.slice aa ms.length cc)) wr W) => h.cell hne (hx.cell hdd.c4)
        have q5 := fun W (h : ExtX (Own2 w.heap.size (Value.slice aa ms.length cc)) wr W) => h.cell hne (hx.cell hdd.c5)
        have q6 := fun W (h : ExtX (Own2 w.heap.size (Value.slice aa ms.length cc)) wr W) => h.cell hne (hx.cell hdd.c6)
        have q7 := fun W (h : ExtX (Own2 w.heap.size (Value.slice aa ms.length cc)) wr W) => h.cell hne (hx.cell hq)
        have q70 := fun W (h : ExtX (Own2 w.heap.size (Value.slice aa ms.length cc)) wr W) => h.cell hne0 hc7
        have hb1 := fun W (h : ExtX (Own2 w.heap.size (Value.slice aa ms.length cc)) wr W) => Nat.lt_of_lt_of_le hb0 (Nat.le_trans hx.size h.size)
        have hsz := Tm.size_at l j _ g
        have HTS := Lib.hid (Tm.moveds_take_succ l (p + 1) j _ g)
        have KM : Hid (∀ W, Ext wr W → Calls Tryd.prog 32 #[tval y ak lenk capk, .int .i64 (p + 1)] W (RetNew W (y.at_ (p + 1)) (Tm.moveds k (p + 1 + 1)))) := by
          intro W hW
          obtain ⟨h', l', e, hc⟩ := IH.out (.mk y k) (p + 1) W (tval y ak lenk capk) (by omega) (by omega) (by omega) (by omega) (IsTmA.mk_ (pl.ext (hx.trans hW)) p1 p2 hfy)
          rw [Tm.moved] at e
          cases e
          exact hc
        rw [Tm.moved, ← HMS.out] at HTS
        unfold tval at KM
        generalize y.at_ (p + 1) = ht at *
        generalize Tm.moveds k (p + 1 + 1) = kt at *
        have hwp : IntKind.i64.wrap (p + 1) = p + 1 := IntWalk.i64_in _ ⟨by omega, by omega⟩
        clear g pl hfy hdd hq hsz HMS
        go_wp2_with fail
        refine wp_region_held_drew (S := fun w' => ExtX (Own2 w.heap.size (Value.slice aa ms.length cc)) wr w') (by kernel_rfl) (by (try dsimp only); (repeat (first | exact ExtX.refl _ | assumption | refine ExtX.alloc ?_ _ | refine ExtX.drew ?_ | refine ExtX.setCell ?_ (by first | (left; rfl) | (left; left; rfl) | (right; simp; done) | (right; simp; omega) | (right; omega)) _ | refine ExtX.then_ ?_ (by assumption)))) (fun hHeld => ?_)
        refine held_take 0 (v := ?_) rfl (by kernel_rfl) (by kernel_rfl) (by kernel_rfl) (fun _ _ _ h => h) (by assumption) (by rfl) ?_ ?_; rotate_left; (focus (intro w hSw; (try dsimp only at hSw); go_simp; (try with_reducible rfl))); try simp only [Act.put, List.setIfInBounds_toArray, List.set_cons_zero, List.set_cons_succ]
        refine held_take 2 (v := ?_) rfl (by kernel_rfl) (by kernel_rfl) (by kernel_rfl) (fun _ _ _ h => h) (by assumption) (by rfl) ?_ ?_; rotate_left; (focus (intro w hSw; (try dsimp only at hSw); go_simp; (try with_reducible rfl))); try simp only [Act.put, List.setIfInBounds_toArray, List.set_cons_zero, List.set_cons_succ]
        refine held_take 3 (v := ?_) rfl (by kernel_rfl) (by kernel_rfl) (by kernel_rfl) (fun _ _ _ h => h) (by assumption) (by rfl) ?_ ?_; rotate_left; (focus (intro w hSw; (try dsimp only at hSw); go_simp; (try with_reducible rfl))); try simp only [Act.put, List.setIfInBounds_toArray, List.set_cons_zero, List.set_cons_succ]
        refine held_take 4 (v := ?_) rfl (by kernel_rfl) (by kernel_rfl) (by kernel_rfl) (fun _ _ _ h => h) (by assumption) (by rfl) ?_ ?_; rotate_left; (focus (intro w hSw; (try dsimp only at hSw); go_simp; (try with_reducible rfl))); try simp only [Act.put, List.setIfInBounds_toArray, List.set_cons_zero, List.set_cons_succ]
        refine held_take 5 (v := ?_) rfl (by kernel_rfl) (by kernel_rfl) (by kernel_rfl) (fun _ _ _ h => h) (by assumption) (by rfl) ?_ ?_; rotate_left; (focus (intro w hSw; (try dsimp only at hSw); go_simp; (try with_reducible rfl))); try simp only [Act.put, List.setIfInBounds_toArray, List.set_cons_zero, List.set_cons_succ]
        refine held_take 6 (v := ?_) rfl (by kernel_rfl) (by kernel_rfl) (by kernel_rfl) (fun _ _ _ h => h) (by assumption) (by rfl) ?_ ?_; rotate_left; (focus (intro w hSw; (try dsimp only at hSw); go_simp; (try with_reducible rfl))); try simp only [Act.put, List.setIfInBounds_toArray, List.set_cons_zero, List.set_cons_succ]
        refine held_take 7 (v := ?_) rfl (by kernel_rfl) (by kernel_rfl) (by kernel_rfl) (fun _ _ _ h => h) (by assumption) (by rfl) ?_ ?_; rotate_left; (focus (intro w hSw; (try dsimp only at hSw); go_simp; (try with_reducible rfl))); try simp only [Act.put, List.setIfInBounds_toArray, List.set_cons_zero, List.set_cons_succ]
        refine held_take 8 (v := ?_) rfl (by kernel_rfl) (by kernel_rfl) (by kernel_rfl) (fun _ _ _ h => h) (by assumption) (by rfl) ?_ ?_; rotate_left; (focus (intro w hSw; (try dsimp only at hSw); go_simp; (try with_reducible rfl))); try simp only [Act.put, List.setIfInBounds_toArray, List.set_cons_zero, List.set_cons_succ]
        refine wpAnyH_ready (rs := [1, 9]) (by kernel_rfl) (by simp) ?_
        refine held_cons 1 rfl (by rfl) (fun K hK => ?_) (held_cons 9 rfl (by rfl) (fun K hK => ?_) AllReadyH.nil)
        go_simp; refine hK.out _ _ (by (try dsimp only); (repeat (first | exact ExtX.refl _ | assumption | refine ExtX.alloc ?_ _ | refine ExtX.drew ?_ | refine ExtX.setCell ?_ (by first | (left; rfl) | (left; left; rfl) | (right; simp; done) | (right; simp; omega) | (right; omega)) _ | refine ExtX.then_ ?_ (by assumption)))) (fun hHeld => ?_); clear hK K; try simp only [Act.put, List.setIfInBounds_toArray, List.set_cons_zero, List.set_cons_succ]
        refine held_do 9 rfl (by kernel_rfl) (by rfl) (fun K hK => ?_); go_simp; (first | (go_at_call 32; refine (KM.out _ (by (repeat (first | exact Ext.refl _ | assumption | refine Ext.alloc ?_ _ | refine Ext.drew ?_ | refine Ext.setCell ?_ (by first | (simp; done) | (simp; omega) | omega) _ | refine Ext.trans ?_ (by assumption))))).mono ?_; rintro e w2 ⟨a2, l2, c2, rfl, hk2, g1, g2, g3, x2⟩; have y2 : Ext wr w2 := Ext.trans (by (repeat (first | exact Ext.refl _ | assumption | refine Ext.alloc ?_ _ | refine Ext.drew ?_ | refine Ext.setCell ?_ (by first | (simp; done) | (simp; omega) | omega) _ | refine Ext.trans ?_ (by assumption)))) x2; have e7 := y2.cell d7; have hs2 := y2.size; have hs3 : w.heap.size + 2 < w2.heap.size := Nat.lt_of_lt_of_le dl hs2)); (try (focus (go_wp2_with fail))); refine hK.out _ _ (by (try dsimp only); (repeat (first | exact ExtX.refl _ | assumption | refine ExtX.alloc ?_ _ | refine ExtX.drew ?_ | refine ExtX.setCell ?_ (by first | (left; rfl) | (left; left; rfl) | (right; simp; done) | (right; simp; omega) | (right; omega)) _ | refine ExtX.then_ ?_ (by assumption)))) (fun hHeld => ?_); clear hK K; try simp only [Act.put, List.setIfInBounds_toArray, List.set_cons_zero, List.set_cons_succ]
        refine held_do 10 rfl (by kernel_rfl) (by rfl) (fun K hK => ?_); go_simp; refine hK.out _ _ (by (try dsimp only); (repeat (first | exact ExtX.refl _ | assumption | refine ExtX.alloc ?_ _ | refine ExtX.drew ?_ | refine ExtX.setCell ?_ (by first | (left; rfl) | (left; left; rfl) | (right; simp; done) | (right; simp; omega) | (right; omega)) _ | refine ExtX.then_ ?_ (by assumption)))) (fun hHeld => ?_); clear hK K; try simp only [Act.put, List.setIfInBounds_toArray, List.set_cons_zero, List.set_cons_succ]
        refine held_do 11 rfl (by kernel_rfl) (by rfl) (fun K hK => ?_); (first | (refine wp_append_mine (.tmp 21) (.tmp 30) 32 rfl (w.heap.size + 3) 34 i0 (.agg #[.int .u8 0, .int .u8 0, .int .i64 0, .int .i64 0, .string ByteArray.empty, .string ByteArray.empty, .string ByteArray.empty, .slice none 0 0]) 8 96 Tryd.underlying32 HI.out.1 HI.out.2.1 HI.out.2.2.1 HI.out.2.2.2 rfl (by decide) (Value.slice aa ms.length cc) ms.length xs rfl (owns_ext (y2.trans (by (repeat (first | exact Ext.refl _ | assumption | refine Ext.alloc ?_ _ | refine Ext.drew ?_ | refine Ext.setCell ?_ (by first | (simp; done) | (simp; omega) | omega) _ | refine Ext.trans ?_ (by assumption))))) HM.out.2.1) ⟨w2.heap.size, 0, none⟩ 1 1 (tcells ht a2 l2 c2).toList rfl rfl (fun i u hu => by rw [Addr.add_lit, Nat.zero_add]; rw [Array.getElem?_toList] at hu; exact (World.cell?_alloc_new w2 _ _ _).trans hu) (tcells_one _ _ _ _) (by unfold maxLen; omega) (by omega) (Nat.le_trans (show w.heap.size + 3 ≤ w2.heap.size by omega) (show Ext w2 _ from by (repeat (first | exact Ext.refl _ | assumption | refine Ext.alloc ?_ _ | refine Ext.drew ?_ | refine Ext.setCell ?_ (by first | (simp; done) | (simp; omega) | omega) _ | refine Ext.trans ?_ (by assumption)))).size) ?_; intro v5 w5 ho5 hg5 hw5; have hX5 : ExtX (Own2 w.heap.size (Value.slice aa ms.length cc)) wr w5 := extx_grown (y2.trans (by (repeat (first | exact Ext.refl _ | assumption | refine Ext.alloc ?_ _ | refine Ext.drew ?_ | refine Ext.setCell ?_ (by first | (simp; done) | (simp; omega) | omega) _ | refine Ext.trans ?_ (by assumption))))) hg5 (fun k hk => .inr hk); obtain ⟨g5, c5, rfl, hB5, hM5⟩ := mov_step HM.out (by (repeat (first | exact Ext.refl _ | assumption | refine Ext.alloc ?_ _ | refine Ext.drew ?_ | refine Ext.setCell ?_ (by first | (simp; done) | (simp; omega) | omega) _ | refine Ext.trans ?_ (by assumption)))) x2 (by (repeat (first | exact Ext.refl _ | assumption | refine Ext.alloc ?_ _ | refine Ext.drew ?_ | refine Ext.setCell ?_ (by first | (simp; done) | (simp; omega) | omega) _ | refine Ext.trans ?_ (by assumption)))) hk2 g1 g2 g3 ho5 hg5 hw5; have f7 := hB5.frozen 7; have e75 := hB5.cell 7; have hl5 := hB5.lt; have HM5 := Lib.hid hM5; clear hM5 ho5 hg5 hw5)); refine hK.out _ _ (by (try dsimp only); (repeat (first | exact ExtX.refl _ | assumption | refine ExtX.alloc ?_ _ | refine ExtX.drew ?_ | refine ExtX.setCell ?_ (by first | (left; rfl) | (left; left; rfl) | (right; simp; done) | (right; simp; omega) | (right; omega)) _ | refine ExtX.then_ ?_ (by assumption)))) (fun hHeld => ?_); clear hK K; try simp only [Act.put, List.setIfInBounds_toArray, List.set_cons_zero, List.set_cons_succ]
        refine held_take 12 (v := ?_) rfl (by kernel_rfl) (by kernel_rfl) (by kernel_rfl) (fun _ _ _ h => h) (by assumption) (by rfl) ?_ ?_; rotate_left; (focus (intro w hSw; (try dsimp only at hSw); go_simp; (try with_reducible rfl))); try simp only [Act.put, List.setIfInBounds_toArray, List.set_cons_zero, List.set_cons_succ]
        refine held_do 13 rfl (by kernel_rfl) (by rfl) (fun K hK => ?_); go_simp; refine hK.out _ _ (by (try dsimp only); (repeat (first | exact ExtX.refl _ | assumption | refine ExtX.alloc ?_ _ | refine ExtX.drew ?_ | refine ExtX.setCell ?_ (by first | (left; rfl) | (left; left; rfl) | (right; simp; done) | (right; simp; omega) | (right; omega)) _ | refine ExtX.then_ ?_ (by assumption)))) (fun hHeld => ?_); clear hK K; try simp only [Act.put, List.setIfInBounds_toArray, List.set_cons_zero, List.set_cons_succ]
        refine wpAnyH_done (by kernel_rfl) ?_ _
        rotate_left 1
        go_simp; (first | (go_at_call 32; refine (KM.out _ (by (repeat (first | exact Ext.refl _ | assumption | refine Ext.alloc ?_ _ | refine Ext.drew ?_ | refine Ext.setCell ?_ (by first | (simp; done) | (simp; omega) | omega) _ | refine Ext.trans ?_ (by assumption))))).mono ?_; rintro e w2 ⟨a2, l2, c2, rfl, hk2, g1, g2, g3, x2⟩; have y2 : Ext wr w2 := Ext.trans (by (repeat (first | exact Ext.refl _ | assumption | refine Ext.alloc ?_ _ | refine Ext.drew ?_ | refine Ext.setCell ?_ (by first | (simp; done) | (simp; omega) | omega) _ | refine Ext.trans ?_ (by assumption)))) x2; have e7 := y2.cell d7; have hs2 := y2.size; have hs3 : w.heap.size + 2 < w2.heap.size := Nat.lt_of_lt_of_le dl hs2)); (try (focus (go_wp2_with fail))); refine hK.out _ _ (by (try dsimp only); (repeat (first | exact ExtX.refl _ | assumption | refine ExtX.alloc ?_ _ | refine ExtX.drew ?_ | refine ExtX.setCell ?_ (by first | (left; rfl) | (left; left; rfl) | (right; simp; done) | (right; simp; omega) | (right; omega)) _ | refine ExtX.then_ ?_ (by assumption)))) (fun hHeld => ?_); clear hK K; try simp only [Act.put, List.setIfInBounds_toArray, List.set_cons_zero, List.set_cons_succ]
        refine wpAnyH_ready (rs := [1, 10]) (by kernel_rfl) (by simp) ?_
        refine held_cons 1 rfl (by rfl) (fun K hK => ?_) (held_cons 10 rfl (by rfl) (fun K hK => ?_) AllReadyH.nil)
        go_simp; refine hK.out _ _ (by (try dsimp only); (repeat (first | exact ExtX.refl _ | assumption | refine ExtX.alloc ?_ _ | refine ExtX.drew ?_ | refine ExtX.setCell ?_ (by first | (left; rfl) | (left; left; rfl) | (right; simp; done) | (right; simp; omega) | (right; omega)) _ | refine ExtX.then_ ?_ (by assumption)))) (fun hHeld => ?_); clear hK K; try simp only [Act.put, List.setIfInBounds_toArray, List.set_cons_zero, List.set_cons_succ]
        refine held_do 10 rfl (by kernel_rfl) (by rfl) (fun K hK => ?_); go_simp; refine hK.out _ _ (by (try dsimp only); (repeat (first | exact ExtX.refl _ | assumption | refine ExtX.alloc ?_ _ | refine ExtX.drew ?_ | refine ExtX.setCell ?_ (by first | (left; rfl) | (left; left; rfl) | (right; simp; done) | (right; simp; omega) | (right; omega)) _ | refine ExtX.then_ ?_ (by assumption)))) (fun hHeld => ?_); clear hK K; try simp only [Act.put, List.setIfInBounds_toArray, List.set_cons_zero, List.set_cons_succ]
        refine held_do 11 rfl (by kernel_rfl) (by rfl) (fun K hK => ?_); (first | (refine wp_append_mine (.tmp 21) (.tmp 30) 32 rfl (w.heap.size + 3) 34 i0 (.agg #[.int .u8 0, .int .u8 0, .int .i64 0, .int .i64 0, .string ByteArray.empty, .string ByteArray.empty, .string ByteArray.empty, .slice none 0 0]) 8 96 Tryd.underlying32 HI.out.1 HI.out.2.1 HI.out.2.2.1 HI.out.2.2.2 rfl (by decide) (Value.slice aa ms.length cc) ms.length xs rfl (owns_ext (y2.trans (by (repeat (first | exact Ext.refl _ | assumption | refine Ext.alloc ?_ _ | refine Ext.drew ?_ | refine Ext.setCell ?_ (by first | (simp; done) | (simp; omega) | omega) _ | refine Ext.trans ?_ (by assumption))))) HM.out.2.1) ⟨w2.heap.size, 0, none⟩ 1 1 (tcells ht a2 l2 c2).toList rfl rfl (fun i u hu => by rw [Addr.add_lit, Nat.zero_add]; rw [Array.getElem?_toList] at hu; exact (World.cell?_alloc_new w2 _ _ _).trans hu) (tcells_one _ _ _ _) (by unfold maxLen; omega) (by omega) (Nat.le_trans (show w.heap.size + 3 ≤ w2.heap.size by omega) (show Ext w2 _ from by (repeat (first | exact Ext.refl _ | assumption | refine Ext.alloc ?_ _ | refine Ext.drew ?_ | refine Ext.setCell ?_ (by first | (simp; done) | (simp; omega) | omega) _ | refine Ext.trans ?_ (by assumption)))).size) ?_; intro v5 w5 ho5 hg5 hw5; have hX5 : ExtX (Own2 w.heap.size (Value.slice aa ms.length cc)) wr w5 := extx_grown (y2.trans (by (repeat (first | exact Ext.refl _ | assumption | refine Ext.alloc ?_ _ | refine Ext.drew ?_ | refine Ext.setCell ?_ (by first | (simp; done) | (simp; omega) | omega) _ | refine Ext.trans ?_ (by assumption))))) hg5 (fun k hk => .inr hk); obtain ⟨g5, c5, rfl, hB5, hM5⟩ := mov_step HM.out (by (repeat (first | exact Ext.refl _ | assumption | refine Ext.alloc ?_ _ | refine Ext.drew ?_ | refine Ext.setCell ?_ (by first | (simp; done) | (simp; omega) | omega) _ | refine Ext.trans ?_ (by assumption)))) x2 (by (repeat (first | exact Ext.refl _ | assumption | refine Ext.alloc ?_ _ | refine Ext.drew ?_ | refine Ext.setCell ?_ (by first | (simp; done) | (simp; omega) | omega) _ | refine Ext.trans ?_ (by assumption)))) hk2 g1 g2 g3 ho5 hg5 hw5; have f7 := hB5.frozen 7; have e75 := hB5.cell 7; have hl5 := hB5.lt; have HM5 := Lib.hid hM5; clear hM5 ho5 hg5 hw5)); refine hK.out _ _ (by (try dsimp only); (repeat (first | exact ExtX.refl _ | assumption | refine ExtX.alloc ?_ _ | refine ExtX.drew ?_ | refine ExtX.setCell ?_ (by first | (left; rfl) | (left; left; rfl) | (right; simp; done) | (right; simp; omega) | (right; omega)) _ | refine ExtX.then_ ?_ (by assumption)))) (fun hHeld => ?_); clear hK K; try simp only [Act.put, List.setIfInBounds_toArray, List.set_cons_zero, List.set_cons_succ]
        refine held_take 12 (v := ?_) rfl (by kernel_rfl) (by kernel_rfl) (by kernel_rfl) (fun _ _ _ h => h) (by assumption) (by rfl) ?_ ?_; rotate_left; (focus (intro w hSw; (try dsimp only at hSw); go_simp; (try with_reducible rfl))); try simp only [Act.put, List.setIfInBounds_toArray, List.set_cons_zero, List.set_cons_succ]
        refine held_do 13 rfl (by kernel_rfl) (by rfl) (fun K hK => ?_); go_simp; refine hK.out _ _ (by (try dsimp only); (repeat (first | exact ExtX.refl _ | assumption | refine ExtX.alloc ?_ _ | refine ExtX.drew ?_ | refine ExtX.setCell ?_ (by first | (left; rfl) | (left; left; rfl) | (right; simp; done) | (right; simp; omega) | (right; omega)) _ | refine ExtX.then_ ?_ (by assumption)))) (fun hHeld => ?_); clear hK K; try simp only [Act.put, List.setIfInBounds_toArray, List.set_cons_zero, List.set_cons_succ]
        refine wpAnyH_done (by kernel_rfl) ?_ _
        rotate_left 1
        go_simp; refine hK.out _ _ (by (try dsimp only); (repeat (first | exact ExtX.refl _ | assumption | refine ExtX.alloc ?_ _ | refine ExtX.drew ?_ | refine ExtX.setCell ?_ (by first | (left; rfl) | (left; left; rfl) | (right; simp; done) | (right; simp; omega) | (right; omega)) _ | refine ExtX.then_ ?_ (by assumption)))) (fun hHeld => ?_); clear hK K; try simp only [Act.put, List.setIfInBounds_toArray, List.set_cons_zero, List.set_cons_succ]
        refine held_do 1 rfl (by kernel_rfl) (by rfl) (fun K hK => ?_); go_simp; refine hK.out _ _ (by (try dsimp only); (repeat (first | exact ExtX.refl _ | assumption | refine ExtX.alloc ?_ _ | refine ExtX.drew ?_ | refine ExtX.setCell ?_ (by first | (left; rfl) | (left; left; rfl) | (right; simp; done) | (right; simp; omega) | (right; omega)) _ | refine ExtX.then_ ?_ (by assumption)))) (fun hHeld => ?_); clear hK K; try simp only [Act.put, List.setIfInBounds_toArray, List.set_cons_zero, List.set_cons_succ]
        refine held_do 11 rfl (by kernel_rfl) (by rfl) (fun K hK => ?_); (first | (refine wp_append_mine (.tmp 21) (.tmp 30) 32 rfl (w.heap.size + 3) 34 i0 (.agg #[.int .u8 0, .int .u8 0, .int .i64 0, .int .i64 0, .string ByteArray.empty, .string ByteArray.empty, .string ByteArray.empty, .slice none 0 0]) 8 96 Tryd.underlying32 HI.out.1 HI.out.2.1 HI.out.2.2.1 HI.out.2.2.2 rfl (by decide) (Value.slice aa ms.length cc) ms.length xs rfl (owns_ext (y2.trans (by (repeat (first | exact Ext.refl _ | assumption | refine Ext.alloc ?_ _ | refine Ext.drew ?_ | refine Ext.setCell ?_ (by first | (simp; done) | (simp; omega) | omega) _ | refine Ext.trans ?_ (by assumption))))) HM.out.2.1) ⟨w2.heap.size, 0, none⟩ 1 1 (tcells ht a2 l2 c2).toList rfl rfl (fun i u hu => by rw [Addr.add_lit, Nat.zero_add]; rw [Array.getElem?_toList] at hu; exact (World.cell?_alloc_new w2 _ _ _).trans hu) (tcells_one _ _ _ _) (by unfold maxLen; omega) (by omega) (Nat.le_trans (show w.heap.size + 3 ≤ w2.heap.size by omega) (show Ext w2 _ from by (repeat (first | exact Ext.refl _ | assumption | refine Ext.alloc ?_ _ | refine Ext.drew ?_ | refine Ext.setCell ?_ (by first | (simp; done) | (simp; omega) | omega) _ | refine Ext.trans ?_ (by assumption)))).size) ?_; intro v5 w5 ho5 hg5 hw5; have hX5 : ExtX (Own2 w.heap.size (Value.slice aa ms.length cc)) wr w5 := extx_grown (y2.trans (by (repeat (first | exact Ext.refl _ | assumption | refine Ext.alloc ?_ _ | refine Ext.drew ?_ | refine Ext.setCell ?_ (by first | (simp; done) | (simp; omega) | omega) _ | refine Ext.trans ?_ (by assumption))))) hg5 (fun k hk => .inr hk); obtain ⟨g5, c5, rfl, hB5, hM5⟩ := mov_step HM.out (by (repeat (first | exact Ext.refl _ | assumption | refine Ext.alloc ?_ _ | refine Ext.drew ?_ | refine Ext.setCell ?_ (by first | (simp; done) | (simp; omega) | omega) _ | refine Ext.trans ?_ (by assumption)))) x2 (by (repeat (first | exact Ext.refl _ | assumption | refine Ext.alloc ?_ _ | refine Ext.drew ?_ | refine Ext.setCell ?_ (by first | (simp; done) | (simp; omega) | omega) _ | refine Ext.trans ?_ (by assumption)))) hk2 g1 g2 g3 ho5 hg5 hw5; have f7 := hB5.frozen 7; have e75 := hB5.cell 7; have hl5 := hB5.lt; have HM5 := Lib.hid hM5; clear hM5 ho5 hg5 hw5)); refine hK.out _ _ (by (try dsimp only); (repeat (first | exact ExtX.refl _ | assumption | refine ExtX.alloc ?_ _ | refine ExtX.drew ?_ | refine ExtX.setCell ?_ (by first | (left; rfl) | (left; left; rfl) | (right; simp; done) | (right; simp; omega) | (right; omega)) _ | refine ExtX.then_ ?_ (by assumption)))) (fun hHeld => ?_); clear hK K; try simp only [Act.put, List.setIfInBounds_toArray, List.set_cons_zero, List.set_cons_succ]
        refine held_take 12 (v := ?_) rfl (by kernel_rfl) (by kernel_rfl) (by kernel_rfl) (fun _ _ _ h => h) (by assumption) (by rfl) ?_ ?_; rotate_left; (focus (intro w hSw; (try dsimp only at hSw); go_simp; (try with_reducible rfl))); try simp only [Act.put, List.setIfInBounds_toArray, List.set_cons_zero, List.set_cons_succ]
        refine held_do 13 rfl (by kernel_rfl) (by rfl) (fun K hK => ?_); go_simp; refine hK.out _ _ (by (try dsimp only); (repeat (first | exact ExtX.refl _ | assumption | refine ExtX.alloc ?_ _ | refine ExtX.drew ?_ | refine ExtX.setCell ?_ (by first | (left; rfl) | (left; left; rfl) | (right; simp; done) | (right; simp; omega) | (right; omega)) _ | refine ExtX.then_ ?_ (by assumption)))) (fun hHeld => ?_); clear hK K; try simp only [Act.put, List.setIfInBounds_toArray, List.set_cons_zero, List.set_cons_succ]
        refine wpAnyH_done (by kernel_rfl) ?_ _
        rotate_left 1
        rotate_left 2
        all_goals
          have hfin := hHeld
          have hB9 := (hfin.block (w.heap.size + 1) HB1.out.lt hne1).trans HB1.out
          have hc9 := hfin.cell hne0 hc7
          have hx9 := ExtX.ext hx hfin fun b hb => by
            rcases hb with e | e
            · omega
            · have := HROW.out b e; omega
          have HB9 := Lib.hid (show Blk _ _ _ _ from hB9)
          clear hB9 q0 q1 q2 q3 q4 q5 q6 q7 q70
          go_wp2_with fail
          go_roundg (len - (j + 1))
          case rel => exact ⟨j + 1, _, c5, _, rfl, by omega, by go_num, by rw [HTS.out]; exact HM5.out, HB9.out, hc9, hx9⟩
          case measure => omega
      · obtain rfl : j = len := by omega
        have hall : l.take j = l := List.take_of_length_le (by rw [← HL.out]; omega)
        rw [hall] at HMS
        have hdone := mov_done HM.out HB1.out (by omega) hx
        have r0 : wr.cell? ⟨w.heap.size + 2, 0, none⟩ = some (.int .u8 (x.at_ p).k) := HM.out.1.cell 0
        have z0 : wr.cell? ⟨w.heap.size + 1, 0, none⟩ = some (.int .u8 0) := HB1.out.cell 0
        have f0 := HB1.out.frozen 0
        have r1 : wr.cell? ⟨w.heap.size + 2, 1, none⟩ = some (.int .u8 (x.at_ p).op) := HM.out.1.cell 1
        have z1 : wr.cell? ⟨w.heap.size + 1, 1, none⟩ = some (.int .u8 0) := HB1.out.cell 1
        have f1 := HB1.out.frozen 1
        have r2 : wr.cell? ⟨w.heap.size + 2, 2, none⟩ = some (.int .i64 (x.at_ p).pos) := HM.out.1.cell 2
        have z2 : wr.cell? ⟨w.heap.size + 1, 2, none⟩ = some (.int .i64 0) := HB1.out.cell 2
        have f2 := HB1.out.frozen 2
        have r3 : wr.cell? ⟨w.heap.size + 2, 3, none⟩ = some (.int .i64 (x.at_ p).n) := HM.out.1.cell 3
        have z3 : wr.cell? ⟨w.heap.size + 1, 3, none⟩ = some (.int .i64 0) := HB1.out.cell 3
        have f3 := HB1.out.frozen 3
        have r4 : wr.cell? ⟨w.heap.size + 2, 4, none⟩ = some (.string (x.at_ p).name) := HM.out.1.cell 4
        have z4 : wr.cell? ⟨w.heap.size + 1, 4, none⟩ = some (.string ByteArray.empty) := HB1.out.cell 4
        have f4 := HB1.out.frozen 4
        have r5 : wr.cell? ⟨w.heap.size + 2, 5, none⟩ = some (.string (x.at_ p).arg) := HM.out.1.cell 5
        have z5 : wr.cell? ⟨w.heap.size + 1, 5, none⟩ = some (.string ByteArray.empty) := HB1.out.cell 5
        have f5 := HB1.out.frozen 5
        have r6 : wr.cell? ⟨w.heap.size + 2, 6, none⟩ = some (.string (x.at_ p).exn) := HM.out.1.cell 6
        have z6 : wr.cell? ⟨w.heap.size + 1, 6, none⟩ = some (.string ByteArray.empty) := HB1.out.cell 6
        have f6 := HB1.out.frozen 6
        have r7 : wr.cell? ⟨w.heap.size + 2, 7, none⟩ = some (.slice aa ms.length cc) := HM.out.1.cell 7
        have z7 : wr.cell? ⟨w.heap.size + 1, 7, none⟩ = some (.slice none 0 0) := HB1.out.cell 7
        have f7 := HB1.out.frozen 7
        have dl1 := HB1.out.lt
        have HDONE := Lib.hid hdone
        clear hdone hall d7
        go_wp2_with fail
        obtain ⟨hB8, ht8, hx8⟩ := HDONE.out
        generalize ((((((((wr.setCell ⟨w.heap.size + 1, 0, none⟩ (.int .u8 (x.at_ p).k)).setCell ⟨w.heap.size + 1, 1, none⟩ (.int .u8 (x.at_ p).op)).setCell ⟨w.heap.size + 1, 2, none⟩ (.int .i64 (x.at_ p).pos)).setCell ⟨w.heap.size + 1, 3, none⟩ (.int .i64 (x.at_ p).n)).setCell ⟨w.heap.size + 1, 4, none⟩ (.string (x.at_ p).name)).setCell ⟨w.heap.size + 1, 5, none⟩ (.string (x.at_ p).arg)).setCell ⟨w.heap.size + 1, 6, none⟩ (.string (x.at_ p).exn)).setCell ⟨w.heap.size + 1, 7, none⟩ (.slice aa ms.length cc)) = W8 at *
        have u0 : W8.cell? ⟨w.heap.size + 1, 0, none⟩ = some (.int .u8 (x.at_ p).k) := hB8.cell 0
        have u1 : W8.cell? ⟨w.heap.size + 1, 1, none⟩ = some (.int .u8 (x.at_ p).op) := hB8.cell 1
        have u2 : W8.cell? ⟨w.heap.size + 1, 2, none⟩ = some (.int .i64 (x.at_ p).pos) := hB8.cell 2
        have u3 : W8.cell? ⟨w.heap.size + 1, 3, none⟩ = some (.int .i64 (x.at_ p).n) := hB8.cell 3
        have u4 : W8.cell? ⟨w.heap.size + 1, 4, none⟩ = some (.string (x.at_ p).name) := hB8.cell 4
        have u5 : W8.cell? ⟨w.heap.size + 1, 5, none⟩ = some (.string (x.at_ p).arg) := hB8.cell 5
        have u6 : W8.cell? ⟨w.heap.size + 1, 6, none⟩ = some (.string (x.at_ p).exn) := hB8.cell 6
        have u7 : W8.cell? ⟨w.heap.size + 1, 7, none⟩ = some (.slice aa ms.length cc) := hB8.cell 7
        refine bodyPost_ret (v := .agg #[.int .u8 (x.at_ p).k, .int .u8 (x.at_ p).op, .int .i64 (x.at_ p).pos, .int .i64 (x.at_ p).n, .string (x.at_ p).name, .string (x.at_ p).arg, .string (x.at_ p).exn, .slice aa ms.length cc]) (by simp [results, Tryd.results32, go_sem, u0, u1, u2, u3, u4, u5, u6, u7]) rfl ⟨aa, ms.length, cc, rfl, ?_, hc1, hc2, Hd.fits_at HF.out (by omega) (by omega), hx8⟩
        rw [← HMS.out]
        exact ht8
end Go.Proofs.YtljpbikcpjocmaaDoor

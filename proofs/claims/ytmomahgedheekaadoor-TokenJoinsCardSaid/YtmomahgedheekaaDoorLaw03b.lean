/- The walk of the law of the tokens' places. -/
import Derived.Test.YtmomahgedheekaaDoorAw03
import Derived.Test.YtmomahgedheekaaDoorPureKl
namespace Go.Proofs.YtmomahgedheekaaDoor
open Go Go.RowKit Go.Sort

theorem placed_at {B : List UInt8} {q j : Nat} {o : List Tok} (h : placed B q (o.drop j)) (hj : j < o.length) : ∃ t, o[j]? = some t ∧ q ≤ t.pos ∧ t.pos + t.text.size ≤ B.length ∧ (B.drop t.pos).take t.text.size = t.text.data.toList ∧ (∀ k, q ≤ k → k < t.pos → ∃ c, B[k]? = some c ∧ clsU c = 1) ∧ placed B (t.pos + t.text.size) (o.drop (j + 1)) := by
  rw [List.drop_eq_getElem_cons hj] at h
  exact ⟨o[j], List.getElem?_eq_getElem hj, h.1, h.2.1, h.2.2.1, h.2.2.2.1, h.2.2.2.2⟩
theorem blank_of {c : UInt8} (h : clsU c = 1) : ((c.toNat : Nat) : Int) = 32 ∨ ((c.toNat : Nat) : Int) = 9 ∨ ((c.toNat : Nat) : Int) = 10 := by
  unfold clsU cls at h
  by_cases h1 : ((c.toNat : Nat) : Int) = 32
  · exact .inl h1
  by_cases h2 : ((c.toNat : Nat) : Int) = 9
  · exact .inr (.inl h2)
  by_cases h3 : ((c.toNat : Nat) : Int) = 10
  · exact .inr (.inr h3)
  exfalso
  repeat' split at h
  all_goals first | omega | simp_all
theorem conv_none (W : World) (a : Option Addr) (c : Nat) : (convert 67 9 (.slice a 0 c)).run Tryd.prog W = .ok (.string ByteArray.empty) W := by
  rw [run_convert_bytes_string W 67 9 5 _ _ _ Tryd.underlying67 Tryd.underlying5 Tryd.underlying9]
  cases a with
  | none => rfl
  | some p =>
    have hl : (loadCells p 0).run Tryd.prog W = .ok (([] : List Int).map (Value.int .u8)).toArray W := by
      have := run_loadCells_list (P := Tryd.prog) (w := W) p [] (fun j v hj => by cases hj)
      exact this
    rw [run_bytesToString W p 0 c _ hl]
    rfl
/-- A token's own text, out of the bytes. -/
theorem conv_own {W : World} {B : List UInt8} {a : Option Addr} {len cap : Nat} (h : IsBytes W B a len) (h1 : len ≤ cap) {p : Nat} {s : ByteArray} (hp : p + s.size ≤ len) (hs : (B.drop p).take s.size = s.data.toList) :
    (convert 67 9 (.slice (if cap = p then a else a.map (·.add p)) s.size (cap - p))).run Tryd.prog W = .ok (.string s) W := by
  by_cases h0 : s.size = 0
  · have e : s = ByteArray.empty := by
      have : s.data = #[] := Array.eq_empty_of_size_eq_zero h0
      cases s
      simp_all
    rw [h0, e]
    exact conv_none _ _ _
  · obtain ⟨c, b, o, g, rfl, q⟩ := h.at_ (i := p) (by omega)
    rw [if_neg (by omega)]
    have := conv_bytes h p s.size (cap - p) hp
    have e : bs s.data.toList = s := rfl
    rw [hs, e] at this
    rw [Option.map_some, Addr.add_lit]
    exact this
theorem lexR_of (B : List UInt8) (hB : ¬ 65536 < B.length) : (∃ p : Nat, lexL 0 B = .error p ∧ lexR B = ([], (p : Int), 2)) ∨ (∃ o, lexL 0 B = .ok o ∧ lexR B = (o.map Tok.tk, 0, 0)) := by
  cases h : lexL 0 B with
  | error p => exact .inl ⟨p, rfl, lexR_error hB h⟩
  | ok o => exact .inr ⟨o, rfl, lexR_ok hB h⟩
set_option maxRecDepth 8000 in
set_option maxHeartbeats 4000000 in
theorem law03_places (B : List UInt8) (w : World) (a : Option Addr) (len cap : Nat) (h1 : len ≤ cap) (h2 : cap ≤ 9223372036854775807) (hr : IsBytes w B a len) (hk : Knob w) :
    Calls Tryd.prog 14 #[.slice a len cap] w (Yes3 w) := by
  have hlen := hr.length
  have KA := Lib.hid fun W (h : Ext w W) => law03_awake W (hk.ext h)
  have KL := Lib.hid (token_lex B w a len cap h1 h2 hr hk)
  have HR := Lib.hid hr
  have HLEN := Lib.hid hlen
  clear hr hk
  by_cases hbig : 1000 < len
  · have hz : (1000 : Int) < (len : Int) := by omega
    clear hlen
    go_enter Tryd.func14, Tryd.ntmps14
    go_wp2_with (go_at_call 41; refine (KA.out _ (by (repeat (first | exact Ext.refl _ | assumption | refine Ext.alloc ?_ _ | refine Ext.drew ?_ | refine Ext.setCell ?_ (by first | (simp; done) | (simp; omega) | omega) _ | refine Ext.trans ?_ (by assumption))))).mono ?_; rintro e w7 ⟨rfl, x7⟩)
    go_ret
    exact ⟨rfl, by (repeat (first | exact Ext.refl _ | assumption | refine Ext.alloc ?_ _ | refine Ext.drew ?_ | refine Ext.setCell ?_ (by first | (simp; done) | (simp; omega) | omega) _ | refine Ext.trans ?_ (by assumption)))⟩
  have hz : (len : Int) ≤ 1000 := by omega
  rcases lexR_of B (by omega) with ⟨p, hl, hR⟩ | ⟨o, hl, hR⟩
  · unfold RetLex at KL
    rw [hR] at KL
    simp only at KL
    clear hlen hl hR
    go_enter Tryd.func14, Tryd.ntmps14
    go_wp2_with (first | (go_at_call 42; refine (KL.out).mono ?_; rintro e w1 ⟨ra, rn, rc, rfl, hn1, hn2, ht, x1⟩; clear ht) | (go_at_call 41; refine (KA.out _ (by (repeat (first | exact Ext.refl _ | assumption | refine Ext.alloc ?_ _ | refine Ext.drew ?_ | refine Ext.setCell ?_ (by first | (simp; done) | (simp; omega) | omega) _ | refine Ext.trans ?_ (by assumption))))).mono ?_; rintro e w7 ⟨rfl, x7⟩))
    go_ret
    exact ⟨rfl, by (repeat (first | exact Ext.refl _ | assumption | refine Ext.alloc ?_ _ | refine Ext.drew ?_ | refine Ext.setCell ?_ (by first | (simp; done) | (simp; omega) | omega) _ | refine Ext.trans ?_ (by assumption)))⟩
  unfold RetLex at KL
  rw [hR] at KL
  simp only at KL
  have HP := Lib.hid (lexL_placed B hl (List.drop_zero) (Nat.zero_le _) 0 (Nat.le_refl _) (fun k _ hk => by omega))
  obtain ⟨o', ho', _⟩ := lexL_last hl
  have HO' := Lib.hid ho'
  clear hlen hl hR ho'
  go_enter Tryd.func14, Tryd.ntmps14
  go_wp2_with (go_at_call 42; refine (KL.out).mono ?_; rintro e w1 ⟨ra, rn, rc, rfl, hn1, hn2, ht, x1⟩; have HT := Lib.hid ht; have HN := Lib.hid ht.length; clear ht)
  go_loopg [6, 7] (rn) (fun g s i wr => ∃ (j q : Nat), g = rn - j ∧ i = .int .i64 j ∧ s = .int .i64 q ∧ j ≤ rn ∧ q ≤ len ∧ placed B q (o.drop j) ∧ Ext w1 wr)
  case atStart => exact ⟨0, 0, rfl, rfl, rfl, Nat.zero_le _, Nat.zero_le _, by rw [List.drop_zero]; exact HP.out, Ext.refl _⟩
  case round =>
    obtain ⟨j, q, rfl, rfl, rfl, hj, hq, hp, hx⟩ := hrel
    have HPQ := Lib.hid hp
    clear hp
    by_cases hlt : j < rn
    · have hz1 : (j : Int) < (rn : Int) := by omega
      have hol : j < o.length := by have := HN.out; rw [List.length_map] at this; omega
      obtain ⟨t, htj, hq1, hpb, hown, hbl, hnext⟩ := placed_at HPQ.out hol
      obtain ⟨t', b, of, ht', hf, rfl, q0, q1, q2⟩ := (HT.out.ext hx).at3 hlt
      rw [List.getElem?_map, htj] at ht'
      cases ht'
      simp only [Tok.tk] at q0 q1 q2
      have hpl : t.pos + t.text.size ≤ len := by have := HLEN.out; omega
      have hcvO : ∀ W, Ext w W → (convert 67 9 (.slice (if cap = t.pos then a else a.map (·.add t.pos)) t.text.size (cap - t.pos))).run Tryd.prog W = .ok (.string t.text) W := fun W hx => conv_own (HR.out.ext hx) h1 hpl hown
      have hd1 : ¬ t.pos < q := by omega
      have hd2 : ¬ (len : Int) < (t.pos : Int) + (t.text.size : Int) := by omega
      have hs1 : (0 : Int) ≤ (t.pos : Int) + (t.text.size : Int) := by omega
      have hs2 : (t.pos : Int) + (t.text.size : Int) ≤ (cap : Int) := by omega
      have hs3 : ((t.pos : Int) + (t.text.size : Int)).toNat = t.pos + t.text.size := by omega
      have hz2 : (q : Int) ≤ (t.pos : Int) := by omega
      have hz3 : (t.pos : Int) + (t.text.size : Int) ≤ (len : Int) := by omega
      have hw1 : IntKind.i64.wrap ((t.pos : Int) + (t.text.size : Int)) = (t.pos : Int) + t.text.size := IntWalk.i64_in _ ⟨by omega, by omega⟩
      have HBL := Lib.hid hbl
      have HNX := Lib.hid hnext
      clear hown hbl hnext htj hf
      obtain ⟨W1, hW1⟩ : ∃ W1, W1 = wr.alloc (.cells #[.int .u8 t.k, .string t.text, .int .i64 t.pos] 59) := ⟨_, rfl⟩
      have xW : Ext wr W1 := by rw [hW1]; exact (Ext.refl _).alloc _
      have c1 : W1.cell? ⟨wr.heap.size, 1, none⟩ = some (.string t.text) := by rw [hW1]; exact tkcells_at wr t.k t.text t.pos _ 1 _ rfl
      have c2 : W1.cell? ⟨wr.heap.size, 2, none⟩ = some (.int .i64 t.pos) := by rw [hW1]; exact tkcells_at wr t.k t.text t.pos _ 2 _ rfl
      have hbs := block_lt_of_cell c1
      simp only at hbs
      have hyW := (x1.trans hx).trans xW
      go_upto_region 11 with fail
      rw [← hW1]
      have HW1 := Lib.hid hW1
      clear hW1 q0 q1 q2
      have n1 := fun W (h : Ext W1 W) => h.cell c1
      have n2 := fun W (h : Ext W1 W) => h.cell c2
      have hcv := fun W (h : Ext W1 W) => hcvO W (hyW.trans h)
      have c10 := c1
      have c20 := c2
      clear c1 c2 hcvO
      refine wp_region_held_drew (S := fun w' => Ext W1 w') (by kernel_rfl) (by (try dsimp only); (repeat (first | exact Ext.refl _ | assumption | refine Ext.alloc ?_ _ | refine Ext.drew ?_ | refine Ext.setCell ?_ (by first | (simp; done) | (simp; omega) | omega) _ | refine Ext.trans ?_ (by assumption)))) (fun hHeld => ?_)
      refine held_take 0 (v := ?_) rfl (by kernel_rfl) (by kernel_rfl) (by kernel_rfl) (fun _ _ _ h => h) (by assumption) (by rfl) ?_ ?_; rotate_left; (focus (intro w hSw; (try dsimp only at hSw); go_simp; (try with_reducible rfl))); try simp only [Act.put, List.setIfInBounds_toArray, List.set_cons_zero, List.set_cons_succ]
      refine held_take 1 (v := ?_) rfl (by kernel_rfl) (by kernel_rfl) (by kernel_rfl) (fun _ _ _ h => h) (by assumption) (by rfl) ?_ ?_; rotate_left; (focus (intro w hSw; (try dsimp only at hSw); go_simp; (try with_reducible rfl))); try simp only [Act.put, List.setIfInBounds_toArray, List.set_cons_zero, List.set_cons_succ]
      refine held_take 2 (v := ?_) rfl (by kernel_rfl) (by kernel_rfl) (by kernel_rfl) (fun _ _ _ h => h) (by assumption) (by rfl) ?_ ?_; rotate_left; (focus (intro w hSw; (try dsimp only at hSw); go_simp; (try with_reducible rfl))); try simp only [Act.put, List.setIfInBounds_toArray, List.set_cons_zero, List.set_cons_succ]
      refine held_take 3 (v := ?_) rfl (by kernel_rfl) (by kernel_rfl) (by kernel_rfl) (fun _ _ _ h => h) (by assumption) (by rfl) ?_ ?_; rotate_left; (focus (intro w hSw; (try dsimp only at hSw); go_simp; (try with_reducible rfl))); try simp only [Act.put, List.setIfInBounds_toArray, List.set_cons_zero, List.set_cons_succ]
      refine held_take 4 (v := ?_) rfl (by kernel_rfl) (by kernel_rfl) (by kernel_rfl) (fun _ _ _ h => h) (by assumption) (by rfl) ?_ ?_; rotate_left; (focus (intro w hSw; (try dsimp only at hSw); go_simp; (try with_reducible rfl))); try simp only [Act.put, List.setIfInBounds_toArray, List.set_cons_zero, List.set_cons_succ]
      first | (refine held_take 5 (v := ?_) rfl (by kernel_rfl) (by kernel_rfl) (by kernel_rfl) (fun _ _ _ h => h) (by assumption) (by rfl) ?_ ?_; rotate_left; (focus (intro w hSw; (try dsimp only at hSw); go_simp; (try with_reducible rfl))); try simp only [Act.put, List.setIfInBounds_toArray, List.set_cons_zero, List.set_cons_succ]) | (refine held_skip 5 rfl (by kernel_rfl) (by kernel_rfl) (by kernel_rfl) (fun _ _ _ h => h) (by assumption) (by rfl) ?_; try simp only [Act.put, List.setIfInBounds_toArray, List.set_cons_zero, List.set_cons_succ])
      first | (refine held_take 6 (v := ?_) rfl (by kernel_rfl) (by kernel_rfl) (by kernel_rfl) (fun _ _ _ h => h) (by assumption) (by rfl) ?_ ?_; rotate_left; (focus (intro w hSw; (try dsimp only at hSw); go_simp; (try with_reducible rfl))); try simp only [Act.put, List.setIfInBounds_toArray, List.set_cons_zero, List.set_cons_succ]) | (refine held_skip 6 rfl (by kernel_rfl) (by kernel_rfl) (by kernel_rfl) (fun _ _ _ h => h) (by assumption) (by rfl) ?_; try simp only [Act.put, List.setIfInBounds_toArray, List.set_cons_zero, List.set_cons_succ])
      first | (refine held_take 7 (v := ?_) rfl (by kernel_rfl) (by kernel_rfl) (by kernel_rfl) (fun _ _ _ h => h) (by assumption) (by rfl) ?_ ?_; rotate_left; (focus (intro w hSw; (try dsimp only at hSw); go_simp; (try with_reducible rfl))); try simp only [Act.put, List.setIfInBounds_toArray, List.set_cons_zero, List.set_cons_succ]) | (refine held_skip 7 rfl (by kernel_rfl) (by kernel_rfl) (by kernel_rfl) (fun _ _ _ h => h) (by assumption) (by rfl) ?_; try simp only [Act.put, List.setIfInBounds_toArray, List.set_cons_zero, List.set_cons_succ])
      first | (refine held_take 8 (v := ?_) rfl (by kernel_rfl) (by kernel_rfl) (by kernel_rfl) (fun _ _ _ h => h) (by assumption) (by rfl) ?_ ?_; rotate_left; (focus (intro w hSw; (try dsimp only at hSw); go_simp; (try with_reducible rfl))); try simp only [Act.put, List.setIfInBounds_toArray, List.set_cons_zero, List.set_cons_succ]) | (refine held_skip 8 rfl (by kernel_rfl) (by kernel_rfl) (by kernel_rfl) (fun _ _ _ h => h) (by assumption) (by rfl) ?_; try simp only [Act.put, List.setIfInBounds_toArray, List.set_cons_zero, List.set_cons_succ])
      first | (refine held_take 9 (v := ?_) rfl (by kernel_rfl) (by kernel_rfl) (by kernel_rfl) (fun _ _ _ h => h) (by assumption) (by rfl) ?_ ?_; rotate_left; (focus (intro w hSw; (try dsimp only at hSw); go_simp; (try with_reducible rfl))); try simp only [Act.put, List.setIfInBounds_toArray, List.set_cons_zero, List.set_cons_succ]) | (refine held_skip 9 rfl (by kernel_rfl) (by kernel_rfl) (by kernel_rfl) (fun _ _ _ h => h) (by assumption) (by rfl) ?_; try simp only [Act.put, List.setIfInBounds_toArray, List.set_cons_zero, List.set_cons_succ])
      first | (refine held_take 10 (v := ?_) rfl (by kernel_rfl) (by kernel_rfl) (by kernel_rfl) (fun _ _ _ h => h) (by assumption) (by rfl) ?_ ?_; rotate_left; (focus (intro w hSw; (try dsimp only at hSw); go_simp; (try with_reducible rfl))); try simp only [Act.put, List.setIfInBounds_toArray, List.set_cons_zero, List.set_cons_succ]) | (refine held_skip 10 rfl (by kernel_rfl) (by kernel_rfl) (by kernel_rfl) (fun _ _ _ h => h) (by assumption) (by rfl) ?_; try simp only [Act.put, List.setIfInBounds_toArray, List.set_cons_zero, List.set_cons_succ])
      first | (refine held_take 11 (v := ?_) rfl (by kernel_rfl) (by kernel_rfl) (by kernel_rfl) (fun _ _ _ h => h) (by assumption) (by rfl) ?_ ?_; rotate_left; (focus (intro w hSw; (try dsimp only at hSw); go_simp; (try with_reducible rfl))); try simp only [Act.put, List.setIfInBounds_toArray, List.set_cons_zero, List.set_cons_succ]) | (refine held_skip 11 rfl (by kernel_rfl) (by kernel_rfl) (by kernel_rfl) (fun _ _ _ h => h) (by assumption) (by rfl) ?_; try simp only [Act.put, List.setIfInBounds_toArray, List.set_cons_zero, List.set_cons_succ])
      first | (refine held_take 12 (v := ?_) rfl (by kernel_rfl) (by kernel_rfl) (by kernel_rfl) (fun _ _ _ h => h) (by assumption) (by rfl) ?_ ?_; rotate_left; (focus (intro w hSw; (try dsimp only at hSw); go_simp; (try with_reducible rfl))); try simp only [Act.put, List.setIfInBounds_toArray, List.set_cons_zero, List.set_cons_succ]) | (refine held_skip 12 rfl (by kernel_rfl) (by kernel_rfl) (by kernel_rfl) (fun _ _ _ h => h) (by assumption) (by rfl) ?_; try simp only [Act.put, List.setIfInBounds_toArray, List.set_cons_zero, List.set_cons_succ])
      first | (refine held_take 13 (v := ?_) rfl (by kernel_rfl) (by kernel_rfl) (by kernel_rfl) (fun _ _ _ h => h) (by assumption) (by rfl) ?_ ?_; rotate_left; (focus (intro w hSw; (try dsimp only at hSw); go_simp; (try with_reducible rfl))); try simp only [Act.put, List.setIfInBounds_toArray, List.set_cons_zero, List.set_cons_succ]) | (refine held_skip 13 rfl (by kernel_rfl) (by kernel_rfl) (by kernel_rfl) (fun _ _ _ h => h) (by assumption) (by rfl) ?_; try simp only [Act.put, List.setIfInBounds_toArray, List.set_cons_zero, List.set_cons_succ])
      refine held_take 14 (v := ?_) rfl (by kernel_rfl) (by kernel_rfl) (by kernel_rfl) (fun _ _ _ h => h) (by assumption) (by rfl) ?_ ?_; rotate_left; (focus (intro w hSw; (try dsimp only at hSw); go_simp; (try with_reducible rfl))); try simp only [Act.put, List.setIfInBounds_toArray, List.set_cons_zero, List.set_cons_succ]
      refine held_take 15 (v := ?_) rfl (by kernel_rfl) (by kernel_rfl) (by kernel_rfl) (fun _ _ _ h => h) (by assumption) (by rfl) ?_ ?_; rotate_left; (focus (intro w hSw; (try dsimp only at hSw); go_simp; (try with_reducible rfl))); try simp only [Act.put, List.setIfInBounds_toArray, List.set_cons_zero, List.set_cons_succ]
      first | (refine held_take 16 (v := ?_) rfl (by kernel_rfl) (by kernel_rfl) (by kernel_rfl) (fun _ _ _ h => h) (by assumption) (by rfl) ?_ ?_; rotate_left; (focus (intro w hSw; (try dsimp only at hSw); go_simp; (try with_reducible rfl))); try simp only [Act.put, List.setIfInBounds_toArray, List.set_cons_zero, List.set_cons_succ]) | (refine held_skip 16 rfl (by kernel_rfl) (by kernel_rfl) (by kernel_rfl) (fun _ _ _ h => h) (by assumption) (by rfl) ?_; try simp only [Act.put, List.setIfInBounds_toArray, List.set_cons_zero, List.set_cons_succ])
      first | (refine held_take 17 (v := ?_) rfl (by kernel_rfl) (by kernel_rfl) (by kernel_rfl) (fun _ _ _ h => h) (by assumption) (by rfl) ?_ ?_; rotate_left; (focus (intro w hSw; (try dsimp only at hSw); go_simp; (try with_reducible rfl))); try simp only [Act.put, List.setIfInBounds_toArray, List.set_cons_zero, List.set_cons_succ]) | (refine held_skip 17 rfl (by kernel_rfl) (by kernel_rfl) (by kernel_rfl) (fun _ _ _ h => h) (by assumption) (by rfl) ?_; try simp only [Act.put, List.setIfInBounds_toArray, List.set_cons_zero, List.set_cons_succ])
      first | (refine held_take 18 (v := ?_) rfl (by kernel_rfl) (by kernel_rfl) (by kernel_rfl) (fun _ _ _ h => h) (by assumption) (by rfl) ?_ ?_; rotate_left; (focus (intro w hSw; (try dsimp only at hSw); go_simp; (try with_reducible rfl))); try simp only [Act.put, List.setIfInBounds_toArray, List.set_cons_zero, List.set_cons_succ]) | (refine held_skip 18 rfl (by kernel_rfl) (by kernel_rfl) (by kernel_rfl) (fun _ _ _ h => h) (by assumption) (by rfl) ?_; try simp only [Act.put, List.setIfInBounds_toArray, List.set_cons_zero, List.set_cons_succ])
      first | (refine held_take 19 (v := ?_) rfl (by kernel_rfl) (by kernel_rfl) (by kernel_rfl) (fun _ _ _ h => h) (by assumption) (by rfl) ?_ ?_; rotate_left; (focus (intro w hSw; (try dsimp only at hSw); go_simp; (try with_reducible rfl))); try simp only [Act.put, List.setIfInBounds_toArray, List.set_cons_zero, List.set_cons_succ]) | (refine held_skip 19 rfl (by kernel_rfl) (by kernel_rfl) (by kernel_rfl) (fun _ _ _ h => h) (by assumption) (by rfl) ?_; try simp only [Act.put, List.setIfInBounds_toArray, List.set_cons_zero, List.set_cons_succ])
      first | (refine held_take 20 (v := ?_) rfl (by kernel_rfl) (by kernel_rfl) (by kernel_rfl) (fun _ _ _ h => h) (by assumption) (by rfl) ?_ ?_; rotate_left; (focus (intro w hSw; (try dsimp only at hSw); go_simp; (try with_reducible rfl))); try simp only [Act.put, List.setIfInBounds_toArray, List.set_cons_zero, List.set_cons_succ]) | (refine held_skip 20 rfl (by kernel_rfl) (by kernel_rfl) (by kernel_rfl) (fun _ _ _ h => h) (by assumption) (by rfl) ?_; try simp only [Act.put, List.setIfInBounds_toArray, List.set_cons_zero, List.set_cons_succ])
      first | (refine held_take 21 (v := ?_) rfl (by kernel_rfl) (by kernel_rfl) (by kernel_rfl) (fun _ _ _ h => h) (by assumption) (by rfl) ?_ ?_; rotate_left; (focus (intro w hSw; (try dsimp only at hSw); go_simp; (try with_reducible rfl))); try simp only [Act.put, List.setIfInBounds_toArray, List.set_cons_zero, List.set_cons_succ]) | (refine held_skip 21 rfl (by kernel_rfl) (by kernel_rfl) (by kernel_rfl) (fun _ _ _ h => h) (by assumption) (by rfl) ?_; try simp only [Act.put, List.setIfInBounds_toArray, List.set_cons_zero, List.set_cons_succ])
      first | (refine held_take 22 (v := ?_) rfl (by kernel_rfl) (by kernel_rfl) (by kernel_rfl) (fun _ _ _ h => h) (by assumption) (by rfl) ?_ ?_; rotate_left; (focus (intro w hSw; (try dsimp only at hSw); go_simp; (try with_reducible rfl))); try simp only [Act.put, List.setIfInBounds_toArray, List.set_cons_zero, List.set_cons_succ]) | (refine held_skip 22 rfl (by kernel_rfl) (by kernel_rfl) (by kernel_rfl) (fun _ _ _ h => h) (by assumption) (by rfl) ?_; try simp only [Act.put, List.setIfInBounds_toArray, List.set_cons_zero, List.set_cons_succ])
      first | (refine held_take 23 (v := ?_) rfl (by kernel_rfl) (by kernel_rfl) (by kernel_rfl) (fun _ _ _ h => h) (by assumption) (by rfl) ?_ ?_; rotate_left; (focus (intro w hSw; (try dsimp only at hSw); go_simp; (try with_reducible rfl))); try simp only [Act.put, List.setIfInBounds_toArray, List.set_cons_zero, List.set_cons_succ]) | (refine held_skip 23 rfl (by kernel_rfl) (by kernel_rfl) (by kernel_rfl) (fun _ _ _ h => h) (by assumption) (by rfl) ?_; try simp only [Act.put, List.setIfInBounds_toArray, List.set_cons_zero, List.set_cons_succ])
      first | (refine held_take 24 (v := ?_) rfl (by kernel_rfl) (by kernel_rfl) (by kernel_rfl) (fun _ _ _ h => h) (by assumption) (by rfl) ?_ ?_; rotate_left; (focus (intro w hSw; (try dsimp only at hSw); go_simp; (try with_reducible rfl))); try simp only [Act.put, List.setIfInBounds_toArray, List.set_cons_zero, List.set_cons_succ]) | (refine held_skip 24 rfl (by kernel_rfl) (by kernel_rfl) (by kernel_rfl) (fun _ _ _ h => h) (by assumption) (by rfl) ?_; try simp only [Act.put, List.setIfInBounds_toArray, List.set_cons_zero, List.set_cons_succ])
      first | (refine held_take 25 (v := ?_) rfl (by kernel_rfl) (by kernel_rfl) (by kernel_rfl) (fun _ _ _ h => h) (by assumption) (by rfl) ?_ ?_; rotate_left; (focus (intro w hSw; (try dsimp only at hSw); go_simp; (try with_reducible rfl))); try simp only [Act.put, List.setIfInBounds_toArray, List.set_cons_zero, List.set_cons_succ]) | (refine held_skip 25 rfl (by kernel_rfl) (by kernel_rfl) (by kernel_rfl) (fun _ _ _ h => h) (by assumption) (by rfl) ?_; try simp only [Act.put, List.setIfInBounds_toArray, List.set_cons_zero, List.set_cons_succ])
      first | (refine held_take 26 (v := ?_) rfl (by kernel_rfl) (by kernel_rfl) (by kernel_rfl) (fun _ _ _ h => h) (by assumption) (by rfl) ?_ ?_; rotate_left; (focus (intro w hSw; (try dsimp only at hSw); go_simp; (try with_reducible rfl))); try simp only [Act.put, List.setIfInBounds_toArray, List.set_cons_zero, List.set_cons_succ]) | (refine held_skip 26 rfl (by kernel_rfl) (by kernel_rfl) (by kernel_rfl) (fun _ _ _ h => h) (by assumption) (by rfl) ?_; try simp only [Act.put, List.setIfInBounds_toArray, List.set_cons_zero, List.set_cons_succ])
      first | (refine held_take 27 (v := ?_) rfl (by kernel_rfl) (by kernel_rfl) (by kernel_rfl) (fun _ _ _ h => h) (by assumption) (by rfl) ?_ ?_; rotate_left; (focus (intro w hSw; (try dsimp only at hSw); go_simp; (try with_reducible rfl))); try simp only [Act.put, List.setIfInBounds_toArray, List.set_cons_zero, List.set_cons_succ]) | (refine held_skip 27 rfl (by kernel_rfl) (by kernel_rfl) (by kernel_rfl) (fun _ _ _ h => h) (by assumption) (by rfl) ?_; try simp only [Act.put, List.setIfInBounds_toArray, List.set_cons_zero, List.set_cons_succ])
      first | (refine held_take 28 (v := ?_) rfl (by kernel_rfl) (by kernel_rfl) (by kernel_rfl) (fun _ _ _ h => h) (by assumption) (by rfl) ?_ ?_; rotate_left; (focus (intro w hSw; (try dsimp only at hSw); go_simp; (try with_reducible rfl))); try simp only [Act.put, List.setIfInBounds_toArray, List.set_cons_zero, List.set_cons_succ]) | (refine held_skip 28 rfl (by kernel_rfl) (by kernel_rfl) (by kernel_rfl) (fun _ _ _ h => h) (by assumption) (by rfl) ?_; try simp only [Act.put, List.setIfInBounds_toArray, List.set_cons_zero, List.set_cons_succ])
      first | (refine held_take 29 (v := ?_) rfl (by kernel_rfl) (by kernel_rfl) (by kernel_rfl) (fun _ _ _ h => h) (by assumption) (by rfl) ?_ ?_; rotate_left; (focus (intro w hSw; (try dsimp only at hSw); go_simp; (try with_reducible rfl))); try simp only [Act.put, List.setIfInBounds_toArray, List.set_cons_zero, List.set_cons_succ]) | (refine held_skip 29 rfl (by kernel_rfl) (by kernel_rfl) (by kernel_rfl) (fun _ _ _ h => h) (by assumption) (by rfl) ?_; try simp only [Act.put, List.setIfInBounds_toArray, List.set_cons_zero, List.set_cons_succ])
      refine held_take 30 (v := ?_) rfl (by kernel_rfl) (by kernel_rfl) (by kernel_rfl) (fun _ _ _ h => h) (by assumption) (by rfl) ?_ ?_; rotate_left; (focus (intro w hSw; (try dsimp only at hSw); go_simp; (try with_reducible rfl))); try simp only [Act.put, List.setIfInBounds_toArray, List.set_cons_zero, List.set_cons_succ]
      refine wpAnyH_done (by kernel_rfl) ?_ _
      have c1 := n1 _ hHeld
      have c2 := n2 _ hHeld
      have yW := hyW.trans hHeld
      clear n1 n2 hcv hs1 hs2 hs3 hd1 hd2
      generalize (if cap = t.pos then a else Option.map (fun x => x.add t.pos) a) = av
      go_wp2_with fail
      go_loopg [9] (t.pos - q) (fun g s wi => ∃ kk : Nat, g = t.pos - kk ∧ s = .int .i64 kk ∧ q ≤ kk ∧ kk ≤ t.pos ∧ Ext W1 wi)
      case atStart => exact ⟨q, rfl, rfl, Nat.le_refl _, hq1, hHeld⟩
      case round =>
        obtain ⟨kk, rfl, rfl, hk1, hk2, hxi⟩ := hrel
        have d1 := hxi.cell c10
        have d2 := hxi.cell c20
        by_cases hlt2 : kk < t.pos
        · have hz4 : (kk : Int) < (t.pos : Int) := by omega
          obtain ⟨c, hc, hcl⟩ := HBL.out kk hk1 hlt2
          obtain ⟨c', b', o', g, ha, qc⟩ := (HR.out.ext (hyW.trans hxi)).at_ (i := kk) (by omega)
          subst ha
          rw [hc] at g
          cases g
          have hz5 : (kk : Int) < (len : Int) := by omega
          have HC := Lib.hid (blank_of hcl)
          clear hc hcl
          rcases HC.out with e | e | e
          all_goals
            rw [e] at qc
            go_wp2_with fail
            go_roundg (t.pos - (kk + 1))
            case rel => exact ⟨kk + 1, rfl, by go_num, by omega, by omega, hxi⟩
            case measure => omega
        · obtain rfl : kk = t.pos := by omega
          go_wp2_with fail
          go_roundg (rn - (j + 1))
          case rel => exact ⟨j + 1, t.pos + t.text.size, rfl, by go_num, by go_num, by omega, hpl, HNX.out, (hx.trans xW).trans hxi⟩
          case measure => omega
    · obtain rfl : j = rn := by omega
      have hol : o.length = j := by have := HN.out; rw [List.length_map] at this; omega
      have hqB : q = B.length := by
        have := HPQ.out
        rw [← hol, List.drop_length] at this
        exact this
      obtain ⟨m, rfl⟩ : ∃ m, j = m + 1 := ⟨o'.length, by rw [← hol, HO'.out]; simp⟩
      have hql : q = len := by have := HLEN.out; omega
      subst hql
      obtain ⟨t', b, of, ht', hf, rfl, q0, q1, q2⟩ := (HT.out.ext hx).at3 (i := m) (by omega)
      have e6 : t'.k = 6 := by
        have hm : o'.length = m := by have h := hol; rw [HO'.out] at h; simp at h; exact h
        rw [List.getElem?_map, HO'.out, ← hm] at ht'
        simp at ht'
        rw [← ht']
        rfl
      rw [e6] at q0
      clear ht' hf e6 hol hqB
      have hw1 : IntKind.i64.wrap (((m + 1 : Nat) : Int) - 1) = (m : Int) := by
        have e : (((m + 1 : Nat) : Int) - 1) = (m : Int) := by omega
        rw [e]
        exact IntWalk.i64_in _ ⟨by omega, by omega⟩
      go_wp2_with (go_at_call 41; refine (KA.out _ (by (repeat (first | exact Ext.refl _ | assumption | refine Ext.alloc ?_ _ | refine Ext.drew ?_ | refine Ext.setCell ?_ (by first | (simp; done) | (simp; omega) | omega) _ | refine Ext.trans ?_ (by assumption))))).mono ?_; rintro e w7 ⟨rfl, x7⟩)
      go_ret
      exact ⟨rfl, by (repeat (first | exact Ext.refl _ | assumption | refine Ext.alloc ?_ _ | refine Ext.drew ?_ | refine Ext.setCell ?_ (by first | (simp; done) | (simp; omega) | omega) _ | refine Ext.trans ?_ (by assumption)))⟩
theorem law_tokenPlaces (B : List UInt8) (w : World) (a : Option Addr) (len cap : Nat) (h1 : len ≤ cap) (h2 : cap ≤ 9223372036854775807) (hr : IsBytes w B a len) (hk : Knob w) : Calls Tryd.prog 14 #[.slice a len cap] w (Yes3 w) := law03_places B w a len cap h1 h2 hr hk
end Go.Proofs.YtmomahgedheekaaDoor

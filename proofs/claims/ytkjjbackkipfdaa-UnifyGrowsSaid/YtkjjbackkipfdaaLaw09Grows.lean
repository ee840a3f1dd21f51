/- The walk of the law UnifyGrows. -/
import Derived.Test.YtkjjbackkipfdaaAw09b
namespace Go.Proofs.Ytkjjbackkipfdaa
open Go Go.RowKit Go.Sort

theorem JoinP.exists_ {n : Nat} {S : St} (g : Good n S) (l : List Ty) : ∃ S' b, JoinP n S l S' b := by
  cases hk : knows n l with
  | false => exact ⟨S, false, JoinP.unknown g hk⟩
  | true =>
    cases l with
    | nil => exact ⟨S, true, JoinP.nil g⟩
    | cons x l =>
      have hfs := (knows_iff n _).1 hk
      obtain ⟨f, ⟨SF, r⟩, hJ⟩ := joinAll_some (hfs x (by simp)) l S g fun t ht => hfs t (by simp [ht])
      cases r with
      | true => exact ⟨SF, true, JoinP.of g hk hJ⟩
      | false => exact ⟨S, false, JoinP.fails g hk hJ⟩
section
variable {A : Nat → Prop} {w W : World} {bb mb n : Nat} {S : St}
theorem OwnA.none_off {A' : Nat → Prop} (h : OwnA A w W bb mb n (fun _ => none)) : OwnA A' w W bb mb n (fun _ => none) := ⟨⟨h.book.blk, h.book.map.none_off, h.book.small⟩, h.good, h.ext, h.hb, h.hm⟩
/-- Boxes that no type of the book lies in turn. -/
theorem OwnA.boxes {W' : World} (h : OwnA A w W bb mb n S) (hx : ExtX A W W') (hb : ¬ A bb) (hm : ¬ A mb) (hle : ∀ b, A b → w.heap.size ≤ b) : OwnA A w W' bb mb n S :=
  ⟨⟨(hx.block bb h.book.blk.lt hb).trans h.book.blk, h.book.map.move (hx.block mb h.book.map.lt hm) fun t v ht => ht.move (fun _ _ h => h) fun p u hA hu => hx.cell hA hu, h.book.small⟩, h.good, ExtX.ext h.ext hx hle, h.hb, h.hm⟩
end
/-- A pair of the same variable twice, as it is built. -/
theorem pair_ty {A : Nat → Prop} {W : World} {g : Nat} {m : Int} (hA : ¬ A g) (h0 : -9223372036854775808 ≤ m) (h1 : m ≤ 9223372036854775807) (h : Blk W g 25 #[.int .u8 5, .int .i64 m, .slice none 0 0, .int .u8 5, .int .i64 m, .slice none 0 0]) : IsTyA A W (.mk 2 0 [vr m, vr m]) (.agg #[.int .u8 2, .int .i64 0, .slice (some ⟨g, 0, none⟩) 2 2]) :=
  IsTyA.mk_ (IsTysA.two hA (vr_ty h0 h1) (vr_ty h0 h1) (by simpa using h.cell 0) (by simpa using h.cell 1) (by simpa using h.cell 2) (by simpa using h.cell 3) (by simpa using h.cell 4) (by simpa using h.cell 5)) (Nat.le_refl _) (by omega) (by omega) (by omega) (by omega) (by omega)
theorem grown_none (θ : Int → Ty) : Sol (fun _ => none) θ ↔ Grown 0 θ := ⟨fun _ j hj => by omega, fun _ v t e => by cases e⟩
theorem grown_first {i : Nat} {S S1 : St} (hs : ∀ θ, Sol S θ ↔ Grown i θ) {b : Bool} (h1 : JoinP (2 * i + 4) S [vr (2 * i + 2), .mk 2 0 [vr (2 * i), vr (2 * i)]] S1 b) : b = true := by
  obtain ⟨S2, c, h2⟩ := JoinP.exists_ h1.good [vr (2 * i + 3), .mk 2 0 [vr (2 * i + 1), vr (2 * i + 1)]]
  exact (grown_step hs h1 h2).1
/-- Which of the two errors a grown type's sense tells. -/
theorem grown_tell {i : Nat} {S : St} (g : Good (2 * i + 2) S) (hs : ∀ θ, Sol S θ ↔ Grown i θ) {σ : Int → Ty} (hσ : Sense S σ) : ∃ T, tell (2 * i + 2) σ (vr (2 * i)) 500 = (T, if 7 < i then 3 else 0) := by
  obtain ⟨h1, -⟩ := grown_size g hs hσ
  have hk : knows1 (2 * i + 2) (vr (2 * i)) = true := (knows1_iff _ _).2 (Fit.vr_ (by omega) (by omega))
  unfold tell
  rw [hk, vr_sub]
  have hl := Ty.left_spec (σ (2 * i)) (max 500 0) (by omega)
  simp only [if_true]
  by_cases h7 : 7 < i
  · have : 2 ^ 9 ≤ 2 ^ (i + 1) := Nat.pow_le_pow_right (by omega) (by omega)
    have : (2 : Nat) ^ 9 = 512 := by decide
    rw [if_pos (hl.2.2.2 (by omega)), if_pos h7]
    exact ⟨_, rfl⟩
  · have : 2 ^ (i + 1) ≤ 2 ^ 8 := Nat.pow_le_pow_right (by omega) (by omega)
    have : (2 : Nat) ^ 8 = 256 := by decide
    rw [if_neg (by have := hl.2.2.1 (by omega); omega), if_neg h7]
    exact ⟨_, rfl⟩
theorem grown_last {n : Nat} {σ : Int → Ty} (h : σ 1 = vr 0) (hn : 1 < n) : tell n σ (vr 1) 1 = (vr 0, 0) := by
  have hk : knows1 n (vr 1) = true := (knows1_iff _ _).2 (Fit.vr_ (by omega) (by omega))
  unfold tell
  rw [hk, vr_sub, h]
  rfl
set_option maxRecDepth 8000 in
set_option maxHeartbeats 8000000 in
theorem law_unifyGrows (n : Int) (w : World) (hn0 : 0 ≤ n) (hn1 : n ≤ 255) : Calls Try.prog 6 #[.int .u8 n] w (Yes w) := by
  obtain ⟨N, rfl⟩ := Int.eq_ofNat_of_zero_le hn0
  have KA := Lib.hid fun W => law_awake9 W
  by_cases hN : 200 < N
  · have hN' : (200 : Int) < (N : Int) := by omega
    clear hN
    go_enter Try.func6, Try.ntmps6
    go_wp2_with (go_at_call 10; (with_reducible refine (KA.out _).mono ?_); rintro e w3 ⟨rfl, x3⟩)
    go_ret
    exact ⟨rfl, x3⟩
  have hN' : ¬ (200 : Int) < (N : Int) := by omega
  go_enter Try.func6, Try.ntmps6
  go_upto_region 4 with (go_at_call 11; (with_reducible refine (own_new (A := NoA) w _ (Ext.refl _)).mono ?_); rintro e w1 ⟨bb, mb, rfl, hO, x3⟩; have HO1 := Lib.hid hO)
  clear hO x3
  go_upto_region 5 with (first | (go_at_call 14; (with_reducible refine (own_fresh HO1.out (by omega)).mono ?_); rintro e w2 ⟨rfl, hO2, -, -⟩; have HO2 := Lib.hid hO2) | (go_at_call 14; (with_reducible refine (own_fresh HO2.out (by omega)).mono ?_); rintro e w3 ⟨rfl, hO3, -, -⟩; have HO3 := Lib.hid hO3))
  clear hO2 hO3
  have HO4 := Lib.hid ((HO3.out.more ((Ext.refl _).alloc (.cells #[.int .u8 5, .int .i64 0, .slice none 0 0] 25))).more ((Ext.refl _).alloc (.cells #[.int .u8 5, .int .i64 1, .slice none 0 0] 25)))
  have C4 := Lib.hid ((Blk.new w3 25 #[.int .u8 5, .int .i64 0, .slice none 0 0]).alloc (.cells #[.int .u8 5, .int .i64 1, .slice none 0 0] 25))
  have C5 : Hid (Blk ((w3.alloc (.cells #[.int .u8 5, .int .i64 0, .slice none 0 0] 25)).alloc (.cells #[.int .u8 5, .int .i64 1, .slice none 0 0] 25)) (w3.heap.size + 1) 25 #[.int .u8 5, .int .i64 1, .slice none 0 0]) := Lib.hid (by
    have h := Blk.new (w3.alloc (.cells #[.int .u8 5, .int .i64 0, .slice none 0 0] 25)) 25 #[.int .u8 5, .int .i64 1, .slice none 0 0]
    rw [World.size_alloc] at h
    exact h)
  have hw3 := HO3.out.ext.size
  have hb3 := HO3.out.book.blk.lt
  have hm3 := HO3.out.book.map.lt
  clear HO1 HO2 HO3
  generalize (w3.alloc (.cells #[.int .u8 5, .int .i64 0, .slice none 0 0] 25)).alloc (.cells #[.int .u8 5, .int .i64 1, .slice none 0 0] 25) = W4 at *
  obtain ⟨b4, hb4⟩ : ∃ b, b = w3.heap.size := ⟨_, rfl⟩
  obtain ⟨b5, hb5⟩ : ∃ b, b = w3.heap.size + 1 := ⟨_, rfl⟩
  have hn45 : ¬ b4 = b5 := by omega
  have hn54 : ¬ b5 = b4 := by omega
  have hAb : ¬ (bb = b4 ∨ bb = b5) := by omega
  have hAl : ∀ b, (b = b4 ∨ b = b5) → w.heap.size ≤ b := fun b h => by omega
  have HAL := Lib.hid hAl
  rw [← hb5] at C5
  rw [← hb4] at C4
  rw [← hb5, ← hb4]
  clear hb4 hb5 hw3 hb3 hm3 hAl
  have HO5 : Hid (OwnA (fun b => b = b4 ∨ b = b5) w W4 bb mb 2 (fun _ => none)) := Lib.hid HO4.out.none_off
  clear HO4
  go_upto_region 7 with fail
  go_loopg [6, 7] N (fun g s0 i wr => ∃ (j mz : Nat) (Sz : St), g = N - j ∧ s0 = .bool true ∧ i = .int .i64 j ∧ j ≤ N ∧ OwnA (fun b => b = b4 ∨ b = b5) w wr bb mz (2 * j + 2) Sz ∧ (∀ θ, Sol Sz θ ↔ Grown j θ) ∧ Blk wr b4 25 #[.int .u8 5, .int .i64 (2 * (j : Int)), .slice none 0 0] ∧ Blk wr b5 25 #[.int .u8 5, .int .i64 (2 * (j : Int) + 1), .slice none 0 0])
  case atStart => exact ⟨0, mb, _, by omega, rfl, rfl, by omega, HO5.out, grown_none, C4.out, C5.out⟩
  case round =>
    obtain ⟨j, mz, Sz, rfl, rfl, rfl, hj, hO, hs, hb4, hb5⟩ := hrel
    have HO := Lib.hid hO
    have HS := Lib.hid hs
    have B4 := Lib.hid hb4
    have B5 := Lib.hid hb5
    clear hO hs
    by_cases hlt : j < N
    · have HLT := Lib.hid hlt
      clear hb4 hb5
      go_upto_region 10 with (first | (go_at_call 14; (with_reducible refine (own_fresh HO.out (by omega)).mono ?_); rintro e w2 ⟨rfl, hO2, k2, -⟩; have HO2 := Lib.hid hO2) | (go_at_call 14; (with_reducible refine (own_fresh HO2.out (by omega)).mono ?_); rintro e w3 ⟨rfl, hO3, k3, -⟩; have HO3 := Lib.hid hO3))
      rw [show (2 * (j : Int) + 2 + 1) = 2 * j + 3 from by omega]
      have hl4 := (k3.box _ _ (k2.box _ _ B4.out)).lt
      have hl5 := (k3.box _ _ (k2.box _ _ B5.out)).lt
      have D4 := Lib.hid (((k3.box _ _ (k2.box _ _ B4.out)).alloc (.cells #[.int .u8 5, .int .i64 (2 * (j : Int) + 2), .slice none 0 0] 25)).alloc (.cells #[.int .u8 5, .int .i64 (2 * (j : Int) + 3), .slice none 0 0] 25))
      have D5 := Lib.hid (((k3.box _ _ (k2.box _ _ B5.out)).alloc (.cells #[.int .u8 5, .int .i64 (2 * (j : Int) + 2), .slice none 0 0] 25)).alloc (.cells #[.int .u8 5, .int .i64 (2 * (j : Int) + 3), .slice none 0 0] 25))
      have D8 := Lib.hid ((Blk.new w3 25 #[.int .u8 5, .int .i64 (2 * (j : Int) + 2), .slice none 0 0]).alloc (.cells #[.int .u8 5, .int .i64 (2 * (j : Int) + 3), .slice none 0 0] 25))
      have D9 : Hid (Blk ((w3.alloc (.cells #[.int .u8 5, .int .i64 (2 * (j : Int) + 2), .slice none 0 0] 25)).alloc (.cells #[.int .u8 5, .int .i64 (2 * (j : Int) + 3), .slice none 0 0] 25)) (w3.heap.size + 1) 25 #[.int .u8 5, .int .i64 (2 * (j : Int) + 3), .slice none 0 0]) := Lib.hid (by
        have h := Blk.new (w3.alloc (.cells #[.int .u8 5, .int .i64 (2 * (j : Int) + 2), .slice none 0 0] 25)) 25 #[.int .u8 5, .int .i64 (2 * (j : Int) + 3), .slice none 0 0]
        rw [World.size_alloc] at h
        exact h)
      have HO9 := Lib.hid ((hO3.more ((Ext.refl _).alloc (.cells #[.int .u8 5, .int .i64 (2 * (j : Int) + 2), .slice none 0 0] 25))).more ((Ext.refl _).alloc (.cells #[.int .u8 5, .int .i64 (2 * (j : Int) + 3), .slice none 0 0] 25)))
      have hs9 : ((w3.alloc (.cells #[.int .u8 5, .int .i64 (2 * (j : Int) + 2), .slice none 0 0] 25)).alloc (.cells #[.int .u8 5, .int .i64 (2 * (j : Int) + 3), .slice none 0 0] 25)).heap.size = w3.heap.size + 2 := by simp
      clear hO2 hO3 k2 k3 HO HO2 HO3 B4 B5
      generalize (w3.alloc (.cells #[.int .u8 5, .int .i64 (2 * (j : Int) + 2), .slice none 0 0] 25)).alloc (.cells #[.int .u8 5, .int .i64 (2 * (j : Int) + 3), .slice none 0 0] 25) = W9 at *
      obtain ⟨b8, hb8⟩ : ∃ b, b = w3.heap.size := ⟨_, rfl⟩
      obtain ⟨b9, hb9⟩ : ∃ b, b = w3.heap.size + 1 := ⟨_, rfl⟩
      have hn : ¬ b8 = b4 ∧ ¬ b8 = b5 ∧ ¬ b9 = b4 ∧ ¬ b9 = b5 := by omega
      obtain ⟨n84, n85, n94, n95⟩ := hn
      have hA9 : b4 < W9.heap.size ∧ b5 < W9.heap.size := by omega
      rw [← hb9] at D9
      rw [← hb8] at D8
      rw [← hb9, ← hb8]
      clear hb8 hb9 hl4 hl5 hs9
      have BR1 := Lib.hid ((Blk.new W9 25 #[.int .u8 5, .int .i64 (2 * (j : Int)), .slice none 0 0, .int .u8 5, .int .i64 (2 * (j : Int)), .slice none 0 0]).alloc (.cells #[.int .u8 5, .int .i64 (2 * (j : Int) + 2), .slice none 0 0, .int .u8 2, .int .i64 0, .slice (some ⟨W9.heap.size, 0, none⟩) 2 2] 25))
      have BR2 : Hid (Blk ((W9.alloc (.cells #[.int .u8 5, .int .i64 (2 * (j : Int)), .slice none 0 0, .int .u8 5, .int .i64 (2 * (j : Int)), .slice none 0 0] 25)).alloc (.cells #[.int .u8 5, .int .i64 (2 * (j : Int) + 2), .slice none 0 0, .int .u8 2, .int .i64 0, .slice (some ⟨W9.heap.size, 0, none⟩) 2 2] 25)) (W9.heap.size + 1) 25 #[.int .u8 5, .int .i64 (2 * (j : Int) + 2), .slice none 0 0, .int .u8 2, .int .i64 0, .slice (some ⟨W9.heap.size, 0, none⟩) 2 2]) := Lib.hid (by
        have h := Blk.new (W9.alloc (.cells #[.int .u8 5, .int .i64 (2 * (j : Int)), .slice none 0 0, .int .u8 5, .int .i64 (2 * (j : Int)), .slice none 0 0] 25)) 25 #[.int .u8 5, .int .i64 (2 * (j : Int) + 2), .slice none 0 0, .int .u8 2, .int .i64 0, .slice (some ⟨W9.heap.size, 0, none⟩) 2 2]
        rw [World.size_alloc] at h
        exact h)
      have KJ := Lib.hid (own_Join2A ((HO9.out.more ((Ext.refl _).alloc (.cells #[.int .u8 5, .int .i64 (2 * (j : Int)), .slice none 0 0, .int .u8 5, .int .i64 (2 * (j : Int)), .slice none 0 0] 25))).more ((Ext.refl _).alloc (.cells #[.int .u8 5, .int .i64 (2 * (j : Int) + 2), .slice none 0 0, .int .u8 2, .int .i64 0, .slice (some ⟨W9.heap.size, 0, none⟩) 2 2] 25))) (vr (2 * (j : Int) + 2)) (.mk 2 0 [vr (2 * (j : Int)), vr (2 * (j : Int))]) (W9.heap.size + 1) _ _ _ _ _ _ (by omega) (vr_ty (by omega) (by omega)) (pair_ty (by omega) (by omega) (by omega) BR1.out) BR2.out)
      have KW := Lib.hid ((Keeps.of ((Ext.refl W9).alloc (.cells #[.int .u8 5, .int .i64 (2 * (j : Int)), .slice none 0 0, .int .u8 5, .int .i64 (2 * (j : Int)), .slice none 0 0] 25))).trans (Keeps.of ((Ext.refl _).alloc (.cells #[.int .u8 5, .int .i64 (2 * (j : Int) + 2), .slice none 0 0, .int .u8 2, .int .i64 0, .slice (some ⟨W9.heap.size, 0, none⟩) 2 2] 25))))
      obtain ⟨p0, p1, p2⟩ := D8.out.three
      obtain ⟨q0, q1, q2⟩ := D4.out.three
      go_upto_region 11 with (go_at_call 17; (with_reducible refine (KJ.out).mono ?_); rintro e w10 ⟨S1, ok, m1, rfl, hJ1, hO10, k10, -⟩; obtain rfl := grown_first HS.out hJ1; have HJ1 := Lib.hid hJ1; have HO10 := Lib.hid hO10)
      have k10 := KW.out.trans k10
      have E4 := Lib.hid (k10.box _ _ D4.out)
      have E5 := Lib.hid (k10.box _ _ D5.out)
      have E8 := Lib.hid (k10.box _ _ D8.out)
      have E9 := Lib.hid (k10.box _ _ D9.out)
      have hA10 : b4 < w10.heap.size ∧ b5 < w10.heap.size := by have := k10.size; omega
      clear hJ1 hO10 k10 p0 p1 p2 q0 q1 q2 KJ KW BR1 BR2 D4 D5 D8 D9 HO9
      have BR1 := Lib.hid ((Blk.new w10 25 #[.int .u8 5, .int .i64 (2 * (j : Int) + 1), .slice none 0 0, .int .u8 5, .int .i64 (2 * (j : Int) + 1), .slice none 0 0]).alloc (.cells #[.int .u8 5, .int .i64 (2 * (j : Int) + 3), .slice none 0 0, .int .u8 2, .int .i64 0, .slice (some ⟨w10.heap.size, 0, none⟩) 2 2] 25))
      have BR2 : Hid (Blk ((w10.alloc (.cells #[.int .u8 5, .int .i64 (2 * (j : Int) + 1), .slice none 0 0, .int .u8 5, .int .i64 (2 * (j : Int) + 1), .slice none 0 0] 25)).alloc (.cells #[.int .u8 5, .int .i64 (2 * (j : Int) + 3), .slice none 0 0, .int .u8 2, .int .i64 0, .slice (some ⟨w10.heap.size, 0, none⟩) 2 2] 25)) (w10.heap.size + 1) 25 #[.int .u8 5, .int .i64 (2 * (j : Int) + 3), .slice none 0 0, .int .u8 2, .int .i64 0, .slice (some ⟨w10.heap.size, 0, none⟩) 2 2]) := Lib.hid (by
        have h := Blk.new (w10.alloc (.cells #[.int .u8 5, .int .i64 (2 * (j : Int) + 1), .slice none 0 0, .int .u8 5, .int .i64 (2 * (j : Int) + 1), .slice none 0 0] 25)) 25 #[.int .u8 5, .int .i64 (2 * (j : Int) + 3), .slice none 0 0, .int .u8 2, .int .i64 0, .slice (some ⟨w10.heap.size, 0, none⟩) 2 2]
        rw [World.size_alloc] at h
        exact h)
      have KJ := Lib.hid (own_Join2A ((HO10.out.more ((Ext.refl _).alloc (.cells #[.int .u8 5, .int .i64 (2 * (j : Int) + 1), .slice none 0 0, .int .u8 5, .int .i64 (2 * (j : Int) + 1), .slice none 0 0] 25))).more ((Ext.refl _).alloc (.cells #[.int .u8 5, .int .i64 (2 * (j : Int) + 3), .slice none 0 0, .int .u8 2, .int .i64 0, .slice (some ⟨w10.heap.size, 0, none⟩) 2 2] 25))) (vr (2 * (j : Int) + 3)) (.mk 2 0 [vr (2 * (j : Int) + 1), vr (2 * (j : Int) + 1)]) (w10.heap.size + 1) _ _ _ _ _ _ (by omega) (vr_ty (by omega) (by omega)) (pair_ty (by omega) (by omega) (by omega) BR1.out) BR2.out)
      have KW := Lib.hid ((Keeps.of ((Ext.refl w10).alloc (.cells #[.int .u8 5, .int .i64 (2 * (j : Int) + 1), .slice none 0 0, .int .u8 5, .int .i64 (2 * (j : Int) + 1), .slice none 0 0] 25))).trans (Keeps.of ((Ext.refl _).alloc (.cells #[.int .u8 5, .int .i64 (2 * (j : Int) + 3), .slice none 0 0, .int .u8 2, .int .i64 0, .slice (some ⟨w10.heap.size, 0, none⟩) 2 2] 25))))
      obtain ⟨p0, p1, p2⟩ := E9.out.three
      obtain ⟨q0, q1, q2⟩ := E5.out.three
      go_upto_region 12 with (go_at_call 17; (with_reducible refine (KJ.out).mono ?_); rintro e w11 ⟨S2, ok, m2, rfl, hJ2, hO11, k11, -⟩; obtain ⟨-, rfl, hg2⟩ := grown_step HS.out HJ1.out hJ2; have HS2 := Lib.hid hg2; have HO11 := Lib.hid hO11)
      have k11 := KW.out.trans k11
      have F4 := Lib.hid (k11.box _ _ E4.out)
      have F5 := Lib.hid (k11.box _ _ E5.out)
      have F8 := Lib.hid (k11.box _ _ E8.out)
      have F9 := Lib.hid (k11.box _ _ E9.out)
      clear hJ2 hO11 hg2 k11 p0 p1 p2 q0 q1 q2 KJ KW BR1 BR2 E4 E5 E8 E9 HO10 HS HJ1
      obtain ⟨p0, p1, p2⟩ := F8.out.three
      obtain ⟨q0, q1, q2⟩ := F9.out.three
      have hn8 : ¬ (b8 = b4 ∨ b8 = b5) := by omega
      have hn9 : ¬ (b9 = b4 ∨ b9 = b5) := by omega
      have p0 := fun W (h : ExtX (fun b => b = b4 ∨ b = b5) w11 W) => h.cell hn8 p0
      have p1 := fun W (h : ExtX (fun b => b = b4 ∨ b = b5) w11 W) => h.cell hn8 p1
      have p2 := fun W (h : ExtX (fun b => b = b4 ∨ b = b5) w11 W) => h.cell hn8 p2
      have q0 := fun W (h : ExtX (fun b => b = b4 ∨ b = b5) w11 W) => h.cell hn9 q0
      have q1 := fun W (h : ExtX (fun b => b = b4 ∨ b = b5) w11 W) => h.cell hn9 q1
      have q2 := fun W (h : ExtX (fun b => b = b4 ∨ b = b5) w11 W) => h.cell hn9 q2
      obtain ⟨r0, r1, r2⟩ := F4.out.three
      obtain ⟨s0, s1, s2⟩ := F5.out.three
      have l4 := F4.out.lt
      have l5 := F5.out.lt
      have f40 := F4.out.frozen 0
      have f41 := F4.out.frozen 1
      have f42 := F4.out.frozen 2
      have f50 := F5.out.frozen 0
      have f51 := F5.out.frozen 1
      have f52 := F5.out.frozen 2
      refine wp_region_held_drew (S := fun w' => ExtX (fun b => b = b4 ∨ b = b5) w11 w') (by kernel_rfl) (by (try dsimp only); (exact xX)) (fun hHeld => ?_)
      refine tK 0 (v := ?_) ?_ ?_;rotate_left;(focus (intro w hSw;(try dsimp only at hSw);go_simp;(try with_reducible rfl)));try simp only [Act.put,pA,pB,pC]
      refine tK 1 (v := ?_) ?_ ?_;rotate_left;(focus (intro w hSw;(try dsimp only at hSw);go_simp;(try with_reducible rfl)));try simp only [Act.put,pA,pB,pC]
      refine held_do 2 rfl (by kernel_rfl) (by rfl) (fun K hK => ?_); go_simp; refine hK.out _ _ (by (try dsimp only); (exact xX)) (fun hHeld => ?_); clear hK K; try simp only [Act.put,pA,pB,pC]
      refine held_do 3 rfl (by kernel_rfl) (by rfl) (fun K hK => ?_); go_simp; refine hK.out _ _ (by (try dsimp only); (exact xX)) (fun hHeld => ?_); clear hK K; try simp only [Act.put,pA,pB,pC]
      refine wpAnyH_done (by kernel_rfl) ?_ _
      have hAm : ¬ (m2 = b4 ∨ m2 = b5) := by
        obtain ⟨es, c, e⟩ := HO11.out.book.map.block
        rintro (h | h)
        · subst h
          have := F4.out
          unfold Blk at this
          rw [e] at this
          cases this
        · subst h
          have := F5.out
          unfold Blk at this
          rw [e] at this
          cases this
      have HO12 := Lib.hid (HO11.out.boxes hHeld hAb hAm HAL.out)
      have G4 := Lib.hid (Blk.drew (Blk.far3 (u0 := .int .u8 5) (u1 := .int .i64 (2 * (j : Int) + 3)) (u2 := .slice none 0 0) (Blk.lay3 (u0 := .int .u8 5) (u1 := .int .i64 (2 * (j : Int) + 2)) (u2 := .slice none 0 0) F4.out) hn45))
      have G5 := Lib.hid (Blk.drew (Blk.lay3 (u0 := .int .u8 5) (u1 := .int .i64 (2 * (j : Int) + 3)) (u2 := .slice none 0 0) (F5.out.far3 (u0 := .int .u8 5) (u1 := .int .i64 (2 * (j : Int) + 2)) (u2 := .slice none 0 0) hn54)))
      clear hHeld p0 p1 p2 q0 q1 q2 r0 r1 r2 s0 s1 s2 l4 l5 f40 f41 f42 f50 f51 f52
      generalize ((((((w11.setCell ⟨b4, 0, none⟩ (.int .u8 5)).setCell ⟨b4, 1, none⟩ (.int .i64 (2 * (j : Int) + 2))).setCell ⟨b4, 2, none⟩ (.slice none 0 0)).setCell ⟨b5, 0, none⟩ (.int .u8 5)).setCell ⟨b5, 1, none⟩ (.int .i64 (2 * (j : Int) + 3))).setCell ⟨b5, 2, none⟩ (.slice none 0 0)).drew = W12 at *
      go_wp2_with fail
      go_roundg (N - (j + 1))
      case rel =>
        have hlt := HLT.out
        refine ⟨j + 1, m2, S2, rfl, rfl, by go_num, by omega, HO12.out, HS2.out, ?_, ?_⟩
        · have := G4.out
          rw [show (2 * ((j + 1 : Nat) : Int)) = 2 * (j : Int) + 2 from by omega]
          exact this
        · have := G5.out
          rw [show (2 * ((j + 1 : Nat) : Int) + 1) = 2 * (j : Int) + 3 from by omega]
          exact this
      case measure =>
        have hlt := HLT.out
        omega
    · obtain rfl : j = N := by omega
      obtain ⟨σ, hσ⟩ := HO.out.good.acy.sense
      obtain ⟨T, hT⟩ := grown_tell HO.out.good HS.out hσ
      obtain ⟨E, hE⟩ : ∃ E : Int, (if 7 < j then (3 : Int) else 0) = E := ⟨_, rfl⟩
      rw [hE] at hT
      have HE := Lib.hid hE
      have KS := Lib.hid (own_Sense HO.out.any hσ (vr (2 * (j : Int))) 500 none 0 0 (vr_ty (by omega) (by omega)) (by omega) (by omega) T E hT)
      simp only [vr, ty_kind, ty_var] at KS
      obtain ⟨p0, p1, p2⟩ := hb4.three
      clear hb4 hb5 hσ hT hE hlt
      go_upto_region 14 with (go_at_call 18; (with_reducible refine (KS.out).mono ?_); rintro e w8 ⟨xa, xl, xc, rfl, -, x8⟩)
      have D4 := Lib.hid ((B4.out.ext x8).alloc (.cells #[.int .u8 T.kind, .int .i64 T.var, .slice xa xl xc] 25))
      have D5 := Lib.hid ((B5.out.ext x8).alloc (.cells #[.int .u8 T.kind, .int .i64 T.var, .slice xa xl xc] 25))
      have HO9 := Lib.hid ((HO.out.more x8).more ((Ext.refl _).alloc (.cells #[.int .u8 T.kind, .int .i64 T.var, .slice xa xl xc] 25)))
      have hA9 : b4 < (w8.alloc (.cells #[.int .u8 T.kind, .int .i64 T.var, .slice xa xl xc] 25)).heap.size ∧ b5 < (w8.alloc (.cells #[.int .u8 T.kind, .int .i64 T.var, .slice xa xl xc] 25)).heap.size := ⟨D4.out.lt, D5.out.lt⟩
      clear x8 p0 p1 p2 KS HO
      generalize (w8.alloc (.cells #[.int .u8 T.kind, .int .i64 T.var, .slice xa xl xc] 25)) = W9 at *
      have BR := Lib.hid (Blk.new W9 25 #[.int .u8 5, .int .i64 (2 * (j : Int)), .slice none 0 0, .int .u8 5, .int .i64 (2 * (j : Int) + 1), .slice none 0 0])
      have KJ := Lib.hid (own_Join2A (HO9.out.more ((Ext.refl _).alloc (.cells #[.int .u8 5, .int .i64 (2 * (j : Int)), .slice none 0 0, .int .u8 5, .int .i64 (2 * (j : Int) + 1), .slice none 0 0] 25))) (vr (2 * (j : Int))) (vr (2 * (j : Int) + 1)) W9.heap.size _ _ _ _ _ _ (by omega) (vr_ty (by omega) (by omega)) (vr_ty (by omega) (by omega)) BR.out)
      obtain ⟨p0, p1, p2⟩ := D4.out.three
      obtain ⟨q0, q1, q2⟩ := D5.out.three
      go_upto_region 15 with (go_at_call 17; (with_reducible refine (KJ.out).mono ?_); rintro e w10 ⟨S1, ok, m1, rfl, hJ1, hO10, -, -⟩; obtain ⟨rfl, hlast⟩ := grown_both HS.out hJ1 (by omega); have HLA := Lib.hid hlast; have HO10 := Lib.hid hO10)
      obtain ⟨σ', hσ'⟩ := HO10.out.good.acy.sense
      have KS := Lib.hid fun W (h : Ext w10 W) => own_Sense (HO10.out.more h).any hσ' (vr 1) 1 none 0 0 (vr_ty (by omega) (by omega)) (by omega) (by omega) (vr 0) 0 (grown_last (HLA.out _ hσ') (by omega))
      simp only [vr, ty_kind, ty_var] at KS
      clear hJ1 hlast hO10 hσ' p0 p1 p2 q0 q1 q2 KJ BR D4 D5
      go_upto_region 16 with (first | (go_at_call 15; (refine (law_v _ _).mono ?_); rintro e w11 ⟨rfl, x11⟩) | (go_at_call 18; (with_reducible refine (KS.out _ x11).mono ?_); rintro e w12 ⟨ya, yl, yc, rfl, hT2, x12⟩))
      have B12 := Lib.hid (Blk.new w12 25 #[.int .u8 5, .int .i64 0, .slice ya yl yc])
      have X13 := Lib.hid (((HO10.out.ext.trans x11).trans x12).alloc (.cells #[.int .u8 5, .int .i64 0, .slice ya yl yc] 25))
      have T2 := Lib.hid (hT2.ext ((Ext.refl _).alloc (.cells #[.int .u8 5, .int .i64 0, .slice ya yl yc] 25)))
      obtain ⟨b12, hb12⟩ : ∃ b, b = w12.heap.size := ⟨_, rfl⟩
      rw [← hb12] at B12
      rw [← hb12]
      clear hb12 x11 x12 hT2 KS
      generalize (w12.alloc (.cells #[.int .u8 5, .int .i64 0, .slice ya yl yc] 25)) = W13 at *
      obtain ⟨p0, p1, p2⟩ := B12.out.three
      have p0 := fun W (h : Ext W13 W) => h.cell p0
      have p1 := fun W (h : Ext W13 W) => h.cell p1
      have p2 := fun W (h : Ext W13 W) => h.cell p2
      have KE := Lib.hid fun W (h : Ext W13 W) => ref_same (vr 0).size (vr 0) (vr 0) W (.agg #[.int .u8 5, .int .i64 0, .slice ya yl yc]) (.agg #[.int .u8 5, .int .i64 0, .slice none 0 0]) (Nat.le_refl _) (T2.out.ext h) (vr_ty (by omega) (by omega))
      rw [(Ty.same_iff (vr 0) (vr 0)).2 rfl] at KE
      by_cases h7 : 7 < j
      · have h7' : (7 : Int) < (j : Int) := by omega
        obtain rfl : E = 3 := by rw [← HE.out, if_pos h7]
        clear h7
        refine wp_region_held_drew (S := fun w' => Ext W13 w') (by kernel_rfl) (by (try dsimp only); (exact eX)) (fun hHeld => ?_)
        refine tK 0 (v := ?_) ?_ ?_;rotate_left;(focus (intro w hSw;(try dsimp only at hSw);go_simp;(try with_reducible rfl)));try simp only [Act.put,pA,pB,pC]
        refine tK 1 (v := ?_) ?_ ?_;rotate_left;(focus (intro w hSw;(try dsimp only at hSw);go_simp;(try with_reducible rfl)));try simp only [Act.put,pA,pB,pC]
        first | (refine tK 2 (v := ?_) ?_ ?_;rotate_left;(focus (intro w hSw;(try dsimp only at hSw);go_simp;(try with_reducible rfl)));try simp only [Act.put,pA,pB,pC]) | (refine held_skip 2 rfl (by kernel_rfl) (by kernel_rfl) (by kernel_rfl) (fun _ _ _ h => h) (by assumption) (by rfl) ?_; try simp only [Act.put,pA,pB,pC])
        first | (refine tK 3 (v := ?_) ?_ ?_;rotate_left;(focus (intro w hSw;(try dsimp only at hSw);go_simp;(try with_reducible rfl)));try simp only [Act.put,pA,pB,pC]) | (refine held_skip 3 rfl (by kernel_rfl) (by kernel_rfl) (by kernel_rfl) (fun _ _ _ h => h) (by assumption) (by rfl) ?_; try simp only [Act.put,pA,pB,pC])
        first | (refine tK 4 (v := ?_) ?_ ?_;rotate_left;(focus (intro w hSw;(try dsimp only at hSw);go_simp;(try with_reducible rfl)));try simp only [Act.put,pA,pB,pC]) | (refine held_skip 4 rfl (by kernel_rfl) (by kernel_rfl) (by kernel_rfl) (fun _ _ _ h => h) (by assumption) (by rfl) ?_; try simp only [Act.put,pA,pB,pC])
        first | (refine tK 5 (v := ?_) ?_ ?_;rotate_left;(focus (intro w hSw;(try dsimp only at hSw);go_simp;(try with_reducible rfl)));try simp only [Act.put,pA,pB,pC]) | (refine held_skip 5 rfl (by kernel_rfl) (by kernel_rfl) (by kernel_rfl) (fun _ _ _ h => h) (by assumption) (by rfl) ?_; try simp only [Act.put,pA,pB,pC])
        first | (refine tK 6 (v := ?_) ?_ ?_;rotate_left;(focus (intro w hSw;(try dsimp only at hSw);go_simp;(try with_reducible rfl)));try simp only [Act.put,pA,pB,pC]) | (refine held_skip 6 rfl (by kernel_rfl) (by kernel_rfl) (by kernel_rfl) (fun _ _ _ h => h) (by assumption) (by rfl) ?_; try simp only [Act.put,pA,pB,pC])
        refine tK 7 (v := ?_) ?_ ?_;rotate_left;(focus (intro w hSw;(try dsimp only at hSw);go_simp;(try with_reducible rfl)));try simp only [Act.put,pA,pB,pC]
        refine tK 8 (v := ?_) ?_ ?_;rotate_left;(focus (intro w hSw;(try dsimp only at hSw);go_simp;(try with_reducible rfl)));try simp only [Act.put,pA,pB,pC]
        first | (refine tK 9 (v := ?_) ?_ ?_;rotate_left;(focus (intro w hSw;(try dsimp only at hSw);go_simp;(try with_reducible rfl)));try simp only [Act.put,pA,pB,pC]) | (refine held_skip 9 rfl (by kernel_rfl) (by kernel_rfl) (by kernel_rfl) (fun _ _ _ h => h) (by assumption) (by rfl) ?_; try simp only [Act.put,pA,pB,pC])
        first | (refine tK 10 (v := ?_) ?_ ?_;rotate_left;(focus (intro w hSw;(try dsimp only at hSw);go_simp;(try with_reducible rfl)));try simp only [Act.put,pA,pB,pC]) | (refine held_skip 10 rfl (by kernel_rfl) (by kernel_rfl) (by kernel_rfl) (fun _ _ _ h => h) (by assumption) (by rfl) ?_; try simp only [Act.put,pA,pB,pC])
        refine tK 11 (v := ?_) ?_ ?_;rotate_left;(focus (intro w hSw;(try dsimp only at hSw);go_simp;(try with_reducible rfl)));try simp only [Act.put,pA,pB,pC]
        refine tK 12 (v := ?_) ?_ ?_;rotate_left;(focus (intro w hSw;(try dsimp only at hSw);go_simp;(try with_reducible rfl)));try simp only [Act.put,pA,pB,pC]
        first | (refine tK 13 (v := ?_) ?_ ?_;rotate_left;(focus (intro w hSw;(try dsimp only at hSw);go_simp;(try with_reducible rfl)));try simp only [Act.put,pA,pB,pC]) | (refine held_skip 13 rfl (by kernel_rfl) (by kernel_rfl) (by kernel_rfl) (fun _ _ _ h => h) (by assumption) (by rfl) ?_; try simp only [Act.put,pA,pB,pC])
        first | (refine held_skip 14 rfl (by kernel_rfl) (by kernel_rfl) (by kernel_rfl) (fun _ _ _ h => h) (by assumption) (by rfl) ?_; try simp only [Act.put,pA,pB,pC]) | (refine held_do 14 rfl (by kernel_rfl) (by rfl) (fun K hK => ?_); go_simp; (first | (go_at_call 15; (refine (law_v _ _).mono ?_); rintro e w14 ⟨rfl, x14⟩; have y14 : Ext W13 w14 := Ext.trans (by (exact eX)) x14)); (try (focus (go_wp2_with fail))); refine hK.out _ _ (by (try dsimp only); (exact eX)) (fun hHeld => ?_); clear hK K; try simp only [Act.put,pA,pB,pC])
        first | (refine held_skip 15 rfl (by kernel_rfl) (by kernel_rfl) (by kernel_rfl) (fun _ _ _ h => h) (by assumption) (by rfl) ?_; try simp only [Act.put,pA,pB,pC]) | (refine held_do 15 rfl (by kernel_rfl) (by rfl) (fun K hK => ?_); go_simp; (first | (go_at_call 13; (with_reducible refine (KE.out _ y14).mono ?_); rintro e w15 ⟨rfl, x15⟩; have y15 := y14.trans x15)); (try (focus (go_wp2_with fail))); refine hK.out _ _ (by (try dsimp only); (exact eX)) (fun hHeld => ?_); clear hK K; try simp only [Act.put,pA,pB,pC])
        refine tK 16 (v := ?_) ?_ ?_;rotate_left;(focus (intro w hSw;(try dsimp only at hSw);go_simp;(try with_reducible rfl)));try simp only [Act.put,pA,pB,pC]
        refine tK 17 (v := ?_) ?_ ?_;rotate_left;(focus (intro w hSw;(try dsimp only at hSw);go_simp;(try with_reducible rfl)));try simp only [Act.put,pA,pB,pC]
        first | (refine held_skip 18 rfl (by kernel_rfl) (by kernel_rfl) (by kernel_rfl) (fun _ _ _ h => h) (by assumption) (by rfl) ?_; try simp only [Act.put,pA,pB,pC]) | (refine held_do 18 rfl (by kernel_rfl) (by rfl) (fun K hK => ?_); go_simp; (first | (go_at_call 10; (with_reducible refine (KA.out _).mono ?_); rintro e w16 ⟨rfl, x16⟩; have y16 := y15.trans x16)); (try (focus (go_wp2_with fail))); refine hK.out _ _ (by (try dsimp only); (exact eX)) (fun hHeld => ?_); clear hK K; try simp only [Act.put,pA,pB,pC])
        refine tK 19 (v := ?_) ?_ ?_;rotate_left;(focus (intro w hSw;(try dsimp only at hSw);go_simp;(try with_reducible rfl)));try simp only [Act.put,pA,pB,pC]
        refine tK 20 (v := ?_) ?_ ?_;rotate_left;(focus (intro w hSw;(try dsimp only at hSw);go_simp;(try with_reducible rfl)));try simp only [Act.put,pA,pB,pC]
        refine wpAnyH_done (by kernel_rfl) ?_ _
        go_wp2_with fail
        go_ret
        exact ⟨rfl, X13.out.trans y16⟩
      · have h7' : ¬ (7 : Int) < (j : Int) := by omega
        obtain rfl : E = 0 := by rw [← HE.out, if_neg h7]
        clear h7
        refine wp_region_held_drew (S := fun w' => Ext W13 w') (by kernel_rfl) (by (try dsimp only); (exact eX)) (fun hHeld => ?_)
        refine tK 0 (v := ?_) ?_ ?_;rotate_left;(focus (intro w hSw;(try dsimp only at hSw);go_simp;(try with_reducible rfl)));try simp only [Act.put,pA,pB,pC]
        refine tK 1 (v := ?_) ?_ ?_;rotate_left;(focus (intro w hSw;(try dsimp only at hSw);go_simp;(try with_reducible rfl)));try simp only [Act.put,pA,pB,pC]
        first | (refine tK 2 (v := ?_) ?_ ?_;rotate_left;(focus (intro w hSw;(try dsimp only at hSw);go_simp;(try with_reducible rfl)));try simp only [Act.put,pA,pB,pC]) | (refine held_skip 2 rfl (by kernel_rfl) (by kernel_rfl) (by kernel_rfl) (fun _ _ _ h => h) (by assumption) (by rfl) ?_; try simp only [Act.put,pA,pB,pC])
        first | (refine tK 3 (v := ?_) ?_ ?_;rotate_left;(focus (intro w hSw;(try dsimp only at hSw);go_simp;(try with_reducible rfl)));try simp only [Act.put,pA,pB,pC]) | (refine held_skip 3 rfl (by kernel_rfl) (by kernel_rfl) (by kernel_rfl) (fun _ _ _ h => h) (by assumption) (by rfl) ?_; try simp only [Act.put,pA,pB,pC])
        first | (refine tK 4 (v := ?_) ?_ ?_;rotate_left;(focus (intro w hSw;(try dsimp only at hSw);go_simp;(try with_reducible rfl)));try simp only [Act.put,pA,pB,pC]) | (refine held_skip 4 rfl (by kernel_rfl) (by kernel_rfl) (by kernel_rfl) (fun _ _ _ h => h) (by assumption) (by rfl) ?_; try simp only [Act.put,pA,pB,pC])
        first | (refine tK 5 (v := ?_) ?_ ?_;rotate_left;(focus (intro w hSw;(try dsimp only at hSw);go_simp;(try with_reducible rfl)));try simp only [Act.put,pA,pB,pC]) | (refine held_skip 5 rfl (by kernel_rfl) (by kernel_rfl) (by kernel_rfl) (fun _ _ _ h => h) (by assumption) (by rfl) ?_; try simp only [Act.put,pA,pB,pC])
        first | (refine tK 6 (v := ?_) ?_ ?_;rotate_left;(focus (intro w hSw;(try dsimp only at hSw);go_simp;(try with_reducible rfl)));try simp only [Act.put,pA,pB,pC]) | (refine held_skip 6 rfl (by kernel_rfl) (by kernel_rfl) (by kernel_rfl) (fun _ _ _ h => h) (by assumption) (by rfl) ?_; try simp only [Act.put,pA,pB,pC])
        refine tK 7 (v := ?_) ?_ ?_;rotate_left;(focus (intro w hSw;(try dsimp only at hSw);go_simp;(try with_reducible rfl)));try simp only [Act.put,pA,pB,pC]
        refine tK 8 (v := ?_) ?_ ?_;rotate_left;(focus (intro w hSw;(try dsimp only at hSw);go_simp;(try with_reducible rfl)));try simp only [Act.put,pA,pB,pC]
        first | (refine tK 9 (v := ?_) ?_ ?_;rotate_left;(focus (intro w hSw;(try dsimp only at hSw);go_simp;(try with_reducible rfl)));try simp only [Act.put,pA,pB,pC]) | (refine held_skip 9 rfl (by kernel_rfl) (by kernel_rfl) (by kernel_rfl) (fun _ _ _ h => h) (by assumption) (by rfl) ?_; try simp only [Act.put,pA,pB,pC])
        first | (refine tK 10 (v := ?_) ?_ ?_;rotate_left;(focus (intro w hSw;(try dsimp only at hSw);go_simp;(try with_reducible rfl)));try simp only [Act.put,pA,pB,pC]) | (refine held_skip 10 rfl (by kernel_rfl) (by kernel_rfl) (by kernel_rfl) (fun _ _ _ h => h) (by assumption) (by rfl) ?_; try simp only [Act.put,pA,pB,pC])
        refine tK 11 (v := ?_) ?_ ?_;rotate_left;(focus (intro w hSw;(try dsimp only at hSw);go_simp;(try with_reducible rfl)));try simp only [Act.put,pA,pB,pC]
        refine tK 12 (v := ?_) ?_ ?_;rotate_left;(focus (intro w hSw;(try dsimp only at hSw);go_simp;(try with_reducible rfl)));try simp only [Act.put,pA,pB,pC]
        first | (refine tK 13 (v := ?_) ?_ ?_;rotate_left;(focus (intro w hSw;(try dsimp only at hSw);go_simp;(try with_reducible rfl)));try simp only [Act.put,pA,pB,pC]) | (refine held_skip 13 rfl (by kernel_rfl) (by kernel_rfl) (by kernel_rfl) (fun _ _ _ h => h) (by assumption) (by rfl) ?_; try simp only [Act.put,pA,pB,pC])
        first | (refine held_skip 14 rfl (by kernel_rfl) (by kernel_rfl) (by kernel_rfl) (fun _ _ _ h => h) (by assumption) (by rfl) ?_; try simp only [Act.put,pA,pB,pC]) | (refine held_do 14 rfl (by kernel_rfl) (by rfl) (fun K hK => ?_); go_simp; (first | (go_at_call 15; (refine (law_v _ _).mono ?_); rintro e w14 ⟨rfl, x14⟩; have y14 : Ext W13 w14 := Ext.trans (by (exact eX)) x14)); (try (focus (go_wp2_with fail))); refine hK.out _ _ (by (try dsimp only); (exact eX)) (fun hHeld => ?_); clear hK K; try simp only [Act.put,pA,pB,pC])
        first | (refine held_skip 15 rfl (by kernel_rfl) (by kernel_rfl) (by kernel_rfl) (fun _ _ _ h => h) (by assumption) (by rfl) ?_; try simp only [Act.put,pA,pB,pC]) | (refine held_do 15 rfl (by kernel_rfl) (by rfl) (fun K hK => ?_); go_simp; (first | (go_at_call 13; (with_reducible refine (KE.out _ y14).mono ?_); rintro e w15 ⟨rfl, x15⟩; have y15 := y14.trans x15)); (try (focus (go_wp2_with fail))); refine hK.out _ _ (by (try dsimp only); (exact eX)) (fun hHeld => ?_); clear hK K; try simp only [Act.put,pA,pB,pC])
        refine tK 16 (v := ?_) ?_ ?_;rotate_left;(focus (intro w hSw;(try dsimp only at hSw);go_simp;(try with_reducible rfl)));try simp only [Act.put,pA,pB,pC]
        refine tK 17 (v := ?_) ?_ ?_;rotate_left;(focus (intro w hSw;(try dsimp only at hSw);go_simp;(try with_reducible rfl)));try simp only [Act.put,pA,pB,pC]
        first | (refine held_skip 18 rfl (by kernel_rfl) (by kernel_rfl) (by kernel_rfl) (fun _ _ _ h => h) (by assumption) (by rfl) ?_; try simp only [Act.put,pA,pB,pC]) | (refine held_do 18 rfl (by kernel_rfl) (by rfl) (fun K hK => ?_); go_simp; (first | (go_at_call 10; (with_reducible refine (KA.out _).mono ?_); rintro e w16 ⟨rfl, x16⟩; have y16 := y15.trans x16)); (try (focus (go_wp2_with fail))); refine hK.out _ _ (by (try dsimp only); (exact eX)) (fun hHeld => ?_); clear hK K; try simp only [Act.put,pA,pB,pC])
        refine tK 19 (v := ?_) ?_ ?_;rotate_left;(focus (intro w hSw;(try dsimp only at hSw);go_simp;(try with_reducible rfl)));try simp only [Act.put,pA,pB,pC]
        refine tK 20 (v := ?_) ?_ ?_;rotate_left;(focus (intro w hSw;(try dsimp only at hSw);go_simp;(try with_reducible rfl)));try simp only [Act.put,pA,pB,pC]
        refine wpAnyH_done (by kernel_rfl) ?_ _
        go_wp2_with fail
        go_ret
        exact ⟨rfl, X13.out.trans y16⟩
end Go.Proofs.Ytkjjbackkipfdaa

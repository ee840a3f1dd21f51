/- Part 17 of the proof: Parse5; no condition of ours. -/
import Derived.Test.YtaioeailgknfjaaGreatDoorPkp15
import Derived.Test.YtaioeailgknfjaaGreatDoorPkp16
set_option linter.unusedVariables false
set_option linter.unusedSimpArgs false
namespace Go.Proofs.YtaioeailgknfjaaGreatDoor
open Go.Lib (hid)
open Go Go.RowKit Go.Sort
def IsNew (base : Nat) (w : World) (t : Tm) (v : Value) : Prop := ∃ a len cap, v = .agg #[.int .u8 t.head.k, .int .u8 t.head.op, .int .i64 t.head.pos, .int .i64 t.head.n, .string t.head.name, .string t.head.arg, .string t.head.exn, .slice a len cap] ∧ t.head.Fits ∧ len ≤ cap ∧ cap ≤ 9223372036854775807 ∧ IsTmsA (fun b => b < base) w t.kids a len
def Does (F : Nat) (nt : NT) (f : Nat) : Prop := ∀ (pb : Nat) (W : World) (l : List Tk) (r : Res Tm), Prs W pb l → Ended l → parseF f nt l = some r → Calls Tryz.prog F #[.pointer (some ⟨pb, 0, none⟩)] W (RetP pb W (IsNew W.heap.size) r)
theorem sign_at {k : Nat} (hk : 1 ≤ k) {x : ByteArray} (h : x ∈ signsL k) : ∃ j : Nat, j ≤ 4 ∧ fidx (fun y : ByteArray => x.toList == y.toList) [s_plus, s_minus, s_star, s_less, s_eq] = (j : Int) ∧ opOf x = (j : Int) + 1 ∧ x ≠ s_set := by
  have key : ∀ y, y ∈ [s_less, s_eq, s_plus, s_minus, s_star] → ∃ j : Nat, j ≤ 4 ∧ fidx (fun z : ByteArray => y.toList == z.toList) [s_plus, s_minus, s_star, s_less, s_eq] = (j : Int) ∧ opOf y = (j : Int) + 1 ∧ y ≠ s_set := by
    intro y hy
    simp only [toList_beq]
    simp only [List.mem_cons, List.not_mem_nil, or_false] at hy
    rcases hy with rfl | rfl | rfl | rfl | rfl
    · exact ⟨3, by omega, by decide +kernel, by decide +kernel, by decide +kernel⟩
    · exact ⟨4, by omega, by decide +kernel, by decide +kernel, by decide +kernel⟩
    · exact ⟨0, by omega, by decide +kernel, by decide +kernel, by decide +kernel⟩
    · exact ⟨1, by omega, by decide +kernel, by decide +kernel, by decide +kernel⟩
    · exact ⟨2, by omega, by decide +kernel, by decide +kernel, by decide +kernel⟩
  refine key x ?_
  match k, hk with
  | 1, _ => simp only [signsL, List.mem_cons, List.not_mem_nil, or_false] at h ⊢; rcases h with h | h <;> simp [h]
  | 2, _ => simp only [signsL, List.mem_cons, List.not_mem_nil, or_false] at h ⊢; rcases h with h | h <;> simp [h]
  | k + 3, _ => simp only [signsL, List.mem_cons, List.not_mem_nil, or_false] at h ⊢; simp [h]
theorem parseF_told {f : Nat} {nt : NT} {l : List Tk} {x : Res Tm} (he : Ended l) (h : parseF f nt l = some x) : nt.Told l.length x := by
  have e := parseL_eq he h
  obtain ⟨f', _, t⟩ := parseL_some (nt := nt) he
  rw [e] at t
  exact t
def AvP (s g : Nat) : Nat → Prop := fun b => b ≤ s ∨ b = g
theorem hd9_fits {x : Hd} (h : x.Fits) {j : Int} (h0 : 0 ≤ j) (h1 : j ≤ 255) (k : Int) (k0 : 0 ≤ k) (k1 : k ≤ 255) : ({ hd0 k x.pos with op := j } : Hd).Fits :=
  ⟨k0, k1, h0, h1, h.pos0, h.pos1, by simp [hd0], by simp [hd0], by simp [hd0], by simp [hd0], by simp [hd0]⟩
theorem hd0_fits {k p : Int} (k0 : 0 ≤ k) (k1 : k ≤ 255) (p0 : -9223372036854775808 ≤ p) (p1 : p ≤ 9223372036854775807) : (hd0 k p).Fits :=
  ⟨k0, k1, by simp [hd0], by simp [hd0], p0, p1, by simp [hd0], by simp [hd0], by simp [hd0], by simp [hd0], by simp [hd0]⟩
theorem Blk.nez {w : World} {pb g : Nat} {t : TypeId} {cs : Array Value} (h : Blk w g t cs) {w' : World} (hx : ExtX (· = pb) w w') (hne : g ≠ pb) : Blk w' g t cs := h.extx hx hne
set_option maxRecDepth 8000 in
set_option maxHeartbeats 8000000 in
theorem parse_row (k K f : Nat) (hk : k = 2 ∨ k = 3) (eK : ∀ args w, (callFunc K args).run Tryz.prog w = .ok (.enter K args) w) (hF : ∀ g, g ≤ f → Does K (.lvl (k + 1)) g)
    (pb : Nat) (l : List Tk) (r : Res Tm) (w : World) (a : Option Addr) (len cap : Nat) (h1 : len ≤ cap) (h2 : cap ≤ 9223372036854775807) (hr : IsRow w (vstr (signsL k)) a len) (hra : ∀ p, a = some p → p.block ≠ pb) (h : Prs w pb l) (he : Ended l) (hp : parseF (f + 1) (.lvl k) l = some r) :
    Calls Tryz.prog 116 #[.pointer (some ⟨pb, 0, none⟩), .func (.func K) #[.pointer (some ⟨pb, 0, none⟩)] #[], .slice a len cap] w (RetP pb w (IsNew w.heap.size) r) := by
  have hp2 : andThen (parseF f (.lvl (k + 1)) l) (fun a l1 => parseF f (.more k a) l1) = some r := by
    unfold parseF at hp
    rw [if_neg (by omega), if_pos (by omega)] at hp
    exact hp
  have HR := hid hr
  have hlt := h.lt
  cases e1 : parseF f (.lvl (k + 1)) l with
  | none => rw [e1] at hp2; cases hp2
  | some r1 =>
    have KP := hid fun W (x : Ext w W) => hF f (Nat.le_refl _) pb W l r1 (h.ext x) he e1
    rw [e1] at hp2
    cases r1 with
    | error l' =>
      cases hp2
      clear hp e1 h hr hF
      go_enter Tryz.func116, Tryz.ntmps116
      go_wp2_with fail
      refine (KP.out _ (by (exact eX))).mono ?_
      intro e w1 hh
      obtain ⟨rfl, x1⟩ := hh.error
      exact ⟨rfl, ((ExtX.refl w).alloc _).trans x1, rfl⟩
    | ok p =>
      obtain ⟨t0, l0⟩ := p
      rw [andThen_ok] at hp2
      have he0 : Ended l0 := (parseF_told he e1).1
      have HF := hid hF
      have HP2 := hid hp2
      clear hp e1 h hr hF hp2
      go_enter Tryz.func116, Tryz.ntmps116
      go_wp2_with fail
      refine (KP.out _ (by (exact eX))).mono ?_
      intro e w1 hh
      obtain ⟨v, rfl, ⟨aa, na, ca, rfl, hf0, g1, g2, hT0⟩, hp1, x1⟩ := hh.ok
      rw [World.size_alloc] at hT0
      have hZ1 := (Blk.new w 28 #[.int .u8 0, .int .u8 0, .int .i64 0, .int .i64 0, .string ⟨#[]⟩, .string ⟨#[]⟩, .string ⟨#[]⟩, .slice none 0 0]).extx x1 (by omega)
      have hs1 := hZ1.lt
      have y1 : ExtX (· = pb) w w1 := ((ExtX.refl w).alloc _).trans x1
      have HT0 := hid hT0
      have HF0 := hid hf0
      have HP1 := hid hp1
      have HZ1 := hid hZ1
      have Y1 := hid y1
      clear hh hT0 hf0 hp1 hZ1 x1 y1
      go_wp2_with fail
      go_loopg [8] l0.length (fun g u wr => ∃ (m : Nat) (x : Hd) (ks : List Tm) (ak : Option Addr) (nk ck : Nat) (l1 : List Tk), g = l1.length ∧ m ≤ f ∧ parseF m (.more k (.mk x ks)) l1 = some r ∧ Ended l1 ∧ Prs wr pb l1 ∧ Blk wr w1.heap.size 28 #[.int .u8 x.k, .int .u8 x.op, .int .i64 x.pos, .int .i64 x.n, .string x.name, .string x.arg, .string x.exn, .slice ak nk ck] ∧ x.Fits ∧ nk ≤ ck ∧ ck ≤ 9223372036854775807 ∧ IsTmsA (AvP w.heap.size w1.heap.size) wr ks ak nk ∧ Blk wr w.heap.size 28 #[.int .u8 0, .int .u8 0, .int .i64 0, .int .i64 0, .string ⟨#[]⟩, .string ⟨#[]⟩, .string ⟨#[]⟩, .slice none 0 0] ∧ ExtX (· = pb) w wr)
      case atStart =>
        refine ⟨f, t0.head, t0.kids, aa, na, ca, l0, rfl, Nat.le_refl _, by have := HP2.out; cases t0; exact this, he0, by have := HP1.out; (exact prX), Blk.new w1 _ _, HF0.out, g1, g2, (HT0.out.off fun b hb h => by rcases h with h | h <;> omega).ext ((Ext.refl w1).alloc _), HZ1.out.alloc _, Y1.out.alloc _⟩
      case round =>
        obtain ⟨m, x, ks, ak, nk, ck, l1, rfl, hm, hpm, he1, hP, hB, hfx, k1, k2, hTk, hZ, hx⟩ := hrel
        cases m with
        | zero => cases hpm
        | succ m =>
        cases l1 with
        | nil => cases he1
        | cons tk l2 =>
        have hlg := hB.lt
        have hlr := hx.size
        have HP3 := hid hP
        have HTk := hid hTk
        have HFX := hid hfx
        have HZ3 := hid hZ
        have HB3 := hid hB
        have HX3 := hid hx
        have HE1 := hid he1
        have HROW := hid (row_keep hx (fun p e => hra p e) HR.out)
        have KI := hid fun W (y : Ext wr W) => parse_is (signsL k) pb tk l2 W a len cap h1 h2 (HROW.out.ext y) (HP3.out.ext y)
        unfold parseF at hpm
        cases hi : isT (signsL k) (tk :: l2) with
        | false =>
          rw [if_neg (by rw [hi]; simp)] at hpm
          cases hpm
          rw [hi] at KI
          clear hi hP hTk hfx hZ hB hx he1
          go_wp2_with fail
          refine (KI.out _ (by (exact eX))).mono ?_
          rintro e w2 ⟨rfl, x2⟩
          have hB2 := HB3.out.ext x2
          have hZ2 := HZ3.out.ext x2
          obtain ⟨c0, c1, c2, c3, c4, c5, c6, c7⟩ := hB2.eight
          obtain ⟨z0, z1, z2, z3, z4, z5, z6, z7⟩ := hZ2.eight
          obtain ⟨f0, f1, f2, f3, f4, f5, f6, f7⟩ := hZ2.frozen8
          have hlz2 := hZ2.lt
          have HZ9 := hid (hZ2.lay8 (u0 := .int .u8 x.k) (u1 := .int .u8 x.op) (u2 := .int .i64 x.pos) (u3 := .int .i64 x.n) (u4 := .string x.name) (u5 := .string x.arg) (u6 := .string x.exn) (u7 := .slice ak nk ck))
          have X2 := hid x2
          clear hB2 hZ2 x2
          go_wp2_with fail
          have Y2 := HX3.out.then_ X2.out
          refine ret8 HZ9.out (fun ⟨r0, r1, r2, r3, r4, r5, r6, r7⟩ => by simp [results, Tryz.results116, go_sem, r0, r1, r2, r3, r4, r5, r6, r7]) rfl ⟨Y2.set8 (.inr (Nat.le_refl _)), _, rfl, ⟨ak, nk, ck, rfl, HFX.out, k1, k2, ?_⟩, (HP3.out.ext X2.out).set8 hlt⟩
          exact ((HTk.out.ext X2.out).set8 (.inl (Nat.le_refl _))).off fun b _ hb => .inl (Nat.le_of_lt hb)
        | true =>
          rw [if_pos hi] at hpm
          rw [hi] at KI
          have hk6 : tk.k ≠ 6 := isT_kind hi
          obtain ⟨hl2, he2⟩ := he1.tail_ne hk6
          obtain ⟨tk', r', e', -, hsg, -⟩ := isT_ne hi
          cases e'
          obtain ⟨j, hj, hjx, hop, hns⟩ := sign_at (by omega) hsg
          have KT := hid fun W (y : Ext wr W) => parse_take pb tk l2 W (HP3.out.ext y)
          have HJX := hid hjx
          have HPM := hid hpm
          have HOP := hid (And.intro hop hns)
          have HE2 := hid he2
          have HL2 := hid hl2
          clear hi hP hTk hfx hZ hB hx he1 hjx hpm hop hns he2 hl2 hsg
          go_wp2_with fail
          refine (KI.out _ (by (exact eX))).mono ?_
          rintro e w2 ⟨rfl, x2⟩
          go_wp2_with fail
          refine (KT.out _ (by (exact eX))).mono ?_
          rintro e w3 ⟨rfl, x3, hp3⟩
          have y3 : ExtX (· = pb) wr w3 := (ExtX.of x2).trans x3
          have P3 := hp3 HL2.out
          obtain ⟨W4, hW4⟩ : ∃ W4, W4 = w3.alloc (.cells #[.int .u8 tk.k, .string tk.text, .int .i64 tk.pos] 37) := ⟨_, rfl⟩
          have y4 : ExtX (· = pb) wr W4 := by rw [hW4]; exact y3.alloc _
          have P4 : Prs W4 pb l2 := by rw [hW4]; exact P3.alloc _
          have q1 : W4.cell? ⟨w3.heap.size, 1, none⟩ = some (.string tk.text) := by rw [hW4]; exact tkcells_at w3 tk.k tk.text tk.pos _ 1 _ rfl
          have hl4 : w3.heap.size < W4.heap.size := by rw [hW4]; simp
          have hl3 := y3.size
          have hB4 := HB3.out.nez y4 (by omega)
          have hZ4 := HZ3.out.nez y4 (by omega)
          have hT4 := HTk.out.extx (X := (· = pb)) y4 (fun b e => .inl (by have e : b = pb := e; omega))
          have HP4 := hid P4
          have Y4 := hid y4
          have HW4 := hid hW4
          have c0 := fun W (h : ExtX (· = pb) W4 W) => (hB4.nez h (by omega)).eight.1
          have c1 := fun W (h : ExtX (· = pb) W4 W) => (hB4.nez h (by omega)).eight.2.1
          have c2 := fun W (h : ExtX (· = pb) W4 W) => (hB4.nez h (by omega)).eight.2.2.1
          have c3 := fun W (h : ExtX (· = pb) W4 W) => (hB4.nez h (by omega)).eight.2.2.2.1
          have c4 := fun W (h : ExtX (· = pb) W4 W) => (hB4.nez h (by omega)).eight.2.2.2.2.1
          have c5 := fun W (h : ExtX (· = pb) W4 W) => (hB4.nez h (by omega)).eight.2.2.2.2.2.1
          have c6 := fun W (h : ExtX (· = pb) W4 W) => (hB4.nez h (by omega)).eight.2.2.2.2.2.2.1
          have c7 := fun W (h : ExtX (· = pb) W4 W) => (hB4.nez h (by omega)).eight.2.2.2.2.2.2.2
          have n1 := fun W (h : ExtX (· = pb) W4 W) => h.cell (p := ⟨w3.heap.size, 1, none⟩) (show ¬ w3.heap.size = pb by omega) q1
          have HB4 := hid hB4
          have HZ4 := hid hZ4
          have HT4 := hid hT4
          clear hB4 hZ4 hT4 q1 y4 P4 y3 P3 hp3 x3 x2
          cases e5 : parseF m (.lvl (k + 1)) l2 with
          | none => have := HPM.out; rw [List.tail_cons, e5] at this; cases this
          | some r5 =>
            have KP5 := hid fun W (hP : Prs W pb l2) => HF.out m (by omega) pb W l2 r5 hP HE2.out e5
            have hpm := HPM.out
            rw [List.tail_cons, e5] at hpm
            cases r5 with
            | error l' =>
              cases hpm
              clear e5
              go_upto_region 4 with fail
              rw [← hW4]
              clear hW4
              refine wp_region_held_drew (S := fun w' => ExtX (· = pb) W4 w') (by kernel_rfl) (by (try dsimp only); (exact xX)) (fun hHeld => ?_)
              refine tL 0 ?_;try simp only [Act.put,pA,pB,pC]
              refine tL 1 ?_;try simp only [Act.put,pA,pB,pC]
              refine tL 2 ?_;try simp only [Act.put,pA,pB,pC]
              refine tL 3 ?_;try simp only [Act.put,pA,pB,pC]
              refine dK 4 fun K hK => ?_; go_simp; (first | (refine (KP5.out _ (by have := HP4.out; (exact prX))).mono ?_; intro e w5 hh; obtain ⟨rfl, x5⟩ := hh.error; exact ⟨rfl, (HX3.out.trans Y4.out).trans ((by (exact xX) : ExtX (· = pb) W4 _).trans x5), rfl⟩))
            | ok p5 =>
              obtain ⟨⟨xb, kb⟩, l3⟩ := p5
              rw [andThen_ok] at hpm
              have he3 : Ended l3 := (parseF_told HE2.out e5).1
              have hln : l3.length < l2.length := (parseF_told HE2.out e5).2
              have HPM5 := hid hpm
              have HE3 := hid he3
              have hl41 : w1.heap.size < W4.heap.size := HB4.out.lt
              have hl40 : w.heap.size < W4.heap.size := HZ4.out.lt
              have hput : putT tk.text (.mk x ks) (.mk xb kb) = .mk { hd0 9 x.pos with op := (j : Int) + 1 } [.mk x ks, .mk xb kb] := by
                unfold putT
                rw [if_neg HOP.out.2, HOP.out.1]
                rfl
              have HPUT := hid hput
              obtain ⟨k0, k1', k2', k3, k4, k5, k6, k7⟩ := HB4.out.eight
              have n2 := fun W (h : ExtX (fun b => b = pb ∨ b = w1.heap.size) W4 W) => h.cell (p := ⟨w3.heap.size, 1, none⟩) (show ¬ (w3.heap.size = pb ∨ w3.heap.size = w1.heap.size) by omega) (n1 W4 (ExtX.refl _))
              clear e5 hpm he3 hput c0 c1 c2 c3 c4 c5 c6 c7 n1
              go_upto_region 4 with fail
              rw [← hW4]
              clear hW4
              refine wp_region_held_drew (S := fun w' => ExtX (fun b => b = pb ∨ b = w1.heap.size) W4 w') (by kernel_rfl) (by (try dsimp only); (exact xX)) (fun hHeld => ?_)
              refine tL 0 ?_;try simp only [Act.put,pA,pB,pC]
              refine tL 1 ?_;try simp only [Act.put,pA,pB,pC]
              refine tL 3 ?_;try simp only [Act.put,pA,pB,pC]
              refine wpAnyH_ready (rs := [2, 4]) (by kernel_rfl) (by simp) ?_
              refine held_cons 2 rfl (by rfl) (fun K hK => ?_) (held_cons 4 rfl (by rfl) (fun K hK => ?_) AllReadyH.nil)
              go_simp; refine hK.out _ _ (by (try dsimp only); (exact xX)) (fun hHeld => ?_); clear hK K; try simp only [Act.put,pA,pB,pC]
              refine dK 4 fun K hK => ?_; go_simp; (first | (go_at_call 118; refine (KO.out _ (by (exact eX))).mono ?_; rintro e w6 ⟨g6, rfl, h6, x6⟩; have y6 : ExtX (· = pb) W4 w6 := ExtX.then_ y5 ((by (exact eX) : Ext w5 _).trans x6); have z6 := y6.mono (A' := fun b => b = pb ∨ b = w1.heap.size) (fun b h => .inl h); have hB6 := HB4.out.nez y6 (by omega); obtain ⟨d0, d1, d2, d3, d4, d5, d6, d7⟩ := hB6.eight; obtain ⟨f0, f1, f2, f3, f4, f5, f6, f7⟩ := hB6.frozen8; have hl6 := hB6.lt; have HB6 := hid hB6; have H6 := hid h6; have HP6 := hid (hp5.ext ((by (exact eX) : Ext w5 _).trans x6)); clear hB6 h6) | (refine (KP5.out _ (by have := HP4.out; (exact prX))).mono ?_; intro e w5 hh; obtain ⟨v5, rfl, ⟨ab, nb, cb, rfl, fb, b1, b2, hTb⟩, hp5, x5⟩ := hh.ok; have y5 : ExtX (· = pb) W4 w5 := ((ExtX.refl W4).drew).trans x5; have z5 := y5.mono (A' := fun b => b = pb ∨ b = w1.heap.size) (fun b h => .inl h); have hTb2 : IsTmsA (AvP w.heap.size w1.heap.size) w5 kb ab nb := hTb.off (fun b _ hb => by rcases hb with hb | hb <;> (simp; omega)); have hTk5 := HT4.out.extx (X := (· = pb)) y5 (fun b e => .inl (by have e : b = pb := e; omega)); have hs5 := y5.size; obtain ⟨e0, e1, e2, e3, e4, e5, e6, e7⟩ := (HB4.out.nez y5 (by omega)).eight; have KO := hid fun W (y : Ext w5 W) => parse_op (AvP w.heap.size w1.heap.size) tk.text j hj HJX.out x xb ks kb ak ab nk nb ck cb W k1 k2 b1 b2 HFX.out fb (hTk5.ext y) (hTb2.ext y) (fun b hb => by have := y.size; rcases hb with hb | hb <;> omega); clear hTb hTb2 hTk5 hh)); (try (focus (go_wp2_with fail))); refine hK.out _ _ (by (try dsimp only); (exact xX)) (fun hHeld => ?_); clear hK K; try simp only [Act.put,pA,pB,pC]
              refine dK 5 fun K hK => ?_; go_simp; (first | (go_at_call 118; refine (KO.out _ (by (exact eX))).mono ?_; rintro e w6 ⟨g6, rfl, h6, x6⟩; have y6 : ExtX (· = pb) W4 w6 := ExtX.then_ y5 ((by (exact eX) : Ext w5 _).trans x6); have z6 := y6.mono (A' := fun b => b = pb ∨ b = w1.heap.size) (fun b h => .inl h); have hB6 := HB4.out.nez y6 (by omega); obtain ⟨d0, d1, d2, d3, d4, d5, d6, d7⟩ := hB6.eight; obtain ⟨f0, f1, f2, f3, f4, f5, f6, f7⟩ := hB6.frozen8; have hl6 := hB6.lt; have HB6 := hid hB6; have H6 := hid h6; have HP6 := hid (hp5.ext ((by (exact eX) : Ext w5 _).trans x6)); clear hB6 h6) | (refine (KP5.out _ (by have := HP4.out; (exact prX))).mono ?_; intro e w5 hh; obtain ⟨v5, rfl, ⟨ab, nb, cb, rfl, fb, b1, b2, hTb⟩, hp5, x5⟩ := hh.ok; have y5 : ExtX (· = pb) W4 w5 := ((ExtX.refl W4).drew).trans x5; have z5 := y5.mono (A' := fun b => b = pb ∨ b = w1.heap.size) (fun b h => .inl h); have hTb2 : IsTmsA (AvP w.heap.size w1.heap.size) w5 kb ab nb := hTb.off (fun b _ hb => by rcases hb with hb | hb <;> (simp; omega)); have hTk5 := HT4.out.extx (X := (· = pb)) y5 (fun b e => .inl (by have e : b = pb := e; omega)); have hs5 := y5.size; obtain ⟨e0, e1, e2, e3, e4, e5, e6, e7⟩ := (HB4.out.nez y5 (by omega)).eight; have KO := hid fun W (y : Ext w5 W) => parse_op (AvP w.heap.size w1.heap.size) tk.text j hj HJX.out x xb ks kb ak ab nk nb ck cb W k1 k2 b1 b2 HFX.out fb (hTk5.ext y) (hTb2.ext y) (fun b hb => by have := y.size; rcases hb with hb | hb <;> omega); clear hTb hTb2 hTk5 hh)); (try (focus (go_wp2_with fail))); refine hK.out _ _ (by (try dsimp only); (exact xX)) (fun hHeld => ?_); clear hK K; try simp only [Act.put,pA,pB,pC]
              refine dK 6 fun K hK => ?_; go_simp; refine hK.out _ _ (by (try dsimp only); (exact xX)) (fun hHeld => ?_); clear hK K; try simp only [Act.put,pA,pB,pC]
              refine wpAnyH_done (by kernel_rfl) ?_ _
              rotate_left 1
              go_simp; (first | (go_at_call 118; refine (KO.out _ (by (exact eX))).mono ?_; rintro e w6 ⟨g6, rfl, h6, x6⟩; have y6 : ExtX (· = pb) W4 w6 := ExtX.then_ y5 ((by (exact eX) : Ext w5 _).trans x6); have z6 := y6.mono (A' := fun b => b = pb ∨ b = w1.heap.size) (fun b h => .inl h); have hB6 := HB4.out.nez y6 (by omega); obtain ⟨d0, d1, d2, d3, d4, d5, d6, d7⟩ := hB6.eight; obtain ⟨f0, f1, f2, f3, f4, f5, f6, f7⟩ := hB6.frozen8; have hl6 := hB6.lt; have HB6 := hid hB6; have H6 := hid h6; have HP6 := hid (hp5.ext ((by (exact eX) : Ext w5 _).trans x6)); clear hB6 h6) | (refine (KP5.out _ (by have := HP4.out; (exact prX))).mono ?_; intro e w5 hh; obtain ⟨v5, rfl, ⟨ab, nb, cb, rfl, fb, b1, b2, hTb⟩, hp5, x5⟩ := hh.ok; have y5 : ExtX (· = pb) W4 w5 := ((ExtX.refl W4).drew).trans x5; have z5 := y5.mono (A' := fun b => b = pb ∨ b = w1.heap.size) (fun b h => .inl h); have hTb2 : IsTmsA (AvP w.heap.size w1.heap.size) w5 kb ab nb := hTb.off (fun b _ hb => by rcases hb with hb | hb <;> (simp; omega)); have hTk5 := HT4.out.extx (X := (· = pb)) y5 (fun b e => .inl (by have e : b = pb := e; omega)); have hs5 := y5.size; obtain ⟨e0, e1, e2, e3, e4, e5, e6, e7⟩ := (HB4.out.nez y5 (by omega)).eight; have KO := hid fun W (y : Ext w5 W) => parse_op (AvP w.heap.size w1.heap.size) tk.text j hj HJX.out x xb ks kb ak ab nk nb ck cb W k1 k2 b1 b2 HFX.out fb (hTk5.ext y) (hTb2.ext y) (fun b hb => by have := y.size; rcases hb with hb | hb <;> omega); clear hTb hTb2 hTk5 hh)); (try (focus (go_wp2_with fail))); refine hK.out _ _ (by (try dsimp only); (exact xX)) (fun hHeld => ?_); clear hK K; try simp only [Act.put,pA,pB,pC]
              refine dK 2 fun K hK => ?_; go_simp; refine hK.out _ _ (by (try dsimp only); (exact xX)) (fun hHeld => ?_); clear hK K; try simp only [Act.put,pA,pB,pC]
              refine dK 5 fun K hK => ?_; go_simp; (first | (go_at_call 118; refine (KO.out _ (by (exact eX))).mono ?_; rintro e w6 ⟨g6, rfl, h6, x6⟩; have y6 : ExtX (· = pb) W4 w6 := ExtX.then_ y5 ((by (exact eX) : Ext w5 _).trans x6); have z6 := y6.mono (A' := fun b => b = pb ∨ b = w1.heap.size) (fun b h => .inl h); have hB6 := HB4.out.nez y6 (by omega); obtain ⟨d0, d1, d2, d3, d4, d5, d6, d7⟩ := hB6.eight; obtain ⟨f0, f1, f2, f3, f4, f5, f6, f7⟩ := hB6.frozen8; have hl6 := hB6.lt; have HB6 := hid hB6; have H6 := hid h6; have HP6 := hid (hp5.ext ((by (exact eX) : Ext w5 _).trans x6)); clear hB6 h6) | (refine (KP5.out _ (by have := HP4.out; (exact prX))).mono ?_; intro e w5 hh; obtain ⟨v5, rfl, ⟨ab, nb, cb, rfl, fb, b1, b2, hTb⟩, hp5, x5⟩ := hh.ok; have y5 : ExtX (· = pb) W4 w5 := ((ExtX.refl W4).drew).trans x5; have z5 := y5.mono (A' := fun b => b = pb ∨ b = w1.heap.size) (fun b h => .inl h); have hTb2 : IsTmsA (AvP w.heap.size w1.heap.size) w5 kb ab nb := hTb.off (fun b _ hb => by rcases hb with hb | hb <;> (simp; omega)); have hTk5 := HT4.out.extx (X := (· = pb)) y5 (fun b e => .inl (by have e : b = pb := e; omega)); have hs5 := y5.size; obtain ⟨e0, e1, e2, e3, e4, e5, e6, e7⟩ := (HB4.out.nez y5 (by omega)).eight; have KO := hid fun W (y : Ext w5 W) => parse_op (AvP w.heap.size w1.heap.size) tk.text j hj HJX.out x xb ks kb ak ab nk nb ck cb W k1 k2 b1 b2 HFX.out fb (hTk5.ext y) (hTb2.ext y) (fun b hb => by have := y.size; rcases hb with hb | hb <;> omega); clear hTb hTb2 hTk5 hh)); (try (focus (go_wp2_with fail))); refine hK.out _ _ (by (try dsimp only); (exact xX)) (fun hHeld => ?_); clear hK K; try simp only [Act.put,pA,pB,pC]
              refine dK 6 fun K hK => ?_; go_simp; refine hK.out _ _ (by (try dsimp only); (exact xX)) (fun hHeld => ?_); clear hK K; try simp only [Act.put,pA,pB,pC]
              refine wpAnyH_done (by kernel_rfl) ?_ _
              rotate_left 1
              all_goals
                have X9 := HX3.out.trans (Y4.out.trans y6)
                go_wp2_with fail
                go_roundg l3.length
                case rel =>
                  refine ⟨m, { hd0 9 x.pos with op := (j : Int) + 1 }, [.mk x ks, .mk xb kb], some ⟨g6, 0, none⟩, 2, 2, l3, rfl, by omega, by have := HPM5.out; rw [show textT (tk :: l2) = tk.text from rfl, HPUT.out] at this; exact this, HE3.out, HP6.out.set8 (by omega), HB6.out.lay8, hd9_fits HFX.out (by omega) (by omega) 9 (by omega) (by omega), Nat.le_refl _, by omega, H6.out.set8 (.inr rfl), (HZ4.out.nez y6 (by omega)).far8 (by omega), X9.set8 (.inr (by omega))⟩
                case measure => simp only [List.length_cons]; omega
set_option maxRecDepth 8000 in
set_option maxHeartbeats 8000000 in
theorem parse_apply (f : Nat) (hF : ∀ g, g ≤ f → Does 139 .unary g) : Does 131 (.lvl 4) (f + 1) := by
  intro pb w l r h he hp
  have hp2 : andThen (parseF f .unary l) (fun a l1 => parseF f (.args a) l1) = some r := by
    unfold parseF at hp
    rw [if_neg (by omega), if_neg (by omega)] at hp
    exact hp
  have hlt := h.lt
  cases e1 : parseF f .unary l with
  | none => rw [e1] at hp2; cases hp2
  | some r1 =>
    have KP := hid fun W (x : Ext w W) => hF f (Nat.le_refl _) pb W l r1 (h.ext x) he e1
    rw [e1] at hp2
    cases r1 with
    | error l' =>
      cases hp2
      clear hp e1 h hF
      go_enter Tryz.func131, Tryz.ntmps131
      go_wp2_with fail
      refine (KP.out _ (by (exact eX))).mono ?_
      intro e w1 hh
      obtain ⟨rfl, x1⟩ := hh.error
      exact ⟨rfl, ((ExtX.refl w).alloc _).trans x1, rfl⟩
    | ok p =>
      obtain ⟨t0, l0⟩ := p
      rw [andThen_ok] at hp2
      have he0 : Ended l0 := (parseF_told he e1).1
      have HF := hid hF
      have HP2 := hid hp2
      clear hp e1 h hF hp2
      go_enter Tryz.func131, Tryz.ntmps131
      go_wp2_with fail
      refine (KP.out _ (by (exact eX))).mono ?_
      intro e w1 hh
      obtain ⟨v, rfl, ⟨aa, na, ca, rfl, hf0, g1, g2, hT0⟩, hp1, x1⟩ := hh.ok
      rw [World.size_alloc] at hT0
      have hZ1 := (Blk.new w 28 #[.int .u8 0, .int .u8 0, .int .i64 0, .int .i64 0, .string ⟨#[]⟩, .string ⟨#[]⟩, .string ⟨#[]⟩, .slice none 0 0]).extx x1 (by omega)
      have hs1 := hZ1.lt
      have y1 : ExtX (· = pb) w w1 := ((ExtX.refl w).alloc _).trans x1
      have HT0 := hid hT0
      have HF0 := hid hf0
      have HP1 := hid hp1
      have HZ1 := hid hZ1
      have Y1 := hid y1
      clear hh hT0 hf0 hp1 hZ1 x1 y1
      go_wp2_with fail
      go_loopg [6] l0.length (fun g u wr => ∃ (m : Nat) (x : Hd) (ks : List Tm) (ak : Option Addr) (nk ck : Nat) (l1 : List Tk), g = l1.length ∧ m ≤ f ∧ parseF m (.args (.mk x ks)) l1 = some r ∧ Ended l1 ∧ Prs wr pb l1 ∧ Blk wr w1.heap.size 28 #[.int .u8 x.k, .int .u8 x.op, .int .i64 x.pos, .int .i64 x.n, .string x.name, .string x.arg, .string x.exn, .slice ak nk ck] ∧ x.Fits ∧ nk ≤ ck ∧ ck ≤ 9223372036854775807 ∧ IsTmsA (AvP w.heap.size w1.heap.size) wr ks ak nk ∧ Blk wr w.heap.size 28 #[.int .u8 0, .int .u8 0, .int .i64 0, .int .i64 0, .string ⟨#[]⟩, .string ⟨#[]⟩, .string ⟨#[]⟩, .slice none 0 0] ∧ ExtX (· = pb) w wr)
      case atStart =>
        refine ⟨f, t0.head, t0.kids, aa, na, ca, l0, rfl, Nat.le_refl _, by have := HP2.out; cases t0; exact this, he0, by have := HP1.out; (exact prX), Blk.new w1 _ _, HF0.out, g1, g2, (HT0.out.off fun b hb h => by rcases h with h | h <;> omega).ext ((Ext.refl w1).alloc _), HZ1.out.alloc _, Y1.out.alloc _⟩
      case round =>
        obtain ⟨m, x, ks, ak, nk, ck, l1, rfl, hm, hpm, he1, hP, hB, hfx, k1, k2, hTk, hZ, hx⟩ := hrel
        cases m with
        | zero => cases hpm
        | succ m =>
        cases l1 with
        | nil => cases he1
        | cons tk l2 =>
        have hlg := hB.lt
        have hlr := hx.size
        have HP3 := hid hP
        have HTk := hid hTk
        have HFX := hid hfx
        have HZ3 := hid hZ
        have HB3 := hid hB
        have HX3 := hid hx
        have HE1 := hid he1
        have KI := hid fun W (y : Ext wr W) => parse_begins pb tk l2 W (HP3.out.ext y)
        unfold parseF at hpm
        cases hi : beginsT (tk :: l2) with
        | false =>
          rw [if_neg (by rw [hi]; simp)] at hpm
          cases hpm
          rw [hi] at KI
          clear hi hP hTk hfx hZ hB hx he1
          go_wp2_with fail
          refine (KI.out _ (by (exact eX))).mono ?_
          rintro e w2 ⟨rfl, x2⟩
          have hB2 := HB3.out.ext x2
          have hZ2 := HZ3.out.ext x2
          obtain ⟨c0, c1, c2, c3, c4, c5, c6, c7⟩ := hB2.eight
          obtain ⟨z0, z1, z2, z3, z4, z5, z6, z7⟩ := hZ2.eight
          obtain ⟨f0, f1, f2, f3, f4, f5, f6, f7⟩ := hZ2.frozen8
          have hlz2 := hZ2.lt
          have HZ9 := hid (hZ2.lay8 (u0 := .int .u8 x.k) (u1 := .int .u8 x.op) (u2 := .int .i64 x.pos) (u3 := .int .i64 x.n) (u4 := .string x.name) (u5 := .string x.arg) (u6 := .string x.exn) (u7 := .slice ak nk ck))
          have X2 := hid x2
          clear hB2 hZ2 x2
          go_wp2_with fail
          have Y2 := HX3.out.then_ X2.out
          refine ret8 HZ9.out (fun ⟨r0, r1, r2, r3, r4, r5, r6, r7⟩ => by simp [results, Tryz.results131, go_sem, r0, r1, r2, r3, r4, r5, r6, r7]) rfl ⟨Y2.set8 (.inr (Nat.le_refl _)), _, rfl, ⟨ak, nk, ck, rfl, HFX.out, k1, k2, ?_⟩, (HP3.out.ext X2.out).set8 hlt⟩
          exact ((HTk.out.ext X2.out).set8 (.inl (Nat.le_refl _))).off fun b _ hb => .inl (Nat.le_of_lt hb)
        | true =>
          rw [if_pos hi] at hpm
          rw [hi] at KI
          have HPM := hid hpm
          clear hi hP hTk hfx hZ hB hx he1 hpm
          go_wp2_with fail
          refine (KI.out _ (by (exact eX))).mono ?_
          rintro e W4 ⟨rfl, x2⟩
          have y4 : ExtX (· = pb) wr W4 := ExtX.of x2
          have P4 : Prs W4 pb (tk :: l2) := HP3.out.ext x2
          have hB4 := HB3.out.ext x2
          have hZ4 := HZ3.out.ext x2
          have hT4 := HTk.out.ext x2
          have HP4 := hid P4
          have Y4 := hid y4
          have hl41 : w1.heap.size < W4.heap.size := hB4.lt
          have hl40 : w.heap.size < W4.heap.size := hZ4.lt
          have HB4 := hid hB4
          have HZ4 := hid hZ4
          have HT4 := hid hT4
          clear hB4 hZ4 hT4 y4 P4 x2
          cases e5 : parseF m .unary (tk :: l2) with
          | none => have := HPM.out; rw [e5] at this; cases this
          | some r5 =>
            have KP5 := hid fun W (hP : Prs W pb (tk :: l2)) => HF.out m (by omega) pb W (tk :: l2) r5 hP HE1.out e5
            have hpm := HPM.out
            rw [e5] at hpm
            cases r5 with
            | error l' =>
              cases hpm
              have c0 := fun W (h : ExtX (· = pb) W4 W) => (HB4.out.nez h (by omega)).eight.1
              have c1 := fun W (h : ExtX (· = pb) W4 W) => (HB4.out.nez h (by omega)).eight.2.1
              have c2 := fun W (h : ExtX (· = pb) W4 W) => (HB4.out.nez h (by omega)).eight.2.2.1
              have c3 := fun W (h : ExtX (· = pb) W4 W) => (HB4.out.nez h (by omega)).eight.2.2.2.1
              have c4 := fun W (h : ExtX (· = pb) W4 W) => (HB4.out.nez h (by omega)).eight.2.2.2.2.1
              have c5 := fun W (h : ExtX (· = pb) W4 W) => (HB4.out.nez h (by omega)).eight.2.2.2.2.2.1
              have c6 := fun W (h : ExtX (· = pb) W4 W) => (HB4.out.nez h (by omega)).eight.2.2.2.2.2.2.1
              have c7 := fun W (h : ExtX (· = pb) W4 W) => (HB4.out.nez h (by omega)).eight.2.2.2.2.2.2.2
              clear e5
              go_upto_region 3 with fail
              refine wp_region_held_drew (S := fun w' => ExtX (· = pb) W4 w') (by kernel_rfl) (by (try dsimp only); (exact xX)) (fun hHeld => ?_)
              refine tL 0 ?_;try simp only [Act.put,pA,pB,pC]
              refine tL 1 ?_;try simp only [Act.put,pA,pB,pC]
              refine tL 2 ?_;try simp only [Act.put,pA,pB,pC]
              refine tL 3 ?_;try simp only [Act.put,pA,pB,pC]
              refine tL 4 ?_;try simp only [Act.put,pA,pB,pC]
              refine dK 5 fun K hK => ?_; go_simp; (first | (refine (KP5.out _ (by have := HP4.out; (exact prX))).mono ?_; intro e w5 hh; obtain ⟨rfl, x5⟩ := hh.error; exact ⟨rfl, (HX3.out.trans Y4.out).trans ((by (exact xX) : ExtX (· = pb) W4 _).trans x5), rfl⟩))
            | ok p5 =>
              obtain ⟨⟨xb, kb⟩, l3⟩ := p5
              rw [andThen_ok] at hpm
              have he3 : Ended l3 := (parseF_told HE1.out e5).1
              have hln : l3.length < (tk :: l2).length := (parseF_told HE1.out e5).2
              have HPM5 := hid hpm
              have HE3 := hid he3
              obtain ⟨k0, k1', k2', k3, k4, k5, k6, k7⟩ := HB4.out.eight
              clear e5 hpm he3
              go_upto_region 3 with fail
              refine wp_region_held_drew (S := fun w' => ExtX (fun b => b = pb ∨ b = w1.heap.size) W4 w') (by kernel_rfl) (by (try dsimp only); (exact xX)) (fun hHeld => ?_)
              refine tL 0 ?_;try simp only [Act.put,pA,pB,pC]
              refine tL 1 ?_;try simp only [Act.put,pA,pB,pC]
              refine tL 4 ?_;try simp only [Act.put,pA,pB,pC]
              refine wpAnyH_ready (rs := [2, 3, 5]) (by kernel_rfl) (by simp) ?_
              refine held_cons 2 rfl (by rfl) (fun K hK => ?_) (held_cons 3 rfl (by rfl) (fun K hK => ?_) (held_cons 5 rfl (by rfl) (fun K hK => ?_) AllReadyH.nil))
              go_simp; refine hK.out _ _ (by (try dsimp only); (exact xX)) (fun hHeld => ?_); clear hK K; try simp only [Act.put,pA,pB,pC]
              refine wpAnyH_ready (rs := [3, 5]) (by kernel_rfl) (by simp) ?_
              refine held_cons 3 rfl (by rfl) (fun K hK => ?_) (held_cons 5 rfl (by rfl) (fun K hK => ?_) AllReadyH.nil)
              go_simp; refine hK.out _ _ (by (try dsimp only); (exact xX)) (fun hHeld => ?_); clear hK K; try simp only [Act.put,pA,pB,pC]
              refine dK 5 fun K hK => ?_; go_simp; (first | (refine (KP5.out _ (by have := HP4.out; (exact prX))).mono ?_; intro e w5 hh; obtain ⟨v5, rfl, ⟨ab, nb, cb, rfl, fb, b1, b2, hTb⟩, hp5, x5⟩ := hh.ok; have y5 : ExtX (· = pb) W4 w5 := ((ExtX.refl W4).drew).trans x5; have z5 := y5.mono (A' := fun b => b = pb ∨ b = w1.heap.size) (fun b h => .inl h); have hTb2 : IsTmsA (AvP w.heap.size w1.heap.size) w5 kb ab nb := hTb.off (fun b _ hb => by rcases hb with hb | hb <;> (simp; omega)); have HTk5 := hid (HT4.out.extx (X := (· = pb)) y5 (fun b e => .inl (by have e : b = pb := e; omega))); have HTb2 := hid hTb2; have hs5 := y5.size; have hl51 : w1.heap.size < w5.heap.size := (by omega); obtain ⟨e0, e1, e2, e3, e4, e5, e6, e7⟩ := (HB4.out.nez y5 (by omega)).eight; clear hTb hTb2 hh)); (try (focus (go_wp2_with fail))); refine hK.out _ _ (by (try dsimp only); (exact xX)) (fun hHeld => ?_); clear hK K; try simp only [Act.put,pA,pB,pC]
              refine dK 6 fun K hK => ?_; go_simp; refine hK.out _ _ (by (try dsimp only); (exact xX)) (fun hHeld => ?_); clear hK K; try simp only [Act.put,pA,pB,pC]
              refine dK 7 fun K hK => ?_; go_simp; (first | (go_at_call 58; refine (parse_node _ _ _ _ _ _).mono ?_; rintro e w6 ⟨rfl, x6⟩; have hG6 := blk_top x6; have y56 : Ext w5 w6 := (by (exact eX) : Ext w5 _).trans x6; have y6 : ExtX (· = pb) W4 w6 := ExtX.then_ y5 y56; have z6 := y6.mono (A' := fun b => b = pb ∨ b = w1.heap.size) (fun b h => .inl h); have hB6 := HB4.out.nez y6 (by omega); obtain ⟨d0, d1, d2, d3, d4, d5, d6, d7⟩ := hB6.eight; obtain ⟨f0, f1, f2, f3, f4, f5, f6, f7⟩ := hB6.frozen8; have hl6 := hB6.lt; have HB6 := hid hB6; have hrow6 := pair_row (A := AvP w.heap.size w1.heap.size) y56 k1 k2 b1 b2 HFX.out fb HTk5.out HTb2.out (fun hb => by rcases hb with hb | hb <;> omega) hG6; have H6 := hid hrow6; have HP6 := hid (hp5.ext y56); clear hB6 hG6 hrow6) | (refine (KP5.out _ (by have := HP4.out; (exact prX))).mono ?_; intro e w5 hh; obtain ⟨v5, rfl, ⟨ab, nb, cb, rfl, fb, b1, b2, hTb⟩, hp5, x5⟩ := hh.ok; have y5 : ExtX (· = pb) W4 w5 := ((ExtX.refl W4).drew).trans x5; have z5 := y5.mono (A' := fun b => b = pb ∨ b = w1.heap.size) (fun b h => .inl h); have hTb2 : IsTmsA (AvP w.heap.size w1.heap.size) w5 kb ab nb := hTb.off (fun b _ hb => by rcases hb with hb | hb <;> (simp; omega)); have HTk5 := hid (HT4.out.extx (X := (· = pb)) y5 (fun b e => .inl (by have e : b = pb := e; omega))); have HTb2 := hid hTb2; have hs5 := y5.size; have hl51 : w1.heap.size < w5.heap.size := (by omega); obtain ⟨e0, e1, e2, e3, e4, e5, e6, e7⟩ := (HB4.out.nez y5 (by omega)).eight; clear hTb hTb2 hh)); (try (focus (go_wp2_with fail))); refine hK.out _ _ (by (try dsimp only); (exact xX)) (fun hHeld => ?_); clear hK K; try simp only [Act.put,pA,pB,pC]
              refine dK 8 fun K hK => ?_; go_simp; refine hK.out _ _ (by (try dsimp only); (exact xX)) (fun hHeld => ?_); clear hK K; try simp only [Act.put,pA,pB,pC]
              refine wpAnyH_done (by kernel_rfl) ?_ _
              rotate_left 1
              go_simp; (first | (refine (KP5.out _ (by have := HP4.out; (exact prX))).mono ?_; intro e w5 hh; obtain ⟨v5, rfl, ⟨ab, nb, cb, rfl, fb, b1, b2, hTb⟩, hp5, x5⟩ := hh.ok; have y5 : ExtX (· = pb) W4 w5 := ((ExtX.refl W4).drew).trans x5; have z5 := y5.mono (A' := fun b => b = pb ∨ b = w1.heap.size) (fun b h => .inl h); have hTb2 : IsTmsA (AvP w.heap.size w1.heap.size) w5 kb ab nb := hTb.off (fun b _ hb => by rcases hb with hb | hb <;> (simp; omega)); have HTk5 := hid (HT4.out.extx (X := (· = pb)) y5 (fun b e => .inl (by have e : b = pb := e; omega))); have HTb2 := hid hTb2; have hs5 := y5.size; have hl51 : w1.heap.size < w5.heap.size := (by omega); obtain ⟨e0, e1, e2, e3, e4, e5, e6, e7⟩ := (HB4.out.nez y5 (by omega)).eight; clear hTb hTb2 hh)); (try (focus (go_wp2_with fail))); refine hK.out _ _ (by (try dsimp only); (exact xX)) (fun hHeld => ?_); clear hK K; try simp only [Act.put,pA,pB,pC]
              refine dK 3 fun K hK => ?_; go_simp; refine hK.out _ _ (by (try dsimp only); (exact xX)) (fun hHeld => ?_); clear hK K; try simp only [Act.put,pA,pB,pC]
              refine dK 6 fun K hK => ?_; go_simp; refine hK.out _ _ (by (try dsimp only); (exact xX)) (fun hHeld => ?_); clear hK K; try simp only [Act.put,pA,pB,pC]
              refine dK 7 fun K hK => ?_; go_simp; (first | (go_at_call 58; refine (parse_node _ _ _ _ _ _).mono ?_; rintro e w6 ⟨rfl, x6⟩; have hG6 := blk_top x6; have y56 : Ext w5 w6 := (by (exact eX) : Ext w5 _).trans x6; have y6 : ExtX (· = pb) W4 w6 := ExtX.then_ y5 y56; have z6 := y6.mono (A' := fun b => b = pb ∨ b = w1.heap.size) (fun b h => .inl h); have hB6 := HB4.out.nez y6 (by omega); obtain ⟨d0, d1, d2, d3, d4, d5, d6, d7⟩ := hB6.eight; obtain ⟨f0, f1, f2, f3, f4, f5, f6, f7⟩ := hB6.frozen8; have hl6 := hB6.lt; have HB6 := hid hB6; have hrow6 := pair_row (A := AvP w.heap.size w1.heap.size) y56 k1 k2 b1 b2 HFX.out fb HTk5.out HTb2.out (fun hb => by rcases hb with hb | hb <;> omega) hG6; have H6 := hid hrow6; have HP6 := hid (hp5.ext y56); clear hB6 hG6 hrow6) | (refine (KP5.out _ (by have := HP4.out; (exact prX))).mono ?_; intro e w5 hh; obtain ⟨v5, rfl, ⟨ab, nb, cb, rfl, fb, b1, b2, hTb⟩, hp5, x5⟩ := hh.ok; have y5 : ExtX (· = pb) W4 w5 := ((ExtX.refl W4).drew).trans x5; have z5 := y5.mono (A' := fun b => b = pb ∨ b = w1.heap.size) (fun b h => .inl h); have hTb2 : IsTmsA (AvP w.heap.size w1.heap.size) w5 kb ab nb := hTb.off (fun b _ hb => by rcases hb with hb | hb <;> (simp; omega)); have HTk5 := hid (HT4.out.extx (X := (· = pb)) y5 (fun b e => .inl (by have e : b = pb := e; omega))); have HTb2 := hid hTb2; have hs5 := y5.size; have hl51 : w1.heap.size < w5.heap.size := (by omega); obtain ⟨e0, e1, e2, e3, e4, e5, e6, e7⟩ := (HB4.out.nez y5 (by omega)).eight; clear hTb hTb2 hh)); (try (focus (go_wp2_with fail))); refine hK.out _ _ (by (try dsimp only); (exact xX)) (fun hHeld => ?_); clear hK K; try simp only [Act.put,pA,pB,pC]
              refine dK 8 fun K hK => ?_; go_simp; refine hK.out _ _ (by (try dsimp only); (exact xX)) (fun hHeld => ?_); clear hK K; try simp only [Act.put,pA,pB,pC]
              refine wpAnyH_done (by kernel_rfl) ?_ _
              rotate_left 1
              go_simp; refine hK.out _ _ (by (try dsimp only); (exact xX)) (fun hHeld => ?_); clear hK K; try simp only [Act.put,pA,pB,pC]
              refine wpAnyH_ready (rs := [2, 5]) (by kernel_rfl) (by simp) ?_
              refine held_cons 2 rfl (by rfl) (fun K hK => ?_) (held_cons 5 rfl (by rfl) (fun K hK => ?_) AllReadyH.nil)
              go_simp; refine hK.out _ _ (by (try dsimp only); (exact xX)) (fun hHeld => ?_); clear hK K; try simp only [Act.put,pA,pB,pC]
              refine dK 5 fun K hK => ?_; go_simp; (first | (refine (KP5.out _ (by have := HP4.out; (exact prX))).mono ?_; intro e w5 hh; obtain ⟨v5, rfl, ⟨ab, nb, cb, rfl, fb, b1, b2, hTb⟩, hp5, x5⟩ := hh.ok; have y5 : ExtX (· = pb) W4 w5 := ((ExtX.refl W4).drew).trans x5; have z5 := y5.mono (A' := fun b => b = pb ∨ b = w1.heap.size) (fun b h => .inl h); have hTb2 : IsTmsA (AvP w.heap.size w1.heap.size) w5 kb ab nb := hTb.off (fun b _ hb => by rcases hb with hb | hb <;> (simp; omega)); have HTk5 := hid (HT4.out.extx (X := (· = pb)) y5 (fun b e => .inl (by have e : b = pb := e; omega))); have HTb2 := hid hTb2; have hs5 := y5.size; have hl51 : w1.heap.size < w5.heap.size := (by omega); obtain ⟨e0, e1, e2, e3, e4, e5, e6, e7⟩ := (HB4.out.nez y5 (by omega)).eight; clear hTb hTb2 hh)); (try (focus (go_wp2_with fail))); refine hK.out _ _ (by (try dsimp only); (exact xX)) (fun hHeld => ?_); clear hK K; try simp only [Act.put,pA,pB,pC]
              refine dK 6 fun K hK => ?_; go_simp; refine hK.out _ _ (by (try dsimp only); (exact xX)) (fun hHeld => ?_); clear hK K; try simp only [Act.put,pA,pB,pC]
              refine dK 7 fun K hK => ?_; go_simp; (first | (go_at_call 58; refine (parse_node _ _ _ _ _ _).mono ?_; rintro e w6 ⟨rfl, x6⟩; have hG6 := blk_top x6; have y56 : Ext w5 w6 := (by (exact eX) : Ext w5 _).trans x6; have y6 : ExtX (· = pb) W4 w6 := ExtX.then_ y5 y56; have z6 := y6.mono (A' := fun b => b = pb ∨ b = w1.heap.size) (fun b h => .inl h); have hB6 := HB4.out.nez y6 (by omega); obtain ⟨d0, d1, d2, d3, d4, d5, d6, d7⟩ := hB6.eight; obtain ⟨f0, f1, f2, f3, f4, f5, f6, f7⟩ := hB6.frozen8; have hl6 := hB6.lt; have HB6 := hid hB6; have hrow6 := pair_row (A := AvP w.heap.size w1.heap.size) y56 k1 k2 b1 b2 HFX.out fb HTk5.out HTb2.out (fun hb => by rcases hb with hb | hb <;> omega) hG6; have H6 := hid hrow6; have HP6 := hid (hp5.ext y56); clear hB6 hG6 hrow6) | (refine (KP5.out _ (by have := HP4.out; (exact prX))).mono ?_; intro e w5 hh; obtain ⟨v5, rfl, ⟨ab, nb, cb, rfl, fb, b1, b2, hTb⟩, hp5, x5⟩ := hh.ok; have y5 : ExtX (· = pb) W4 w5 := ((ExtX.refl W4).drew).trans x5; have z5 := y5.mono (A' := fun b => b = pb ∨ b = w1.heap.size) (fun b h => .inl h); have hTb2 : IsTmsA (AvP w.heap.size w1.heap.size) w5 kb ab nb := hTb.off (fun b _ hb => by rcases hb with hb | hb <;> (simp; omega)); have HTk5 := hid (HT4.out.extx (X := (· = pb)) y5 (fun b e => .inl (by have e : b = pb := e; omega))); have HTb2 := hid hTb2; have hs5 := y5.size; have hl51 : w1.heap.size < w5.heap.size := (by omega); obtain ⟨e0, e1, e2, e3, e4, e5, e6, e7⟩ := (HB4.out.nez y5 (by omega)).eight; clear hTb hTb2 hh)); (try (focus (go_wp2_with fail))); refine hK.out _ _ (by (try dsimp only); (exact xX)) (fun hHeld => ?_); clear hK K; try simp only [Act.put,pA,pB,pC]
              refine dK 8 fun K hK => ?_; go_simp; refine hK.out _ _ (by (try dsimp only); (exact xX)) (fun hHeld => ?_); clear hK K; try simp only [Act.put,pA,pB,pC]
              refine wpAnyH_done (by kernel_rfl) ?_ _
              rotate_left 1
              go_simp; (first | (refine (KP5.out _ (by have := HP4.out; (exact prX))).mono ?_; intro e w5 hh; obtain ⟨v5, rfl, ⟨ab, nb, cb, rfl, fb, b1, b2, hTb⟩, hp5, x5⟩ := hh.ok; have y5 : ExtX (· = pb) W4 w5 := ((ExtX.refl W4).drew).trans x5; have z5 := y5.mono (A' := fun b => b = pb ∨ b = w1.heap.size) (fun b h => .inl h); have hTb2 : IsTmsA (AvP w.heap.size w1.heap.size) w5 kb ab nb := hTb.off (fun b _ hb => by rcases hb with hb | hb <;> (simp; omega)); have HTk5 := hid (HT4.out.extx (X := (· = pb)) y5 (fun b e => .inl (by have e : b = pb := e; omega))); have HTb2 := hid hTb2; have hs5 := y5.size; have hl51 : w1.heap.size < w5.heap.size := (by omega); obtain ⟨e0, e1, e2, e3, e4, e5, e6, e7⟩ := (HB4.out.nez y5 (by omega)).eight; clear hTb hTb2 hh)); (try (focus (go_wp2_with fail))); refine hK.out _ _ (by (try dsimp only); (exact xX)) (fun hHeld => ?_); clear hK K; try simp only [Act.put,pA,pB,pC]
              refine wpAnyH_ready (rs := [2, 6]) (by kernel_rfl) (by simp) ?_
              refine held_cons 2 rfl (by rfl) (fun K hK => ?_) (held_cons 6 rfl (by rfl) (fun K hK => ?_) AllReadyH.nil)
              go_simp; refine hK.out _ _ (by (try dsimp only); (exact xX)) (fun hHeld => ?_); clear hK K; try simp only [Act.put,pA,pB,pC]
              refine dK 6 fun K hK => ?_; go_simp; refine hK.out _ _ (by (try dsimp only); (exact xX)) (fun hHeld => ?_); clear hK K; try simp only [Act.put,pA,pB,pC]
              refine dK 7 fun K hK => ?_; go_simp; (first | (go_at_call 58; refine (parse_node _ _ _ _ _ _).mono ?_; rintro e w6 ⟨rfl, x6⟩; have hG6 := blk_top x6; have y56 : Ext w5 w6 := (by (exact eX) : Ext w5 _).trans x6; have y6 : ExtX (· = pb) W4 w6 := ExtX.then_ y5 y56; have z6 := y6.mono (A' := fun b => b = pb ∨ b = w1.heap.size) (fun b h => .inl h); have hB6 := HB4.out.nez y6 (by omega); obtain ⟨d0, d1, d2, d3, d4, d5, d6, d7⟩ := hB6.eight; obtain ⟨f0, f1, f2, f3, f4, f5, f6, f7⟩ := hB6.frozen8; have hl6 := hB6.lt; have HB6 := hid hB6; have hrow6 := pair_row (A := AvP w.heap.size w1.heap.size) y56 k1 k2 b1 b2 HFX.out fb HTk5.out HTb2.out (fun hb => by rcases hb with hb | hb <;> omega) hG6; have H6 := hid hrow6; have HP6 := hid (hp5.ext y56); clear hB6 hG6 hrow6) | (refine (KP5.out _ (by have := HP4.out; (exact prX))).mono ?_; intro e w5 hh; obtain ⟨v5, rfl, ⟨ab, nb, cb, rfl, fb, b1, b2, hTb⟩, hp5, x5⟩ := hh.ok; have y5 : ExtX (· = pb) W4 w5 := ((ExtX.refl W4).drew).trans x5; have z5 := y5.mono (A' := fun b => b = pb ∨ b = w1.heap.size) (fun b h => .inl h); have hTb2 : IsTmsA (AvP w.heap.size w1.heap.size) w5 kb ab nb := hTb.off (fun b _ hb => by rcases hb with hb | hb <;> (simp; omega)); have HTk5 := hid (HT4.out.extx (X := (· = pb)) y5 (fun b e => .inl (by have e : b = pb := e; omega))); have HTb2 := hid hTb2; have hs5 := y5.size; have hl51 : w1.heap.size < w5.heap.size := (by omega); obtain ⟨e0, e1, e2, e3, e4, e5, e6, e7⟩ := (HB4.out.nez y5 (by omega)).eight; clear hTb hTb2 hh)); (try (focus (go_wp2_with fail))); refine hK.out _ _ (by (try dsimp only); (exact xX)) (fun hHeld => ?_); clear hK K; try simp only [Act.put,pA,pB,pC]
              refine dK 8 fun K hK => ?_; go_simp; refine hK.out _ _ (by (try dsimp only); (exact xX)) (fun hHeld => ?_); clear hK K; try simp only [Act.put,pA,pB,pC]
              refine wpAnyH_done (by kernel_rfl) ?_ _
              rotate_left 1
              go_simp; refine hK.out _ _ (by (try dsimp only); (exact xX)) (fun hHeld => ?_); clear hK K; try simp only [Act.put,pA,pB,pC]
              refine dK 2 fun K hK => ?_; go_simp; refine hK.out _ _ (by (try dsimp only); (exact xX)) (fun hHeld => ?_); clear hK K; try simp only [Act.put,pA,pB,pC]
              refine dK 7 fun K hK => ?_; go_simp; (first | (go_at_call 58; refine (parse_node _ _ _ _ _ _).mono ?_; rintro e w6 ⟨rfl, x6⟩; have hG6 := blk_top x6; have y56 : Ext w5 w6 := (by (exact eX) : Ext w5 _).trans x6; have y6 : ExtX (· = pb) W4 w6 := ExtX.then_ y5 y56; have z6 := y6.mono (A' := fun b => b = pb ∨ b = w1.heap.size) (fun b h => .inl h); have hB6 := HB4.out.nez y6 (by omega); obtain ⟨d0, d1, d2, d3, d4, d5, d6, d7⟩ := hB6.eight; obtain ⟨f0, f1, f2, f3, f4, f5, f6, f7⟩ := hB6.frozen8; have hl6 := hB6.lt; have HB6 := hid hB6; have hrow6 := pair_row (A := AvP w.heap.size w1.heap.size) y56 k1 k2 b1 b2 HFX.out fb HTk5.out HTb2.out (fun hb => by rcases hb with hb | hb <;> omega) hG6; have H6 := hid hrow6; have HP6 := hid (hp5.ext y56); clear hB6 hG6 hrow6) | (refine (KP5.out _ (by have := HP4.out; (exact prX))).mono ?_; intro e w5 hh; obtain ⟨v5, rfl, ⟨ab, nb, cb, rfl, fb, b1, b2, hTb⟩, hp5, x5⟩ := hh.ok; have y5 : ExtX (· = pb) W4 w5 := ((ExtX.refl W4).drew).trans x5; have z5 := y5.mono (A' := fun b => b = pb ∨ b = w1.heap.size) (fun b h => .inl h); have hTb2 : IsTmsA (AvP w.heap.size w1.heap.size) w5 kb ab nb := hTb.off (fun b _ hb => by rcases hb with hb | hb <;> (simp; omega)); have HTk5 := hid (HT4.out.extx (X := (· = pb)) y5 (fun b e => .inl (by have e : b = pb := e; omega))); have HTb2 := hid hTb2; have hs5 := y5.size; have hl51 : w1.heap.size < w5.heap.size := (by omega); obtain ⟨e0, e1, e2, e3, e4, e5, e6, e7⟩ := (HB4.out.nez y5 (by omega)).eight; clear hTb hTb2 hh)); (try (focus (go_wp2_with fail))); refine hK.out _ _ (by (try dsimp only); (exact xX)) (fun hHeld => ?_); clear hK K; try simp only [Act.put,pA,pB,pC]
              refine dK 8 fun K hK => ?_; go_simp; refine hK.out _ _ (by (try dsimp only); (exact xX)) (fun hHeld => ?_); clear hK K; try simp only [Act.put,pA,pB,pC]
              refine wpAnyH_done (by kernel_rfl) ?_ _
              rotate_left 1
              go_simp; (first | (refine (KP5.out _ (by have := HP4.out; (exact prX))).mono ?_; intro e w5 hh; obtain ⟨v5, rfl, ⟨ab, nb, cb, rfl, fb, b1, b2, hTb⟩, hp5, x5⟩ := hh.ok; have y5 : ExtX (· = pb) W4 w5 := ((ExtX.refl W4).drew).trans x5; have z5 := y5.mono (A' := fun b => b = pb ∨ b = w1.heap.size) (fun b h => .inl h); have hTb2 : IsTmsA (AvP w.heap.size w1.heap.size) w5 kb ab nb := hTb.off (fun b _ hb => by rcases hb with hb | hb <;> (simp; omega)); have HTk5 := hid (HT4.out.extx (X := (· = pb)) y5 (fun b e => .inl (by have e : b = pb := e; omega))); have HTb2 := hid hTb2; have hs5 := y5.size; have hl51 : w1.heap.size < w5.heap.size := (by omega); obtain ⟨e0, e1, e2, e3, e4, e5, e6, e7⟩ := (HB4.out.nez y5 (by omega)).eight; clear hTb hTb2 hh)); (try (focus (go_wp2_with fail))); refine hK.out _ _ (by (try dsimp only); (exact xX)) (fun hHeld => ?_); clear hK K; try simp only [Act.put,pA,pB,pC]
              refine wpAnyH_ready (rs := [2, 3]) (by kernel_rfl) (by simp) ?_
              refine held_cons 2 rfl (by rfl) (fun K hK => ?_) (held_cons 3 rfl (by rfl) (fun K hK => ?_) AllReadyH.nil)
              go_simp; refine hK.out _ _ (by (try dsimp only); (exact xX)) (fun hHeld => ?_); clear hK K; try simp only [Act.put,pA,pB,pC]
              refine dK 3 fun K hK => ?_; go_simp; refine hK.out _ _ (by (try dsimp only); (exact xX)) (fun hHeld => ?_); clear hK K; try simp only [Act.put,pA,pB,pC]
              refine dK 6 fun K hK => ?_; go_simp; refine hK.out _ _ (by (try dsimp only); (exact xX)) (fun hHeld => ?_); clear hK K; try simp only [Act.put,pA,pB,pC]
              refine dK 7 fun K hK => ?_; go_simp; (first | (go_at_call 58; refine (parse_node _ _ _ _ _ _).mono ?_; rintro e w6 ⟨rfl, x6⟩; have hG6 := blk_top x6; have y56 : Ext w5 w6 := (by (exact eX) : Ext w5 _).trans x6; have y6 : ExtX (· = pb) W4 w6 := ExtX.then_ y5 y56; have z6 := y6.mono (A' := fun b => b = pb ∨ b = w1.heap.size) (fun b h => .inl h); have hB6 := HB4.out.nez y6 (by omega); obtain ⟨d0, d1, d2, d3, d4, d5, d6, d7⟩ := hB6.eight; obtain ⟨f0, f1, f2, f3, f4, f5, f6, f7⟩ := hB6.frozen8; have hl6 := hB6.lt; have HB6 := hid hB6; have hrow6 := pair_row (A := AvP w.heap.size w1.heap.size) y56 k1 k2 b1 b2 HFX.out fb HTk5.out HTb2.out (fun hb => by rcases hb with hb | hb <;> omega) hG6; have H6 := hid hrow6; have HP6 := hid (hp5.ext y56); clear hB6 hG6 hrow6) | (refine (KP5.out _ (by have := HP4.out; (exact prX))).mono ?_; intro e w5 hh; obtain ⟨v5, rfl, ⟨ab, nb, cb, rfl, fb, b1, b2, hTb⟩, hp5, x5⟩ := hh.ok; have y5 : ExtX (· = pb) W4 w5 := ((ExtX.refl W4).drew).trans x5; have z5 := y5.mono (A' := fun b => b = pb ∨ b = w1.heap.size) (fun b h => .inl h); have hTb2 : IsTmsA (AvP w.heap.size w1.heap.size) w5 kb ab nb := hTb.off (fun b _ hb => by rcases hb with hb | hb <;> (simp; omega)); have HTk5 := hid (HT4.out.extx (X := (· = pb)) y5 (fun b e => .inl (by have e : b = pb := e; omega))); have HTb2 := hid hTb2; have hs5 := y5.size; have hl51 : w1.heap.size < w5.heap.size := (by omega); obtain ⟨e0, e1, e2, e3, e4, e5, e6, e7⟩ := (HB4.out.nez y5 (by omega)).eight; clear hTb hTb2 hh)); (try (focus (go_wp2_with fail))); refine hK.out _ _ (by (try dsimp only); (exact xX)) (fun hHeld => ?_); clear hK K; try simp only [Act.put,pA,pB,pC]
              refine dK 8 fun K hK => ?_; go_simp; refine hK.out _ _ (by (try dsimp only); (exact xX)) (fun hHeld => ?_); clear hK K; try simp only [Act.put,pA,pB,pC]
              refine wpAnyH_done (by kernel_rfl) ?_ _
              rotate_left 1
              go_simp; refine hK.out _ _ (by (try dsimp only); (exact xX)) (fun hHeld => ?_); clear hK K; try simp only [Act.put,pA,pB,pC]
              refine wpAnyH_ready (rs := [2, 6]) (by kernel_rfl) (by simp) ?_
              refine held_cons 2 rfl (by rfl) (fun K hK => ?_) (held_cons 6 rfl (by rfl) (fun K hK => ?_) AllReadyH.nil)
              go_simp; refine hK.out _ _ (by (try dsimp only); (exact xX)) (fun hHeld => ?_); clear hK K; try simp only [Act.put,pA,pB,pC]
              refine dK 6 fun K hK => ?_; go_simp; refine hK.out _ _ (by (try dsimp only); (exact xX)) (fun hHeld => ?_); clear hK K; try simp only [Act.put,pA,pB,pC]
              refine dK 7 fun K hK => ?_; go_simp; (first | (go_at_call 58; refine (parse_node _ _ _ _ _ _).mono ?_; rintro e w6 ⟨rfl, x6⟩; have hG6 := blk_top x6; have y56 : Ext w5 w6 := (by (exact eX) : Ext w5 _).trans x6; have y6 : ExtX (· = pb) W4 w6 := ExtX.then_ y5 y56; have z6 := y6.mono (A' := fun b => b = pb ∨ b = w1.heap.size) (fun b h => .inl h); have hB6 := HB4.out.nez y6 (by omega); obtain ⟨d0, d1, d2, d3, d4, d5, d6, d7⟩ := hB6.eight; obtain ⟨f0, f1, f2, f3, f4, f5, f6, f7⟩ := hB6.frozen8; have hl6 := hB6.lt; have HB6 := hid hB6; have hrow6 := pair_row (A := AvP w.heap.size w1.heap.size) y56 k1 k2 b1 b2 HFX.out fb HTk5.out HTb2.out (fun hb => by rcases hb with hb | hb <;> omega) hG6; have H6 := hid hrow6; have HP6 := hid (hp5.ext y56); clear hB6 hG6 hrow6) | (refine (KP5.out _ (by have := HP4.out; (exact prX))).mono ?_; intro e w5 hh; obtain ⟨v5, rfl, ⟨ab, nb, cb, rfl, fb, b1, b2, hTb⟩, hp5, x5⟩ := hh.ok; have y5 : ExtX (· = pb) W4 w5 := ((ExtX.refl W4).drew).trans x5; have z5 := y5.mono (A' := fun b => b = pb ∨ b = w1.heap.size) (fun b h => .inl h); have hTb2 : IsTmsA (AvP w.heap.size w1.heap.size) w5 kb ab nb := hTb.off (fun b _ hb => by rcases hb with hb | hb <;> (simp; omega)); have HTk5 := hid (HT4.out.extx (X := (· = pb)) y5 (fun b e => .inl (by have e : b = pb := e; omega))); have HTb2 := hid hTb2; have hs5 := y5.size; have hl51 : w1.heap.size < w5.heap.size := (by omega); obtain ⟨e0, e1, e2, e3, e4, e5, e6, e7⟩ := (HB4.out.nez y5 (by omega)).eight; clear hTb hTb2 hh)); (try (focus (go_wp2_with fail))); refine hK.out _ _ (by (try dsimp only); (exact xX)) (fun hHeld => ?_); clear hK K; try simp only [Act.put,pA,pB,pC]
              refine dK 8 fun K hK => ?_; go_simp; refine hK.out _ _ (by (try dsimp only); (exact xX)) (fun hHeld => ?_); clear hK K; try simp only [Act.put,pA,pB,pC]
              refine wpAnyH_done (by kernel_rfl) ?_ _
              rotate_left 1
              go_simp; refine hK.out _ _ (by (try dsimp only); (exact xX)) (fun hHeld => ?_); clear hK K; try simp only [Act.put,pA,pB,pC]
              refine dK 2 fun K hK => ?_; go_simp; refine hK.out _ _ (by (try dsimp only); (exact xX)) (fun hHeld => ?_); clear hK K; try simp only [Act.put,pA,pB,pC]
              refine dK 7 fun K hK => ?_; go_simp; (first | (go_at_call 58; refine (parse_node _ _ _ _ _ _).mono ?_; rintro e w6 ⟨rfl, x6⟩; have hG6 := blk_top x6; have y56 : Ext w5 w6 := (by (exact eX) : Ext w5 _).trans x6; have y6 : ExtX (· = pb) W4 w6 := ExtX.then_ y5 y56; have z6 := y6.mono (A' := fun b => b = pb ∨ b = w1.heap.size) (fun b h => .inl h); have hB6 := HB4.out.nez y6 (by omega); obtain ⟨d0, d1, d2, d3, d4, d5, d6, d7⟩ := hB6.eight; obtain ⟨f0, f1, f2, f3, f4, f5, f6, f7⟩ := hB6.frozen8; have hl6 := hB6.lt; have HB6 := hid hB6; have hrow6 := pair_row (A := AvP w.heap.size w1.heap.size) y56 k1 k2 b1 b2 HFX.out fb HTk5.out HTb2.out (fun hb => by rcases hb with hb | hb <;> omega) hG6; have H6 := hid hrow6; have HP6 := hid (hp5.ext y56); clear hB6 hG6 hrow6) | (refine (KP5.out _ (by have := HP4.out; (exact prX))).mono ?_; intro e w5 hh; obtain ⟨v5, rfl, ⟨ab, nb, cb, rfl, fb, b1, b2, hTb⟩, hp5, x5⟩ := hh.ok; have y5 : ExtX (· = pb) W4 w5 := ((ExtX.refl W4).drew).trans x5; have z5 := y5.mono (A' := fun b => b = pb ∨ b = w1.heap.size) (fun b h => .inl h); have hTb2 : IsTmsA (AvP w.heap.size w1.heap.size) w5 kb ab nb := hTb.off (fun b _ hb => by rcases hb with hb | hb <;> (simp; omega)); have HTk5 := hid (HT4.out.extx (X := (· = pb)) y5 (fun b e => .inl (by have e : b = pb := e; omega))); have HTb2 := hid hTb2; have hs5 := y5.size; have hl51 : w1.heap.size < w5.heap.size := (by omega); obtain ⟨e0, e1, e2, e3, e4, e5, e6, e7⟩ := (HB4.out.nez y5 (by omega)).eight; clear hTb hTb2 hh)); (try (focus (go_wp2_with fail))); refine hK.out _ _ (by (try dsimp only); (exact xX)) (fun hHeld => ?_); clear hK K; try simp only [Act.put,pA,pB,pC]
              refine dK 8 fun K hK => ?_; go_simp; refine hK.out _ _ (by (try dsimp only); (exact xX)) (fun hHeld => ?_); clear hK K; try simp only [Act.put,pA,pB,pC]
              refine wpAnyH_done (by kernel_rfl) ?_ _
              rotate_left 1
              all_goals
                have X9 := HX3.out.trans (Y4.out.trans y6)
                go_wp2_with fail
                go_roundg l3.length
                case rel =>
                  exact ⟨m, hd0 10 x.pos, [.mk x ks, .mk xb kb], some ⟨w5.heap.size, 0, none⟩, 2, 2, l3, rfl, by omega, HPM5.out, HE3.out, HP6.out.set8 (by omega), HB6.out.lay8, hd0_fits (by omega) (by omega) HFX.out.pos0 HFX.out.pos1, Nat.le_refl _, by omega, H6.out.set8 (.inr rfl), (HZ4.out.nez y6 (by omega)).far8 (by omega), X9.set8 (.inr (by omega))⟩
                case measure => exact hln
end Go.Proofs.YtaioeailgknfjaaGreatDoor

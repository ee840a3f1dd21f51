/- Part 18 of the proof: Parse7; no condition of ours. -/
import Derived.Test.YtaioeailgknfjaaGreatDoorPkp17
set_option linter.unusedVariables false
set_option linter.unusedSimpArgs false
namespace Go.Proofs.YtaioeailgknfjaaGreatDoor
open Go.Lib (hid)
open Go Go.RowKit Go.Sort
theorem ek_apply : ∀ args w, (callFunc 131 args).run Tryz.prog w = .ok (.enter 131 args) w := fun args w => by kernel_rfl
theorem ek_prod : ∀ args w, (callFunc 117 args).run Tryz.prog w = .ok (.enter 117 args) w := fun args w => by kernel_rfl
structure Laid8 (pb : Nat) (w w1 : World) (x : Hd) (ks : List Tm) (a : Option Addr) (n c : Nat) (l : List Tk) : Prop where
  z : Blk w1 w.heap.size 28 #[.int .u8 0, .int .u8 0, .int .i64 0, .int .i64 0, .string ⟨#[]⟩, .string ⟨#[]⟩, .string ⟨#[]⟩, .slice none 0 0]
  fits : x.Fits
  le : n ≤ c
  cap : c ≤ 9223372036854775807
  tms : IsTmsA (fun b => b ≤ w.heap.size) w1 ks a n
  prs : Prs w1 pb l
  ext : ExtX (· = pb) w w1
  lt : pb < w.heap.size
theorem Laid8.ret {pb : Nat} {w w1 : World} {x : Hd} {ks : List Tm} {a : Option Addr} {n c : Nat} {l : List Tk} (h : Laid8 pb w w1 x ks a n c l) {fn : Func} {act : Act}
    (hr : ∀ w2 : World, w2.cell? ⟨w.heap.size, 0, none⟩ = some (.int .u8 x.k) → w2.cell? ⟨w.heap.size, 1, none⟩ = some (.int .u8 x.op) → w2.cell? ⟨w.heap.size, 2, none⟩ = some (.int .i64 x.pos) → w2.cell? ⟨w.heap.size, 3, none⟩ = some (.int .i64 x.n) → w2.cell? ⟨w.heap.size, 4, none⟩ = some (.string x.name) → w2.cell? ⟨w.heap.size, 5, none⟩ = some (.string x.arg) → w2.cell? ⟨w.heap.size, 6, none⟩ = some (.string x.exn) → w2.cell? ⟨w.heap.size, 7, none⟩ = some (.slice a n c) →
      (results fn act.tmps).run Tryz.prog w2 = .ok (.agg #[.int .u8 x.k, .int .u8 x.op, .int .i64 x.pos, .int .i64 x.n, .string x.name, .string x.arg, .string x.exn, .slice a n c]) w2) (hd : act.defers = []) :
    bodyPost Tryz.prog fn (RetP pb w (IsNew w.heap.size) (.ok (.mk x ks, l))) .ret act ((((((((w1.setCell ⟨w.heap.size, 0, none⟩ (.int .u8 x.k)).setCell ⟨w.heap.size, 1, none⟩ (.int .u8 x.op)).setCell ⟨w.heap.size, 2, none⟩ (.int .i64 x.pos)).setCell ⟨w.heap.size, 3, none⟩ (.int .i64 x.n)).setCell ⟨w.heap.size, 4, none⟩ (.string x.name)).setCell ⟨w.heap.size, 5, none⟩ (.string x.arg)).setCell ⟨w.heap.size, 6, none⟩ (.string x.exn)).setCell ⟨w.heap.size, 7, none⟩ (.slice a n c)) := by
  have hZ9 := h.z.lay8 (u0 := .int .u8 x.k) (u1 := .int .u8 x.op) (u2 := .int .i64 x.pos) (u3 := .int .i64 x.n) (u4 := .string x.name) (u5 := .string x.arg) (u6 := .string x.exn) (u7 := .slice a n c)
  refine ret8 hZ9 (fun ⟨r0, r1, r2, r3, r4, r5, r6, r7⟩ => hr _ r0 r1 r2 r3 r4 r5 r6 r7) hd ⟨h.ext.set8 (.inr (Nat.le_refl _)), _, rfl, ⟨a, n, c, rfl, h.fits, h.le, h.cap, ?_⟩, h.prs.set8 h.lt⟩
  exact (h.tms.set8 (Nat.le_refl _)).off fun b _ hb => Nat.le_of_lt hb
set_option maxRecDepth 8000 in
set_option maxHeartbeats 8000000 in
theorem parse_prod (f : Nat) (hF : ∀ g, g ≤ f → Does 131 (.lvl 4) g) : Does 117 (.lvl 3) (f + 1) := by
  intro pb w l r h he hp
  have hlt := h.lt
  have KR := hid fun W (a : Option Addr) (x : Ext w W) (hr : IsRow W (vstr [s_star]) a 1) (hra : ∀ p, a = some p → p.block ≠ pb) => parse_row 3 131 f (.inr rfl) ek_apply hF pb l r W a 1 1 (Nat.le_refl _) (by omega) hr hra (h.ext x) he hp
  clear hp h hF
  go_enter Tryz.func117, Tryz.ntmps117
  go_wp2_with fail
  refine (KR.out _ _ (by (exact eX)) (row_new1 w _ _ (vstr [s_star])) (by rintro p ⟨rfl⟩; show w.heap.size + 1 ≠ pb; omega)).mono ?_
  intro e w1 hh
  have y0 : Ext w ((w.alloc (.cells #[.int .u8 0, .int .u8 0, .int .i64 0, .int .i64 0, .string ⟨#[]⟩, .string ⟨#[]⟩, .string ⟨#[]⟩, .slice none 0 0] 28)).alloc (.cells #[.string ⟨#[42]⟩] 9)) := ((Ext.refl w).alloc _).alloc _
  have hZ0 := (Blk.new w 28 #[.int .u8 0, .int .u8 0, .int .i64 0, .int .i64 0, .string ⟨#[]⟩, .string ⟨#[]⟩, .string ⟨#[]⟩, .slice none 0 0]).alloc (.cells #[.string ⟨#[42]⟩] 9)
  cases r with
  | error l' =>
    obtain ⟨rfl, x1⟩ := hh.error
    exact ⟨rfl, (ExtX.of y0).trans x1, rfl⟩
  | ok p =>
    obtain ⟨⟨x, ks⟩, l1⟩ := p
    obtain ⟨v, rfl, ⟨a, n, c, rfl, hf, g1, g2, hT⟩, hp1, x1⟩ := hh.ok
    have hZ1 := hZ0.extx x1 (by omega)
    obtain ⟨z0, z1, z2, z3, z4, z5, z6, z7⟩ := hZ1.eight
    obtain ⟨f0, f1, f2, f3, f4, f5, f6, f7⟩ := hZ1.frozen8
    have hlz := hZ1.lt
    have HL : Hid (Laid8 pb w w1 x ks a n c l1) := hid ⟨hZ1, hf, g1, g2, hT.off fun b _ hb => (by have hb : b ≤ w.heap.size := hb; simp; omega), hp1, (ExtX.of y0).trans x1, hlt⟩
    clear hh hZ0 hZ1 hf hT hp1 x1 y0
    go_wp2_with fail
    exact HL.out.ret (fun w2 r0 r1 r2 r3 r4 r5 r6 r7 => by simp [results, Tryz.results117, go_sem, r0, r1, r2, r3, r4, r5, r6, r7]) rfl
theorem parse_sum (f : Nat) (hF : ∀ g, g < f → Does 117 (.lvl 3) g) (pb : Nat) (l : List Tk) (r : Res Tm) (w : World) (a : Option Addr) (hr : IsRow w (vstr [s_plus, s_minus]) a 2) (hra : ∀ p, a = some p → p.block ≠ pb) (h : Prs w pb l) (he : Ended l) (hp : parseF f (.lvl 2) l = some r) :
    Calls Tryz.prog 116 #[.pointer (some ⟨pb, 0, none⟩), .func (.func 117) #[.pointer (some ⟨pb, 0, none⟩)] #[], .slice a 2 2] w (RetP pb w (IsNew w.heap.size) r) := by
  cases f with
  | zero => cases hp
  | succ f => exact parse_row 2 117 f (.inl rfl) ek_prod (fun g hg => hF g (by omega)) pb l r w a 2 2 (Nat.le_refl _) (by omega) hr hra h he hp
theorem row_two1 (w : World) (o : Obj) (x y : ByteArray) (t : TypeId) : IsRow ((w.alloc o).alloc (.cells #[.string x, .string y] t)) (vstr [x, y]) (some ⟨w.heap.size + 1, 0, none⟩) 2 := row_new1 w o t (vstr [x, y])
theorem row_two0 (w : World) (x y : ByteArray) (t : TypeId) : IsRow (w.alloc (.cells #[.string x, .string y] t)) (vstr [x, y]) (some ⟨w.heap.size, 0, none⟩) 2 := IsRow.new w t (vstr [x, y])
set_option maxRecDepth 8000 in
set_option maxHeartbeats 8000000 in
theorem parse_rel (f : Nat) (hF : ∀ g, g < f → Does 117 (.lvl 3) g) : Does 92 (.lvl 1) (f + 1) := by
  intro pb w l r h he hp
  have hlt := h.lt
  have hp2 : andThen (parseF f (.lvl 2) l) (fun a l1 => if isT [s_less, s_eq] l1 then andThen (parseF f (.lvl 2) l1.tail) fun b l2 => some (.ok (putT (textT l1) a b, l2)) else some (.ok (a, l1))) = some r := by
    unfold parseF at hp
    rw [if_pos (by omega)] at hp
    exact hp
  have y0 : Ext w ((w.alloc (.cells #[.int .u8 0, .int .u8 0, .int .i64 0, .int .i64 0, .string ⟨#[]⟩, .string ⟨#[]⟩, .string ⟨#[]⟩, .slice none 0 0] 28)).alloc (.cells #[.string ⟨#[43]⟩, .string ⟨#[45]⟩] 9)) := ((Ext.refl w).alloc _).alloc _
  have hZ0 := (Blk.new w 28 #[.int .u8 0, .int .u8 0, .int .i64 0, .int .i64 0, .string ⟨#[]⟩, .string ⟨#[]⟩, .string ⟨#[]⟩, .slice none 0 0]).alloc (.cells #[.string ⟨#[43]⟩, .string ⟨#[45]⟩] 9)
  cases e1 : parseF f (.lvl 2) l with
  | none => rw [e1] at hp2; cases hp2
  | some r1 =>
    have KP := hid fun W (a : Option Addr) (x : Ext w W) (hr : IsRow W (vstr [s_plus, s_minus]) a 2) (hra : ∀ p, a = some p → p.block ≠ pb) => parse_sum f hF pb l r1 W a hr hra (h.ext x) he e1
    rw [e1] at hp2
    have Y0 := hid y0
    have HZ0 := hid hZ0
    have HF := hid hF
    cases r1 with
    | error l' =>
      cases hp2
      clear hp e1 h hF y0 hZ0
      go_enter Tryz.func92, Tryz.ntmps92
      go_wp2_with fail
      refine (KP.out _ _ Y0.out (row_two1 w _ _ _ _) (by rintro p ⟨rfl⟩; show w.heap.size + 1 ≠ pb; omega)).mono ?_
      intro e w1 hh
      obtain ⟨rfl, x1⟩ := hh.error
      exact ⟨rfl, (ExtX.of Y0.out).trans x1, rfl⟩
    | ok p =>
      obtain ⟨⟨x, ks⟩, l1⟩ := p
      rw [andThen_ok] at hp2
      have he1 : Ended l1 := (parseF_told he e1).1
      have HP2 := hid hp2
      have HE1 := hid he1
      clear hp e1 h hF hp2 y0 hZ0 he1
      go_enter Tryz.func92, Tryz.ntmps92
      go_wp2_with fail
      refine (KP.out _ _ Y0.out (row_two1 w _ _ _ _) (by rintro p ⟨rfl⟩; show w.heap.size + 1 ≠ pb; omega)).mono ?_
      intro e w1 hh
      obtain ⟨v, rfl, ⟨ak, nk, ck, rfl, hfx, k1, k2, hTk0⟩, hP1, x1⟩ := hh.ok
      have hTk : IsTmsA (fun b => b ≤ w.heap.size) w1 ks ak nk := hTk0.off fun b _ hb => (by have hb : b ≤ w.heap.size := hb; simp; omega)
      have hZ1 := HZ0.out.extx x1 (by omega)
      have hs1 := hZ1.lt
      have y1 : ExtX (· = pb) w w1 := (ExtX.of Y0.out).trans x1
      have hpl := hP1.lt
      cases l1 with
      | nil => cases HE1.out
      | cons tk l2 =>
      have KI := hid fun W (y : Ext w1 W) (a : Option Addr) (hr : IsRow W (vstr [s_less, s_eq]) a 2) => parse_is [s_less, s_eq] pb tk l2 W a 2 2 (Nat.le_refl _) (by omega) hr (hP1.ext y)
      have HTk := hid hTk
      have HFX := hid hfx
      have HP1 := hid hP1
      have HZ1 := hid hZ1
      have Y1 := hid y1
      clear hh hTk0 hTk hfx hP1 hZ1 x1 y1
      have hp2 := HP2.out
      cases hi : isT [s_less, s_eq] (tk :: l2) with
      | false =>
        rw [if_neg (by rw [hi]; simp)] at hp2
        cases hp2
        rw [hi] at KI
        clear hi
        go_wp2_with fail
        refine (KI.out _ (by (exact eX)) _ (row_two1 w1 _ _ _ _)).mono ?_
        rintro e w2 ⟨rfl, x2⟩
        have y2 : Ext w1 w2 := by (exact eX)
        have hT2 := blk_under x2
        have hZ2 := HZ1.out.ext y2
        obtain ⟨c0, c1, c2, c3, c4, c5, c6, c7⟩ := hT2.eight
        obtain ⟨z0, z1, z2, z3, z4, z5, z6, z7⟩ := hZ2.eight
        obtain ⟨f0, f1, f2, f3, f4, f5, f6, f7⟩ := hZ2.frozen8
        have hlz := hZ2.lt
        have HL : Hid (Laid8 pb w w2 x ks ak nk ck (tk :: l2)) := hid ⟨hZ2, HFX.out, k1, k2, HTk.out.ext y2, HP1.out.ext y2, Y1.out.then_ y2, hlt⟩
        clear hT2 hZ2 y2 x2
        go_wp2_with fail
        exact HL.out.ret (fun w2 r0 r1 r2 r3 r4 r5 r6 r7 => by simp [results, Tryz.results92, go_sem, r0, r1, r2, r3, r4, r5, r6, r7]) rfl
      | true =>
        rw [if_pos hi] at hp2
        rw [hi] at KI
        have hk6 : tk.k ≠ 6 := isT_kind hi
        obtain ⟨hl2, he2⟩ := HE1.out.tail_ne hk6
        obtain ⟨tk', r', e', -, hsg, -⟩ := isT_ne hi
        cases e'
        obtain ⟨j, hj, hjx, hop, hns⟩ := sign_at (k := 1) (by omega) hsg
        have KT := hid fun W (y : Ext w1 W) => parse_take pb tk l2 W (HP1.out.ext y)
        have HJX := hid hjx
        have HPM := hid hp2
        have HOP := hid (And.intro hop hns)
        have HE2 := hid he2
        have HL2 := hid hl2
        clear hi hjx hp2 hop hns he2 hl2 hsg
        go_wp2_with fail
        refine (KI.out _ (by (exact eX)) _ (row_two1 w1 _ _ _ _)).mono ?_
        rintro e w2 ⟨rfl, x2⟩
        have y2 : Ext w1 w2 := by (exact eX)
        have hT2 := blk_under x2
        go_wp2_with fail
        refine (KT.out _ y2).mono ?_
        rintro e w3 ⟨rfl, x3, hp3⟩
        have y3 : ExtX (· = pb) w1 w3 := (ExtX.of y2).trans x3
        have P3 := hp3 HL2.out
        obtain ⟨W4, hW4⟩ : ∃ W4, W4 = w3.alloc (.cells #[.int .u8 tk.k, .string tk.text, .int .i64 tk.pos] 37) := ⟨_, rfl⟩
        have y4 : ExtX (· = pb) w1 W4 := by rw [hW4]; exact y3.alloc _
        have y24 : ExtX (· = pb) w2 W4 := by rw [hW4]; exact x3.alloc _
        have P4 : Prs W4 pb l2 := by rw [hW4]; exact P3.alloc _
        have q1 : W4.cell? ⟨w3.heap.size, 1, none⟩ = some (.string tk.text) := by rw [hW4]; exact tkcells_at w3 tk.k tk.text tk.pos _ 1 _ rfl
        have hl4 : w3.heap.size < W4.heap.size := by rw [hW4]; simp
        have hl2' := hT2.lt
        have hl3 := x3.size
        have hB4 := hT2.nez y24 (by omega)
        have hZ4 := HZ1.out.nez y4 (by omega)
        have hT4 := HTk.out.extx (X := (· = pb)) y4 (fun b e => by have e : b = pb := e; show b ≤ w.heap.size; omega)
        have hl41 : w1.heap.size < W4.heap.size := hB4.lt
        have hl40 : w.heap.size < W4.heap.size := hZ4.lt
        have HP4 := hid P4
        have Y4 := hid y4
        have n1 := fun W (h : ExtX (fun b => b = pb ∨ b = w.heap.size) W4 W) => h.cell (p := ⟨w3.heap.size, 1, none⟩) (show ¬ (w3.heap.size = pb ∨ w3.heap.size = w.heap.size) by omega) q1
        have hne1 : ¬ (w1.heap.size = pb ∨ w1.heap.size = w.heap.size) := by omega
        have c0 := fun W (h : ExtX (fun b => b = pb ∨ b = w.heap.size) W4 W) => (hB4.extx h hne1).eight.1
        have c1 := fun W (h : ExtX (fun b => b = pb ∨ b = w.heap.size) W4 W) => (hB4.extx h hne1).eight.2.1
        have c2 := fun W (h : ExtX (fun b => b = pb ∨ b = w.heap.size) W4 W) => (hB4.extx h hne1).eight.2.2.1
        have c3 := fun W (h : ExtX (fun b => b = pb ∨ b = w.heap.size) W4 W) => (hB4.extx h hne1).eight.2.2.2.1
        have c4 := fun W (h : ExtX (fun b => b = pb ∨ b = w.heap.size) W4 W) => (hB4.extx h hne1).eight.2.2.2.2.1
        have c5 := fun W (h : ExtX (fun b => b = pb ∨ b = w.heap.size) W4 W) => (hB4.extx h hne1).eight.2.2.2.2.2.1
        have c6 := fun W (h : ExtX (fun b => b = pb ∨ b = w.heap.size) W4 W) => (hB4.extx h hne1).eight.2.2.2.2.2.2.1
        have c7 := fun W (h : ExtX (fun b => b = pb ∨ b = w.heap.size) W4 W) => (hB4.extx h hne1).eight.2.2.2.2.2.2.2
        have HZ4 := hid hZ4
        have HT4 := hid hT4
        have HROW4 := hid (row_two0 W4 s_plus s_minus 9)
        clear hZ4 hT4 q1 y4 P4 y3 P3 hp3 x3 x2 y2 hT2 y24
        cases e5 : parseF f (.lvl 2) l2 with
        | none => have := HPM.out; rw [List.tail_cons, e5] at this; cases this
        | some r5 =>
          have KP5 := hid fun W (a : Option Addr) (hP : Prs W pb l2) (hr : IsRow W (vstr [s_plus, s_minus]) a 2) (hra : ∀ p, a = some p → p.block ≠ pb) => parse_sum f HF.out pb l2 r5 W a hr hra hP HE2.out e5
          have hpm := HPM.out
          rw [List.tail_cons, e5] at hpm
          cases r5 with
          | error l' =>
            cases hpm
            clear e5
            go_upto_region 5 with fail
            rw [← hW4]
            clear hW4
            refine wp_region_held_drew (S := fun w' => ExtX (fun b => b = pb ∨ b = w.heap.size) W4 w') (by kernel_rfl) (by (try dsimp only); (exact xX)) (fun hHeld => ?_)
            refine tL 0 ?_;try simp only [Act.put,pA,pB,pC]
            refine tL 1 ?_;try simp only [Act.put,pA,pB,pC]
            refine tL 2 ?_;try simp only [Act.put,pA,pB,pC]
            refine tL 3 ?_;try simp only [Act.put,pA,pB,pC]
            refine tL 4 ?_;try simp only [Act.put,pA,pB,pC]
            refine wpAnyH_ready (rs := [5, 6]) (by kernel_rfl) (by simp) ?_
            refine held_cons 5 rfl (by rfl) (fun K hK => ?_) (held_cons 6 rfl (by rfl) (fun K hK => ?_) AllReadyH.nil)
            go_simp; refine hK.out _ _ (by (try dsimp only); (exact xX)) (fun hHeld => ?_); clear hK K; try simp only [Act.put,pA,pB,pC]
            refine dK 6 fun K hK => ?_; go_simp; refine hK.out _ _ (by (try dsimp only); (exact xX)) (fun hHeld => ?_); clear hK K; try simp only [Act.put,pA,pB,pC]
            refine dK 7 fun K hK => ?_; go_simp; (first | (refine (KP5.out _ _ (by have := HP4.out; (exact prX)) (HROW4.out.ext (Ext.refl _).drew) (by rintro p ⟨rfl⟩; show W4.heap.size ≠ pb; omega)).mono ?_; intro e w5 hh; obtain ⟨rfl, x5⟩ := hh.error; exact ⟨rfl, (Y1.out.trans Y4.out).trans ((((ExtX.refl W4).alloc _).drew : ExtX (· = pb) W4 _).trans x5), rfl⟩))
            rotate_left 0
            go_simp; refine hK.out _ _ (by (try dsimp only); (exact xX)) (fun hHeld => ?_); clear hK K; try simp only [Act.put,pA,pB,pC]
            refine dK 5 fun K hK => ?_; go_simp; refine hK.out _ _ (by (try dsimp only); (exact xX)) (fun hHeld => ?_); clear hK K; try simp only [Act.put,pA,pB,pC]
            refine dK 7 fun K hK => ?_; go_simp; (first | (refine (KP5.out _ _ (by have := HP4.out; (exact prX)) (HROW4.out.ext (Ext.refl _).drew) (by rintro p ⟨rfl⟩; show W4.heap.size ≠ pb; omega)).mono ?_; intro e w5 hh; obtain ⟨rfl, x5⟩ := hh.error; exact ⟨rfl, (Y1.out.trans Y4.out).trans ((((ExtX.refl W4).alloc _).drew : ExtX (· = pb) W4 _).trans x5), rfl⟩))
            rotate_left 0
          | ok p5 =>
            obtain ⟨⟨xb, kb⟩, l3⟩ := p5
            rw [andThen_ok] at hpm
            have hput : putT tk.text (.mk x ks) (.mk xb kb) = .mk { hd0 9 x.pos with op := (j : Int) + 1 } [.mk x ks, .mk xb kb] := by
              unfold putT
              rw [if_neg HOP.out.2, HOP.out.1]
              rfl
            have hr : r = .ok (.mk { hd0 9 x.pos with op := (j : Int) + 1 } [.mk x ks, .mk xb kb], l3) := by
              rw [show textT (tk :: l2) = tk.text from rfl, hput] at hpm
              cases hpm
              rfl
            subst hr
            clear e5 hpm hput
            go_upto_region 5 with fail
            rw [← hW4]
            clear hW4
            refine wp_region_held_drew (S := fun w' => ExtX (fun b => b = pb ∨ b = w.heap.size) W4 w') (by kernel_rfl) (by (try dsimp only); (exact xX)) (fun hHeld => ?_)
            refine tL 0 ?_;try simp only [Act.put,pA,pB,pC]
            refine tL 1 ?_;try simp only [Act.put,pA,pB,pC]
            refine tL 2 ?_;try simp only [Act.put,pA,pB,pC]
            refine tL 3 ?_;try simp only [Act.put,pA,pB,pC]
            refine tL 4 ?_;try simp only [Act.put,pA,pB,pC]
            refine wpAnyH_ready (rs := [5, 6]) (by kernel_rfl) (by simp) ?_
            refine held_cons 5 rfl (by rfl) (fun K hK => ?_) (held_cons 6 rfl (by rfl) (fun K hK => ?_) AllReadyH.nil)
            go_simp; refine hK.out _ _ (by (try dsimp only); (exact xX)) (fun hHeld => ?_); clear hK K; try simp only [Act.put,pA,pB,pC]
            refine dK 6 fun K hK => ?_; go_simp; refine hK.out _ _ (by (try dsimp only); (exact xX)) (fun hHeld => ?_); clear hK K; try simp only [Act.put,pA,pB,pC]
            refine dK 7 fun K hK => ?_; go_simp; (first | (refine (KP5.out _ _ (by have := HP4.out; (exact prX)) (HROW4.out.ext (Ext.refl _).drew) (by rintro p ⟨rfl⟩; show W4.heap.size ≠ pb; omega)).mono ?_; intro e w5 hh; obtain ⟨v5, rfl, ⟨ab, nb, cb, rfl, fb, b1, b2, hTb⟩, hp5, x5⟩ := hh.ok; have y5 : ExtX (· = pb) W4 w5 := (((ExtX.refl W4).alloc _).drew).trans x5; have z5 := y5.mono (A' := fun b => b = pb ∨ b = w.heap.size) (fun b h => .inl h); have hTb2 : IsTmsA (fun b => b ≤ w.heap.size) w5 kb ab nb := hTb.off (fun b _ hb => (by have hb : b ≤ w.heap.size := hb; simp; omega)); have hTk5 := HT4.out.extx (X := (· = pb)) y5 (fun b e => by have e : b = pb := e; show b ≤ w.heap.size; omega); have hs5 := y5.size; have KO := hid fun W (y : Ext w5 W) => parse_op (fun b => b ≤ w.heap.size) tk.text j hj HJX.out x xb ks kb ak ab nk nb ck cb W k1 k2 b1 b2 HFX.out fb (hTk5.ext y) (hTb2.ext y) (fun b hb => by have := y.size; have hb : b ≤ w.heap.size := hb; omega); clear hTb hTb2 hTk5 hh)); (try (focus (go_wp2_with fail))); refine hK.out _ _ (by (try dsimp only); (exact xX)) (fun hHeld => ?_); clear hK K; try simp only [Act.put,pA,pB,pC]
            refine dK 8 fun K hK => ?_; go_simp; (first | (go_at_call 118; refine (KO.out _ (by (exact eX))).mono ?_; rintro e w6 ⟨g6, rfl, h6, x6⟩; have y56 : Ext w5 w6 := (by (exact eX) : Ext w5 _).trans x6; have y6 : ExtX (· = pb) W4 w6 := ExtX.then_ y5 y56; have z6 := y6.mono (A' := fun b => b = pb ∨ b = w.heap.size) (fun b h => .inl h); have hB6 := HZ4.out.nez y6 (by omega); obtain ⟨d0, d1, d2, d3, d4, d5, d6, d7⟩ := hB6.eight; obtain ⟨f0, f1, f2, f3, f4, f5, f6, f7⟩ := hB6.frozen8; have hl6 := hB6.lt; have HL6 : Hid (Laid8 pb w w6 { hd0 9 x.pos with op := (j : Int) + 1 } [.mk x ks, .mk xb kb] (some ⟨g6, 0, none⟩) 2 2 l3) := hid ⟨hB6, hd9_fits HFX.out (by omega) (by omega) 9 (by omega) (by omega), Nat.le_refl _, by omega, h6, hp5.ext y56, Y1.out.trans (Y4.out.trans y6), hlt⟩; clear hB6 h6) | (refine (KP5.out _ _ (by have := HP4.out; (exact prX)) (HROW4.out.ext (Ext.refl _).drew) (by rintro p ⟨rfl⟩; show W4.heap.size ≠ pb; omega)).mono ?_; intro e w5 hh; obtain ⟨v5, rfl, ⟨ab, nb, cb, rfl, fb, b1, b2, hTb⟩, hp5, x5⟩ := hh.ok; have y5 : ExtX (· = pb) W4 w5 := (((ExtX.refl W4).alloc _).drew).trans x5; have z5 := y5.mono (A' := fun b => b = pb ∨ b = w.heap.size) (fun b h => .inl h); have hTb2 : IsTmsA (fun b => b ≤ w.heap.size) w5 kb ab nb := hTb.off (fun b _ hb => (by have hb : b ≤ w.heap.size := hb; simp; omega)); have hTk5 := HT4.out.extx (X := (· = pb)) y5 (fun b e => by have e : b = pb := e; show b ≤ w.heap.size; omega); have hs5 := y5.size; have KO := hid fun W (y : Ext w5 W) => parse_op (fun b => b ≤ w.heap.size) tk.text j hj HJX.out x xb ks kb ak ab nk nb ck cb W k1 k2 b1 b2 HFX.out fb (hTk5.ext y) (hTb2.ext y) (fun b hb => by have := y.size; have hb : b ≤ w.heap.size := hb; omega); clear hTb hTb2 hTk5 hh)); (try (focus (go_wp2_with fail))); refine hK.out _ _ (by (try dsimp only); (exact xX)) (fun hHeld => ?_); clear hK K; try simp only [Act.put,pA,pB,pC]
            refine dK 9 fun K hK => ?_; go_simp; refine hK.out _ _ (by (try dsimp only); (exact xX)) (fun hHeld => ?_); clear hK K; try simp only [Act.put,pA,pB,pC]
            refine wpAnyH_done (by kernel_rfl) ?_ _
            rotate_left 1
            go_simp; refine hK.out _ _ (by (try dsimp only); (exact xX)) (fun hHeld => ?_); clear hK K; try simp only [Act.put,pA,pB,pC]
            refine dK 5 fun K hK => ?_; go_simp; refine hK.out _ _ (by (try dsimp only); (exact xX)) (fun hHeld => ?_); clear hK K; try simp only [Act.put,pA,pB,pC]
            refine dK 7 fun K hK => ?_; go_simp; (first | (refine (KP5.out _ _ (by have := HP4.out; (exact prX)) (HROW4.out.ext (Ext.refl _).drew) (by rintro p ⟨rfl⟩; show W4.heap.size ≠ pb; omega)).mono ?_; intro e w5 hh; obtain ⟨v5, rfl, ⟨ab, nb, cb, rfl, fb, b1, b2, hTb⟩, hp5, x5⟩ := hh.ok; have y5 : ExtX (· = pb) W4 w5 := (((ExtX.refl W4).alloc _).drew).trans x5; have z5 := y5.mono (A' := fun b => b = pb ∨ b = w.heap.size) (fun b h => .inl h); have hTb2 : IsTmsA (fun b => b ≤ w.heap.size) w5 kb ab nb := hTb.off (fun b _ hb => (by have hb : b ≤ w.heap.size := hb; simp; omega)); have hTk5 := HT4.out.extx (X := (· = pb)) y5 (fun b e => by have e : b = pb := e; show b ≤ w.heap.size; omega); have hs5 := y5.size; have KO := hid fun W (y : Ext w5 W) => parse_op (fun b => b ≤ w.heap.size) tk.text j hj HJX.out x xb ks kb ak ab nk nb ck cb W k1 k2 b1 b2 HFX.out fb (hTk5.ext y) (hTb2.ext y) (fun b hb => by have := y.size; have hb : b ≤ w.heap.size := hb; omega); clear hTb hTb2 hTk5 hh)); (try (focus (go_wp2_with fail))); refine hK.out _ _ (by (try dsimp only); (exact xX)) (fun hHeld => ?_); clear hK K; try simp only [Act.put,pA,pB,pC]
            refine dK 8 fun K hK => ?_; go_simp; (first | (go_at_call 118; refine (KO.out _ (by (exact eX))).mono ?_; rintro e w6 ⟨g6, rfl, h6, x6⟩; have y56 : Ext w5 w6 := (by (exact eX) : Ext w5 _).trans x6; have y6 : ExtX (· = pb) W4 w6 := ExtX.then_ y5 y56; have z6 := y6.mono (A' := fun b => b = pb ∨ b = w.heap.size) (fun b h => .inl h); have hB6 := HZ4.out.nez y6 (by omega); obtain ⟨d0, d1, d2, d3, d4, d5, d6, d7⟩ := hB6.eight; obtain ⟨f0, f1, f2, f3, f4, f5, f6, f7⟩ := hB6.frozen8; have hl6 := hB6.lt; have HL6 : Hid (Laid8 pb w w6 { hd0 9 x.pos with op := (j : Int) + 1 } [.mk x ks, .mk xb kb] (some ⟨g6, 0, none⟩) 2 2 l3) := hid ⟨hB6, hd9_fits HFX.out (by omega) (by omega) 9 (by omega) (by omega), Nat.le_refl _, by omega, h6, hp5.ext y56, Y1.out.trans (Y4.out.trans y6), hlt⟩; clear hB6 h6) | (refine (KP5.out _ _ (by have := HP4.out; (exact prX)) (HROW4.out.ext (Ext.refl _).drew) (by rintro p ⟨rfl⟩; show W4.heap.size ≠ pb; omega)).mono ?_; intro e w5 hh; obtain ⟨v5, rfl, ⟨ab, nb, cb, rfl, fb, b1, b2, hTb⟩, hp5, x5⟩ := hh.ok; have y5 : ExtX (· = pb) W4 w5 := (((ExtX.refl W4).alloc _).drew).trans x5; have z5 := y5.mono (A' := fun b => b = pb ∨ b = w.heap.size) (fun b h => .inl h); have hTb2 : IsTmsA (fun b => b ≤ w.heap.size) w5 kb ab nb := hTb.off (fun b _ hb => (by have hb : b ≤ w.heap.size := hb; simp; omega)); have hTk5 := HT4.out.extx (X := (· = pb)) y5 (fun b e => by have e : b = pb := e; show b ≤ w.heap.size; omega); have hs5 := y5.size; have KO := hid fun W (y : Ext w5 W) => parse_op (fun b => b ≤ w.heap.size) tk.text j hj HJX.out x xb ks kb ak ab nk nb ck cb W k1 k2 b1 b2 HFX.out fb (hTk5.ext y) (hTb2.ext y) (fun b hb => by have := y.size; have hb : b ≤ w.heap.size := hb; omega); clear hTb hTb2 hTk5 hh)); (try (focus (go_wp2_with fail))); refine hK.out _ _ (by (try dsimp only); (exact xX)) (fun hHeld => ?_); clear hK K; try simp only [Act.put,pA,pB,pC]
            refine dK 9 fun K hK => ?_; go_simp; refine hK.out _ _ (by (try dsimp only); (exact xX)) (fun hHeld => ?_); clear hK K; try simp only [Act.put,pA,pB,pC]
            refine wpAnyH_done (by kernel_rfl) ?_ _
            rotate_left 1
            all_goals
              go_wp2_with fail
              exact HL6.out.ret (fun w2 r0 r1 r2 r3 r4 r5 r6 r7 => by simp [results, Tryz.results92, go_sem, r0, r1, r2, r3, r4, r5, r6, r7]) rfl
theorem row_one1 (w : World) (o : Obj) (x : ByteArray) (t : TypeId) : IsRow ((w.alloc o).alloc (.cells #[.string x] t)) (vstr [x]) (some ⟨w.heap.size + 1, 0, none⟩) 1 := row_new1 w o t (vstr [x])
theorem row_one0 (w : World) (x : ByteArray) (t : TypeId) : IsRow (w.alloc (.cells #[.string x] t)) (vstr [x]) (some ⟨w.heap.size, 0, none⟩) 1 := IsRow.new w t (vstr [x])
set_option maxRecDepth 8000 in
set_option maxHeartbeats 8000000 in
theorem parse_set (f : Nat) (hF : ∀ g, g ≤ f → Does 92 (.lvl 1) g) : Does 57 (.lvl 0) (f + 1) := by
  intro pb w l r h he hp
  have hlt := h.lt
  have hp2 : andThen (parseF f (.lvl 1) l) (fun a l1 => if isT [s_set] l1 then andThen (parseF f (.lvl 1) l1.tail) fun b l2 => some (.ok (putT (textT l1) a b, l2)) else some (.ok (a, l1))) = some r := by
    unfold parseF at hp
    rw [if_pos (by omega)] at hp
    exact hp
  have y0 : Ext w (w.alloc (.cells #[.int .u8 0, .int .u8 0, .int .i64 0, .int .i64 0, .string ⟨#[]⟩, .string ⟨#[]⟩, .string ⟨#[]⟩, .slice none 0 0] 28)) := (Ext.refl w).alloc _
  have hZ0 := (Blk.new w 28 #[.int .u8 0, .int .u8 0, .int .i64 0, .int .i64 0, .string ⟨#[]⟩, .string ⟨#[]⟩, .string ⟨#[]⟩, .slice none 0 0])
  cases e1 : parseF f (.lvl 1) l with
  | none => rw [e1] at hp2; cases hp2
  | some r1 =>
    have KP := hid fun W (x : Ext w W) => hF f (Nat.le_refl _) pb W l r1 (h.ext x) he e1
    rw [e1] at hp2
    have Y0 := hid y0
    have HZ0 := hid hZ0
    have HF := hid hF
    cases r1 with
    | error l' =>
      cases hp2
      clear hp e1 h hF y0 hZ0
      go_enter Tryz.func57, Tryz.ntmps57
      go_wp2_with fail
      refine (KP.out _ Y0.out).mono ?_
      intro e w1 hh
      obtain ⟨rfl, x1⟩ := hh.error
      exact ⟨rfl, (ExtX.of Y0.out).trans x1, rfl⟩
    | ok p =>
      obtain ⟨⟨x, ks⟩, l1⟩ := p
      rw [andThen_ok] at hp2
      have he1 : Ended l1 := (parseF_told he e1).1
      have HP2 := hid hp2
      have HE1 := hid he1
      clear hp e1 h hF hp2 y0 hZ0 he1
      go_enter Tryz.func57, Tryz.ntmps57
      go_wp2_with fail
      refine (KP.out _ Y0.out).mono ?_
      intro e w1 hh
      obtain ⟨v, rfl, ⟨ak, nk, ck, rfl, hfx, k1, k2, hTk0⟩, hP1, x1⟩ := hh.ok
      have hTk : IsTmsA (fun b => b ≤ w.heap.size) w1 ks ak nk := hTk0.off fun b _ hb => (by have hb : b ≤ w.heap.size := hb; simp; omega)
      have hZ1 := HZ0.out.extx x1 (by omega)
      have hs1 := hZ1.lt
      have y1 : ExtX (· = pb) w w1 := (ExtX.of Y0.out).trans x1
      have hpl := hP1.lt
      cases l1 with
      | nil => cases HE1.out
      | cons tk l2 =>
      have KI := hid fun W (y : Ext w1 W) (a : Option Addr) (hr : IsRow W (vstr [s_set]) a 1) => parse_is [s_set] pb tk l2 W a 1 1 (Nat.le_refl _) (by omega) hr (hP1.ext y)
      have HTk := hid hTk
      have HFX := hid hfx
      have HP1 := hid hP1
      have HZ1 := hid hZ1
      have Y1 := hid y1
      clear hh hTk0 hTk hfx hP1 hZ1 x1 y1
      have hp2 := HP2.out
      cases hi : isT [s_set] (tk :: l2) with
      | false =>
        rw [if_neg (by rw [hi]; simp)] at hp2
        cases hp2
        rw [hi] at KI
        clear hi
        go_wp2_with fail
        refine (KI.out _ (by (exact eX)) _ (row_one1 w1 _ _ _)).mono ?_
        rintro e w2 ⟨rfl, x2⟩
        have y2 : Ext w1 w2 := by (exact eX)
        have hT2 := blk_under x2
        have hZ2 := HZ1.out.ext y2
        obtain ⟨c0, c1, c2, c3, c4, c5, c6, c7⟩ := hT2.eight
        obtain ⟨z0, z1, z2, z3, z4, z5, z6, z7⟩ := hZ2.eight
        obtain ⟨f0, f1, f2, f3, f4, f5, f6, f7⟩ := hZ2.frozen8
        have hlz := hZ2.lt
        have HL : Hid (Laid8 pb w w2 x ks ak nk ck (tk :: l2)) := hid ⟨hZ2, HFX.out, k1, k2, HTk.out.ext y2, HP1.out.ext y2, Y1.out.then_ y2, hlt⟩
        clear hT2 hZ2 y2 x2
        go_wp2_with fail
        exact HL.out.ret (fun w2 r0 r1 r2 r3 r4 r5 r6 r7 => by simp [results, Tryz.results57, go_sem, r0, r1, r2, r3, r4, r5, r6, r7]) rfl
      | true =>
        rw [if_pos hi] at hp2
        rw [hi] at KI
        have hk6 : tk.k ≠ 6 := isT_kind hi
        obtain ⟨hl2, he2⟩ := HE1.out.tail_ne hk6
        obtain ⟨tk', r', e', -, hsg, -⟩ := isT_ne hi
        cases e'
        have hts : tk.text = s_set := by simpa using hsg
        have HTS := hid hts
        have KT := hid fun W (y : Ext w1 W) => parse_take pb tk l2 W (HP1.out.ext y)
        have HPM := hid hp2
        have HE2 := hid he2
        have HL2 := hid hl2
        clear hi hp2 he2 hl2 hsg hts
        go_wp2_with fail
        refine (KI.out _ (by (exact eX)) _ (row_one1 w1 _ _ _)).mono ?_
        rintro e w2 ⟨rfl, x2⟩
        have y2 : Ext w1 w2 := by (exact eX)
        have hT2 := blk_under x2
        go_wp2_with fail
        refine (KT.out _ y2).mono ?_
        rintro e W4 ⟨rfl, x3, hp3⟩
        have y3 : ExtX (· = pb) w1 W4 := (ExtX.of y2).trans x3
        have P3 := hp3 HL2.out
        have hl2' := hT2.lt
        have hl3 := x3.size
        have hB4 := hT2.nez x3 (by omega)
        have hZ4 := HZ1.out.nez y3 (by omega)
        have hT4 := HTk.out.extx (X := (· = pb)) y3 (fun b e => by have e : b = pb := e; show b ≤ w.heap.size; omega)
        have hl41 : w1.heap.size < W4.heap.size := hB4.lt
        have hl40 : w.heap.size < W4.heap.size := hZ4.lt
        have HP4 := hid P3
        have Y4 := hid y3
        have hne1 : ¬ (w1.heap.size = pb ∨ w1.heap.size = w.heap.size) := by omega
        have c0 := fun W (h : ExtX (fun b => b = pb ∨ b = w.heap.size) W4 W) => (hB4.extx h hne1).eight.1
        have c1 := fun W (h : ExtX (fun b => b = pb ∨ b = w.heap.size) W4 W) => (hB4.extx h hne1).eight.2.1
        have c2 := fun W (h : ExtX (fun b => b = pb ∨ b = w.heap.size) W4 W) => (hB4.extx h hne1).eight.2.2.1
        have c3 := fun W (h : ExtX (fun b => b = pb ∨ b = w.heap.size) W4 W) => (hB4.extx h hne1).eight.2.2.2.1
        have c4 := fun W (h : ExtX (fun b => b = pb ∨ b = w.heap.size) W4 W) => (hB4.extx h hne1).eight.2.2.2.2.1
        have c5 := fun W (h : ExtX (fun b => b = pb ∨ b = w.heap.size) W4 W) => (hB4.extx h hne1).eight.2.2.2.2.2.1
        have c6 := fun W (h : ExtX (fun b => b = pb ∨ b = w.heap.size) W4 W) => (hB4.extx h hne1).eight.2.2.2.2.2.2.1
        have c7 := fun W (h : ExtX (fun b => b = pb ∨ b = w.heap.size) W4 W) => (hB4.extx h hne1).eight.2.2.2.2.2.2.2
        have HZ4 := hid hZ4
        have HT4 := hid hT4
        clear hZ4 hT4 y3 P3 hp3 x3 x2 y2 hT2
        cases e5 : parseF f (.lvl 1) l2 with
        | none => have := HPM.out; rw [List.tail_cons, e5] at this; cases this
        | some r5 =>
          have KP5 := hid fun W (hP : Prs W pb l2) => HF.out f (Nat.le_refl _) pb W l2 r5 hP HE2.out e5
          have hpm := HPM.out
          rw [List.tail_cons, e5] at hpm
          cases r5 with
          | error l' =>
            cases hpm
            clear e5
            go_upto_region 5 with fail
            refine wp_region_held_drew (S := fun w' => ExtX (fun b => b = pb ∨ b = w.heap.size) W4 w') (by kernel_rfl) (by (try dsimp only); (exact xX)) (fun hHeld => ?_)
            refine tL 0 ?_;try simp only [Act.put,pA,pB,pC]
            refine tL 1 ?_;try simp only [Act.put,pA,pB,pC]
            refine tL 2 ?_;try simp only [Act.put,pA,pB,pC]
            refine tL 3 ?_;try simp only [Act.put,pA,pB,pC]
            refine tL 4 ?_;try simp only [Act.put,pA,pB,pC]
            refine dK 5 fun K hK => ?_; go_simp; (first | (refine (KP5.out _ (by have := HP4.out; (exact prX))).mono ?_; intro e w5 hh; obtain ⟨rfl, x5⟩ := hh.error; exact ⟨rfl, (Y1.out.trans Y4.out).trans (((ExtX.refl W4).drew : ExtX (· = pb) W4 _).trans x5), rfl⟩))
          | ok p5 =>
            obtain ⟨⟨xb, kb⟩, l3⟩ := p5
            rw [andThen_ok] at hpm
            have hput : putT tk.text (.mk x ks) (.mk xb kb) = .mk (hd0 8 x.pos) [.mk x ks, .mk xb kb] := by
              unfold putT
              rw [if_pos HTS.out]
              rfl
            have hr : r = .ok (.mk (hd0 8 x.pos) [.mk x ks, .mk xb kb], l3) := by
              rw [show textT (tk :: l2) = tk.text from rfl, hput] at hpm
              cases hpm
              rfl
            subst hr
            clear e5 hpm hput
            go_upto_region 5 with fail
            refine wp_region_held_drew (S := fun w' => ExtX (fun b => b = pb ∨ b = w.heap.size) W4 w') (by kernel_rfl) (by (try dsimp only); (exact xX)) (fun hHeld => ?_)
            refine tL 0 ?_;try simp only [Act.put,pA,pB,pC]
            refine tL 1 ?_;try simp only [Act.put,pA,pB,pC]
            refine tL 2 ?_;try simp only [Act.put,pA,pB,pC]
            refine tL 3 ?_;try simp only [Act.put,pA,pB,pC]
            refine tL 4 ?_;try simp only [Act.put,pA,pB,pC]
            refine dK 5 fun K hK => ?_; go_simp; (first | (refine (KP5.out _ (by have := HP4.out; (exact prX))).mono ?_; intro e w5 hh; obtain ⟨v5, rfl, ⟨ab, nb, cb, rfl, fb, b1, b2, hTb⟩, hp5, x5⟩ := hh.ok; have y5 : ExtX (· = pb) W4 w5 := ((ExtX.refl W4).drew).trans x5; have z5 := y5.mono (A' := fun b => b = pb ∨ b = w.heap.size) (fun b h => .inl h); have hTb2 : IsTmsA (fun b => b ≤ w.heap.size) w5 kb ab nb := hTb.off (fun b _ hb => (by have hb : b ≤ w.heap.size := hb; simp; omega)); have hTk5 := HT4.out.extx (X := (· = pb)) y5 (fun b e => by have e : b = pb := e; show b ≤ w.heap.size; omega); have hs5 := y5.size; have HTk5 := hid hTk5; have HTb2 := hid hTb2; clear hTb hTb2 hTk5 hh)); (try (focus (go_wp2_with fail))); refine hK.out _ _ (by (try dsimp only); (exact xX)) (fun hHeld => ?_); clear hK K; try simp only [Act.put,pA,pB,pC]
            refine dK 6 fun K hK => ?_; go_simp; refine hK.out _ _ (by (try dsimp only); (exact xX)) (fun hHeld => ?_); clear hK K; try simp only [Act.put,pA,pB,pC]
            refine dK 7 fun K hK => ?_; go_simp; (first | (go_at_call 58; refine (parse_node _ _ _ _ _ _).mono ?_; rintro e w6 ⟨rfl, x6⟩; have hG6 := blk_top x6; have y56 : Ext w5 w6 := (by (exact eX) : Ext w5 _).trans x6; have y6 : ExtX (· = pb) W4 w6 := ExtX.then_ y5 y56; have z6 := y6.mono (A' := fun b => b = pb ∨ b = w.heap.size) (fun b h => .inl h); have hB6 := HZ4.out.nez y6 (by omega); obtain ⟨d0, d1, d2, d3, d4, d5, d6, d7⟩ := hB6.eight; obtain ⟨f0, f1, f2, f3, f4, f5, f6, f7⟩ := hB6.frozen8; have hl6 := hB6.lt; have HL6 : Hid (Laid8 pb w w6 (hd0 8 x.pos) [.mk x ks, .mk xb kb] (some ⟨w5.heap.size, 0, none⟩) 2 2 l3) := hid ⟨hB6, hd0_fits (by omega) (by omega) HFX.out.pos0 HFX.out.pos1, Nat.le_refl _, by omega, pair_row (A := fun b => b ≤ w.heap.size) y56 k1 k2 b1 b2 HFX.out fb HTk5.out HTb2.out (by show ¬ w5.heap.size ≤ w.heap.size; omega) hG6, hp5.ext y56, Y1.out.trans (Y4.out.trans y6), hlt⟩; clear hB6 hG6) | (refine (KP5.out _ (by have := HP4.out; (exact prX))).mono ?_; intro e w5 hh; obtain ⟨v5, rfl, ⟨ab, nb, cb, rfl, fb, b1, b2, hTb⟩, hp5, x5⟩ := hh.ok; have y5 : ExtX (· = pb) W4 w5 := ((ExtX.refl W4).drew).trans x5; have z5 := y5.mono (A' := fun b => b = pb ∨ b = w.heap.size) (fun b h => .inl h); have hTb2 : IsTmsA (fun b => b ≤ w.heap.size) w5 kb ab nb := hTb.off (fun b _ hb => (by have hb : b ≤ w.heap.size := hb; simp; omega)); have hTk5 := HT4.out.extx (X := (· = pb)) y5 (fun b e => by have e : b = pb := e; show b ≤ w.heap.size; omega); have hs5 := y5.size; have HTk5 := hid hTk5; have HTb2 := hid hTb2; clear hTb hTb2 hTk5 hh)); (try (focus (go_wp2_with fail))); refine hK.out _ _ (by (try dsimp only); (exact xX)) (fun hHeld => ?_); clear hK K; try simp only [Act.put,pA,pB,pC]
            refine dK 8 fun K hK => ?_; go_simp; refine hK.out _ _ (by (try dsimp only); (exact xX)) (fun hHeld => ?_); clear hK K; try simp only [Act.put,pA,pB,pC]
            refine wpAnyH_done (by kernel_rfl) ?_ _
            all_goals
              go_wp2_with fail
              exact HL6.out.ret (fun w2 r0 r1 r2 r3 r4 r5 r6 r7 => by simp [results, Tryz.results57, go_sem, r0, r1, r2, r3, r4, r5, r6, r7]) rfl
end Go.Proofs.YtaioeailgknfjaaGreatDoor

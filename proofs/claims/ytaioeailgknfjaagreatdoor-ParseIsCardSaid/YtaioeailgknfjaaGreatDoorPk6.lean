/- Part 6 of the proof of RowParseIs: walks of functions, and laws in plain Lean; no condition of ours. -/
import Derived.Test.YtaioeailgknfjaaGreatDoorPk5
/- The walk of parse.run. The walks of parse.Term and its closure. -/
namespace Go.Proofs.YtaioeailgknfjaaGreatDoor
open Go Go.RowKit Go.Sort

/-- What a text comes to, by a part of the grammar: or a place, and the error. -/
def runR {α : Type} (res : List Tk → Res α) (B : List UInt8) : Except (Int × Int) α :=
  if (lexR B).2.2 ≠ 0 then .error ((lexR B).2.1, (lexR B).2.2)
  else if 4001 < (lexR B).1.length then .error ((((lexR B).1[4000]?).map Tk.pos).getD 0, 3)
  else match res (lexR B).1 with
    | .error l => .error (posT l, 2)
    | .ok (a, l) => if kindT l = 6 then .ok a else .error (posT l, 2)
/-- A place and an error's number: 0 and 0 where there is none. -/
def runE {α : Type} (r : Except (Int × Int) α) : Int × Int := match r with
  | .error p => p
  | .ok _ => (0, 0)
theorem lexR_ended {B : List UInt8} (h : (lexR B).2.2 = 0) : Ended (lexR B).1 := by
  unfold lexR at h ⊢
  split at h
  · simp at h
  rename_i hn
  rw [if_neg hn]
  cases e : lexL 0 B with
  | error p => rw [e] at h; simp at h
  | ok o =>
    obtain ⟨o', rfl, ho⟩ := lexL_last e
    simp only [List.map_append, List.map_cons, List.map_nil]
    clear e h hn
    induction o' with
    | nil => exact rfl
    | cons t o' ih =>
      have ht := ho t (by simp)
      have := ih fun t h => ho t (by simp [h])
      cases o' with
      | nil => exact ⟨ht, this⟩
      | cons u o' => exact ⟨ht, this⟩
/-- What a function that goes through tokens does: it writes a block of its caller's. -/
structure Whole {α : Type} (K ob : Nat) (res : List Tk → Res α) (O : World → Prop) (V : Nat → World → α → Prop) : Prop where
  call : ∀ (pb : Nat) (W : World) (l : List Tk), Prs W pb l → Ended l → l.length ≤ 4001 → ob < pb → O W → Calls Tryz.prog K #[.pointer (some ⟨pb, 0, none⟩), .pointer (some ⟨ob, 0, none⟩)] W fun e w' => ExtX (fun b => b = pb ∨ b = ob) W w' ∧ match res l with
    | .error l' => e = thrown l'
    | .ok (a, l') => e = .returned (.tuple #[]) ∧ Prs w' pb l' ∧ Ended l' ∧ V W.heap.size w' a
  keep : ∀ (B : Nat) (w w' : World) (a : α), V B w a → ExtX (fun b => b < B ∧ b ≠ ob) w w' → V B w' a
  start : ∀ (w w' : World), O w → Ext w w' → O w'
theorem ExtX.over {A : Nat → Prop} {ob : Nat} {w W W' : World} (h : ExtX (· = ob) w W) (k : ExtX A W W') (hA : ∀ b, A b → w.heap.size ≤ b) : ExtX (· = ob) w W' :=
  ⟨k.os.trans h.os, k.tape.trans h.tape, k.output.trans h.output, Nat.le_trans h.size k.size, fun i hi ha => (k.block i (Nat.lt_of_lt_of_le hi h.size) (fun e => by have := hA i e; omega)).trans (h.block i hi ha)⟩
/-- What run comes to. -/
def RetRun {α : Type} (ob : Nat) (V : Nat → World → α → Prop) (w : World) (r : Except (Int × Int) α) (e : Ending) (w' : World) : Prop :=
  e = .returned (.tuple #[.int .i64 (runE r).1, .int .i64 (runE r).2]) ∧ ExtX (· = ob) w w' ∧ ∀ a, r = .ok a → ∃ B, w.heap.size ≤ B ∧ V B w' a
set_option maxRecDepth 8000 in
set_option maxHeartbeats 8000000 in
theorem parse_run {α : Type} (K ob : Nat) (eK : ∀ args w, (callFunc K args).run Tryz.prog w = .ok (.enter K args) w) (res : List Tk → Res α) (O : World → Prop) (V : Nat → World → α → Prop) (hW : Whole K ob res O V) (B : List UInt8) (w : World) (a : Option Addr) (len cap : Nat) (h1 : len ≤ cap) (h2 : cap ≤ 9223372036854775807) (hr : IsBytes w B a len) (hk : Knob w) (hO : O w) (hob : ob < w.heap.size) :
    Calls Tryz.prog 29 #[.slice a len cap, .func (.func K) #[] #[.pointer (some ⟨ob, 0, none⟩)]] w (RetRun ob V w (runR res B)) := by
  have KL : Hid (∀ W, Ext w W → Calls Tryz.prog 55 #[.slice a len cap] W fun e w' => ∃ a n c, e = .returned (.tuple #[.slice a n c, .int .i64 (lexR B).2.1, .int .i64 (lexR B).2.2]) ∧ n ≤ c ∧ c ≤ 9223372036854775807 ∧ IsToks w' (lexR B).1 a n ∧ Ext W w') := Lib.hid fun W h => token_lex B W a len cap h1 h2 (hr.ext h) (hk.ext h)
  have HRUN := Lib.hid (show runR res B = _ from rfl)
  have HEN := Lib.hid (lexR_ended (B := B))
  have hres : runR res B = if (lexR B).2.2 ≠ 0 then .error ((lexR B).2.1, (lexR B).2.2) else if 4001 < (lexR B).1.length then .error ((((lexR B).1[4000]?).map Tk.pos).getD 0, 3) else match res (lexR B).1 with
    | .error l => .error (posT l, 2)
    | .ok (a, l) => if kindT l = 6 then .ok a else .error (posT l, 2) := rfl
  generalize runR res B = R at *
  have HRES := Lib.hid hres
  generalize lexR B = LR at *
  obtain ⟨L, p, f⟩ := LR
  have HW := Lib.hid hW
  have HO := Lib.hid hO
  have hmf : ∀ (fn : Fn) (first cap : Array Value) (w : World), (Instr.makeFunc fn first cap).run Tryz.prog w = .ok (.func fn first cap) w := fun _ _ _ _ => rfl
  clear hr hk hres hW hO HRUN
  go_enter_defers Tryz.func29, Tryz.ntmps29
  go_wp2_with fail
  refine (KL.out _ (by (exact eX))).mono ?_
  rintro e w1 ⟨ra, rn, rc, rfl, hn1, hn2, hT, x1⟩
  have hA1 := blk_under x1
  have hE1 := blk_top x1
  rw [World.size_alloc] at hE1
  have y1 : Ext w w1 := by (exact eX)
  have c1 := hA1.cell 0
  have g1 := hA1.frozen 0
  have l1 := hA1.lt
  have c2 := hE1.cell 0
  have g2 := hE1.frozen 0
  have l2 := hE1.lt
  simp at c1 c2
  have HT := Lib.hid hT
  have hrn := hT.length
  have HRN := Lib.hid hrn
  have HA1 := Lib.hid hA1
  have HE1 := Lib.hid hE1
  have Y1 := Lib.hid y1
  clear hT hrn hA1 hE1 x1 y1
  by_cases hf : f = 0
  case neg =>
    have hfb : (f != 0) = true := by simpa using hf
    have HR2 : Hid (R = .error (p, f)) := Lib.hid (by rw [HRES.out, if_pos hf])
    clear hf
    go_wp2_with fail
    have hA2 := (HA1.out.set_ 0 (.int .i64 p)).far (p := ⟨w.heap.size + 1, 0, none⟩) (by show w.heap.size ≠ w.heap.size + 1; omega) (.int .i64 f)
    have hE2 := (HE1.out.far (p := ⟨w.heap.size, 0, none⟩) (by show w.heap.size + 1 ≠ w.heap.size; omega) (.int .i64 p)).set_ 0 (.int .i64 f)
    simp only [List.setIfInBounds_toArray, List.set_cons_zero] at hA2 hE2
    have Y2 := (Y1.out.setCell (p := ⟨w.heap.size, 0, none⟩) (Nat.le_refl _) (.int .i64 p)).setCell (p := ⟨w.heap.size + 1, 0, none⟩) (Nat.le_succ _) (.int .i64 f)
    obtain ⟨W2, hW2⟩ : ∃ W2, W2 = (w1.setCell ⟨w.heap.size, 0, none⟩ (.int .i64 p)).setCell ⟨w.heap.size + 1, 0, none⟩ (.int .i64 f) := ⟨_, rfl⟩
    rw [← hW2] at hA2 hE2 Y2
    rw [← hW2]
    clear c1 g1 l1 c2 g2 l2 hW2
    have c1 := hA2.cell 0
    have g1 := hA2.frozen 0
    have l1 := hA2.lt
    have c2 := hE2.cell 0
    have g2 := hE2.frozen 0
    have l2 := hE2.lt
    simp at c1 c2
    have HA2 := Lib.hid hA2
    have HE2 := Lib.hid hE2
    have HY2 := Lib.hid Y2
    clear hA2 hE2 Y2
    go_region
    all_goals
      go_wp2_with fail
      have hA3 := ((HA2.out.set_ 0 (.int .i64 p)).far (p := ⟨w.heap.size + 1, 0, none⟩) (by show w.heap.size ≠ w.heap.size + 1; omega) (.int .i64 f)).drew
      have hE3 := ((HE2.out.far (p := ⟨w.heap.size, 0, none⟩) (by show w.heap.size + 1 ≠ w.heap.size; omega) (.int .i64 p)).set_ 0 (.int .i64 f)).drew
      simp only [List.setIfInBounds_toArray, List.set_cons_zero] at hA3 hE3
      have Y3 := ((HY2.out.setCell (p := ⟨w.heap.size, 0, none⟩) (Nat.le_refl _) (.int .i64 p)).setCell (p := ⟨w.heap.size + 1, 0, none⟩) (Nat.le_succ _) (.int .i64 f)).drew
      have r1 := hA3.cell 0
      have r2 := hE3.cell 0
      have HF : Hid (∀ W', W' = _ → RetRun ob V w R (.returned (.tuple #[.int .i64 p, .int .i64 f])) W') := Lib.hid fun W' e => ⟨by rw [HR2.out]; rfl, by rw [e]; exact ExtX.of Y3, fun a h => by rw [HR2.out] at h; cases h⟩
      simp at r1 r2
      simp [bodyPostD, Leaves, results, Tryz.results29, go_sem, r1, r2]
      exact HF.out _ rfl
  case pos =>
    subst hf
    have hend : Ended L := HEN.out rfl
    have hln : rn = L.length := HRN.out
    have hpos : 0 < L.length := by
      cases L with
      | nil => exact hend.elim
      | cons t L => simp
    have hw1 : IntKind.i64.wrap ((rn : Int) - 1) = (rn : Int) - 1 := IntWalk.i64_in _ ⟨by omega, by omega⟩
    by_cases hlong : 4001 < L.length
    · have HR2 : Hid (R = .error (((L[4000]?).map Tk.pos).getD 0, 3)) := Lib.hid (by rw [HRES.out, if_neg (by simp), if_pos hlong])
      obtain ⟨t, b, o, g, -, rfl, q0, q1, q2⟩ := HT.out.at3 (i := 4000) (by omega)
      rw [g] at HR2
      have hz : (4000 : Int) < (rn : Int) - 1 := by omega
      have hz2 : (4000 : Int) < (rn : Int) := by omega
      have hbl := block_lt_of_cell q2
      simp only at hbl
      have hbA : b ≠ w.heap.size := by
        rintro rfl
        have := HA1.out.cell (o + 4000 * 3)
        rw [q0] at this
        simp at this
      have hbE : b ≠ w.heap.size + 1 := by
        rintro rfl
        have := HE1.out.cell (o + 4000 * 3)
        rw [q0] at this
        simp at this
      have hbA' : w.heap.size ≠ b := fun e => hbA e.symm
      have hbE' : w.heap.size + 1 ≠ b := fun e => hbE e.symm
      have hA2 := (HA1.out.set_ 0 (.int .i64 p)).far (p := ⟨w.heap.size + 1, 0, none⟩) (by show w.heap.size ≠ w.heap.size + 1; omega) (.int .i64 0)
      have hE2 := (HE1.out.far (p := ⟨w.heap.size, 0, none⟩) (by show w.heap.size + 1 ≠ w.heap.size; omega) (.int .i64 p)).set_ 0 (.int .i64 0)
      have hA3 := (hA2.set_ 0 (.int .i64 t.pos)).far (p := ⟨w.heap.size + 1, 0, none⟩) (by show w.heap.size ≠ w.heap.size + 1; omega) (.int .i64 3)
      have hE3 := (hE2.far (p := ⟨w.heap.size, 0, none⟩) (by show w.heap.size + 1 ≠ w.heap.size; omega) (.int .i64 t.pos)).set_ 0 (.int .i64 3)
      simp only [List.setIfInBounds_toArray, List.set_cons_zero] at hA3 hE3
      have Y3 := (((Y1.out.setCell (p := ⟨w.heap.size, 0, none⟩) (Nat.le_refl _) (.int .i64 p)).setCell (p := ⟨w.heap.size + 1, 0, none⟩) (Nat.le_succ _) (.int .i64 0)).setCell (p := ⟨w.heap.size, 0, none⟩) (Nat.le_refl _) (.int .i64 t.pos)).setCell (p := ⟨w.heap.size + 1, 0, none⟩) (Nat.le_succ _) (.int .i64 3)
      have HA3 := Lib.hid hA3
      have HE3 := Lib.hid hE3
      have HY3 := Lib.hid Y3
      clear hA2 hE2 hA3 hE3 Y3 hln hlong hpos hend g
      go_wp2_with fail
      have r1 := HA3.out.cell 0
      have r2 := HE3.out.cell 0
      have HF : Hid (∀ W', W' = _ → RetRun ob V w R (.returned (.tuple #[.int .i64 t.pos, .int .i64 3])) W') := Lib.hid fun W' e => ⟨by rw [HR2.out]; rfl, by rw [e]; exact ExtX.of HY3.out, fun a h => by rw [HR2.out] at h; cases h⟩
      simp at r1 r2
      simp [bodyPostD, Leaves, results, Tryz.results29, go_sem, r1, r2]
      exact HF.out _ rfl
    · have HL4 := Lib.hid (Nat.le_of_not_lt hlong)
      have HR2 : Hid (R = match res L with
        | .error l => .error (posT l, 2)
        | .ok (a, l) => if kindT l = 6 then .ok a else .error (posT l, 2)) := Lib.hid (by rw [HRES.out, if_neg (by simp), if_neg hlong])
      have hz : ¬ (4000 : Int) < (rn : Int) - 1 := by omega
      obtain ⟨t0, b, o, gt, hft, rfl, q0, q1, q2⟩ := HT.out.at3 (i := 0) (by omega)
      have hb1 : b < w1.heap.size := block_lt_of_cell q0
      have hbA : b ≠ w.heap.size := by
        rintro rfl
        have := HA1.out.cell (o + 0 * 3)
        rw [q0] at this
        cases o with
        | zero => simp at this
        | succ o => simp at this
      have hbE : b ≠ w.heap.size + 1 := by
        rintro rfl
        have := HE1.out.cell (o + 0 * 3)
        rw [q0] at this
        cases o with
        | zero => simp at this
        | succ o => simp at this
      have hA2 := (HA1.out.set_ 0 (.int .i64 p)).far (p := ⟨w.heap.size + 1, 0, none⟩) (by show w.heap.size ≠ w.heap.size + 1; omega) (.int .i64 0)
      have hE2 := (HE1.out.far (p := ⟨w.heap.size, 0, none⟩) (by show w.heap.size + 1 ≠ w.heap.size; omega) (.int .i64 p)).set_ 0 (.int .i64 0)
      simp only [List.setIfInBounds_toArray, List.set_cons_zero] at hA2 hE2
      have Y2 := (Y1.out.setCell (p := ⟨w.heap.size, 0, none⟩) (Nat.le_refl _) (.int .i64 p)).setCell (p := ⟨w.heap.size + 1, 0, none⟩) (Nat.le_succ _) (.int .i64 0)
      have hT2 := (HT.out.far (p := ⟨w.heap.size, 0, none⟩) (u := .int .i64 p) hbA).far (p := ⟨w.heap.size + 1, 0, none⟩) (u := .int .i64 0) hbE
      have hPrs : Prs (((w1.setCell ⟨w.heap.size, 0, none⟩ (.int .i64 p)).setCell ⟨w.heap.size + 1, 0, none⟩ (.int .i64 0)).alloc (.cells #[.slice (some ⟨b, o, none⟩) rn rc, .int .i64 0] 96)) w1.heap.size L := by
        have hB := Blk.new ((w1.setCell ⟨w.heap.size, 0, none⟩ (.int .i64 p)).setCell ⟨w.heap.size + 1, 0, none⟩ (.int .i64 0)) 96 #[.slice (some ⟨b, o, none⟩) rn rc, .int .i64 0]
        have hsz : ((w1.setCell ⟨w.heap.size, 0, none⟩ (.int .i64 p)).setCell ⟨w.heap.size + 1, 0, none⟩ (.int .i64 0)).heap.size = w1.heap.size := by simp [World.setCell]
        rw [hsz] at hB
        exact ⟨b, o, rn, rc, 0, L, hB, hn1, hn2, hT2.ext ((Ext.refl _).alloc _), hb1, rfl, by omega⟩
      have HPRS := Lib.hid hPrs
      have HA2 := Lib.hid (hA2.alloc (.cells #[.slice (some ⟨b, o, none⟩) rn rc, .int .i64 0] 96))
      have HE2 := Lib.hid (hE2.alloc (.cells #[.slice (some ⟨b, o, none⟩) rn rc, .int .i64 0] 96))
      have HY2 := Lib.hid (Y2.alloc (.cells #[.slice (some ⟨b, o, none⟩) rn rc, .int .i64 0] 96))
      have HEND := Lib.hid hend
      have HLN := Lib.hid hln
      clear hlong hpos hA2 hE2 Y2 hT2 hPrs q0 q1 q2 gt hft hend hln
      go_wp2_with fail
      refine (HW.out.call w1.heap.size _ L ?hP HEND.out HL4.out (by omega) (HW.out.start _ _ HO.out ?hY)).mono ?_
      case hP => have := HPRS.out; exact this
      case hY => have := HY2.out; exact this
      intro e w5 hh
      obtain ⟨x5, hh⟩ := hh
      have hpb : w.heap.size + 1 < w1.heap.size := HE1.out.lt
      have HA5 := Lib.hid (HA2.out.extx x5 (show ¬ (w.heap.size = w1.heap.size ∨ w.heap.size = ob) by omega))
      have HE5 := Lib.hid (HE2.out.extx x5 (show ¬ (w.heap.size + 1 = w1.heap.size ∨ w.heap.size + 1 = ob) by omega))
      have hx5 : ExtX (· = ob) w w5 := ⟨x5.os.trans HY2.out.os, x5.tape.trans HY2.out.tape, x5.output.trans HY2.out.output, Nat.le_trans HY2.out.size x5.size, fun k hk ha => (x5.block k (Nat.lt_of_lt_of_le hk HY2.out.size) (fun e => by rcases e with e | e; omega; exact ha e)).trans (Below.block HY2.out k hk)⟩
      have HX5 := Lib.hid hx5
      have hr2 := HR2.out
      -- what is caught
      have KC : Hid (∀ (l' : List Tk) (W : World), R = .error (posT l', 2) → Blk W w.heap.size 3 #[.int .i64 p] → Blk W (w.heap.size + 1) 29 #[.int .i64 0] → ExtX (· = ob) w W →
          CallsD Tryz.prog 56 #[.pointer (some ⟨w.heap.size, 0, none⟩), .pointer (some ⟨w.heap.size + 1, 0, none⟩)] (.panicking [{ v := .iface 94 (.agg #[.int .i64 (posT l')]), recovered := false }]) W fun e u' w' => e = .returned (.tuple #[]) ∧ u' = .panicking [{ v := .iface 94 (.agg #[.int .i64 (posT l')]), recovered := true }] ∧ w'.cell? ⟨w.heap.size, 0, none⟩ = some (.int .i64 (posT l')) ∧ w'.cell? ⟨w.heap.size + 1, 0, none⟩ = some (.int .i64 2) ∧ RetRun ob V w R (.returned (.tuple #[.int .i64 (posT l'), .int .i64 2])) w') := Lib.hid fun l' W hR hA hE hX => by
        refine (run_catch w.heap.size (w.heap.size + 1) (posT l') p 0 [] W hA hE (by omega)).mono ?_
        rintro e u' w' ⟨rfl, rfl, hA', hE', hx'⟩
        refine ⟨rfl, rfl, hA'.cell 0, hE'.cell 0, by rw [hR]; rfl, ?_, fun a h => by rw [hR] at h; cases h⟩
        exact ⟨hx'.os.trans hX.os, hx'.tape.trans hX.tape, hx'.output.trans hX.output, Nat.le_trans hX.size hx'.size, fun k hk ha => (hx'.block k (Nat.lt_of_lt_of_le hk hX.size) (fun e => by rcases e with e | e <;> omega)).trans (hX.block k hk ha)⟩
      clear x5 hx5
      cases hrs : res L with
      | error l' =>
        rw [hrs] at hh hr2
        have hh : e = thrown l' := hh
        subst hh
        refine leaves_cons (f := 56) (args := #[.pointer (some ⟨w.heap.size, 0, none⟩), .pointer (some ⟨w.heap.size + 1, 0, none⟩)]) (by simp) (by simp [go_sem]) ?_
        refine (KC.out l' w5 hr2 HA5.out HE5.out HX5.out).mono ?_
        rintro e u' w' ⟨rfl, rfl, r1, r2, hR⟩
        have HRR := Lib.hid hR
        clear hR
        simp [Leaves, settle, results, Tryz.results29, go_sem, r1, r2]
        exact HRR.out
      | ok q =>
        obtain ⟨v, l'⟩ := q
        rw [hrs] at hh hr2
        obtain ⟨rfl, hP5, hE5, hV⟩ : e = .returned (.tuple #[]) ∧ Prs w5 w1.heap.size l' ∧ Ended l' ∧ V _ w5 v := hh
        have HV := Lib.hid hV
        have HP5 := Lib.hid hP5
        cases l' with
        | nil => exact hE5.elim
        | cons t l'' =>
        by_cases hk : t.k = 6
        · have hR9 : Hid (R = .ok v) := Lib.hid (by rw [hr2]; simp [kindT, hk])
          have KK := parse_kind_ok w1.heap.size t l'' w5 hP5
          rw [hk] at KK
          have KK := Lib.hid KK
          clear hk hr2 hrs hV hP5 hE5
          go_wp2_with fail
          refine KK.out.mono ?_
          rintro e w6 ⟨rfl, x6, -⟩
          have hA6 := HA5.out.nez x6 (by omega)
          have hE6 := HE5.out.nez x6 (by omega)
          have c1 := hA6.cell 0
          have g1 := hA6.frozen 0
          have l1 := hA6.lt
          have c2 := hE6.cell 0
          have g2 := hE6.frozen 0
          have l2 := hE6.lt
          simp at c1 c2
          have HA6 := Lib.hid hA6
          have HE6 := Lib.hid hE6
          have X6 := Lib.hid x6
          clear hA6 hE6 x6
          go_wp2_with fail
          have hA7 := (HA6.out.set_ 0 (.int .i64 0)).far (p := ⟨w.heap.size + 1, 0, none⟩) (by show w.heap.size ≠ w.heap.size + 1; omega) (.int .i64 0)
          have hE7 := (HE6.out.far (p := ⟨w.heap.size, 0, none⟩) (by show w.heap.size + 1 ≠ w.heap.size; omega) (.int .i64 0)).set_ 0 (.int .i64 0)
          simp only [List.setIfInBounds_toArray, List.set_cons_zero] at hA7 hE7
          have X7 := (X6.out.mono (A' := fun b => b < w1.heap.size + 1 ∧ b ≠ ob) (fun b e => by have e : b = w1.heap.size := e; omega))
          have X8 := (X7.setCell (p := ⟨w.heap.size, 0, none⟩) (.inl ⟨by show w.heap.size < w1.heap.size + 1; omega, by show w.heap.size ≠ ob; omega⟩) (.int .i64 0)).setCell (p := ⟨w.heap.size + 1, 0, none⟩) (.inl ⟨by show w.heap.size + 1 < w1.heap.size + 1; omega, by show w.heap.size + 1 ≠ ob; omega⟩) (.int .i64 0)
          have hsz : (((w1.setCell ⟨w.heap.size, 0, none⟩ (.int .i64 p)).setCell ⟨w.heap.size + 1, 0, none⟩ (.int .i64 0)).alloc (.cells #[.slice (some ⟨b, o, none⟩) rn rc, .int .i64 0] 96)).heap.size = w1.heap.size + 1 := by simp [World.setCell]
          have hV5 := HV.out
          rw [hsz] at hV5
          have HV9 := Lib.hid (HW.out.keep _ _ _ _ hV5 X8)
          have X9 := HX5.out.over (((X6.out.mono (A' := fun b => w.heap.size ≤ b) (fun b e => by have e : b = w1.heap.size := e; show w.heap.size ≤ b; omega)).setCell (p := ⟨w.heap.size, 0, none⟩) (.inl (Nat.le_refl _)) (.int .i64 0)).setCell (p := ⟨w.heap.size + 1, 0, none⟩) (.inl (Nat.le_succ _)) (.int .i64 0)) (fun b hb => hb)
          refine leaves_cons (f := 56) (args := #[.pointer (some ⟨w.heap.size, 0, none⟩), .pointer (some ⟨w.heap.size + 1, 0, none⟩)]) (by simp) (by simp [go_sem]) ?_
          refine (run_idle _ _ _).mono ?_
          rintro e u' w9 ⟨rfl, rfl, x9⟩
          have r1 := (hA7.ext x9).cell 0
          have r2 := (hE7.ext x9).cell 0
          have HRR : Hid (RetRun ob V w R (.returned (.tuple #[.int .i64 0, .int .i64 0])) w9) := Lib.hid ⟨by rw [hR9.out]; rfl, X9.then_ x9, fun a h => by
            rw [hR9.out] at h
            cases h
            exact ⟨w1.heap.size + 1, by omega, HW.out.keep _ _ _ _ HV9.out (.of x9)⟩⟩
          clear X7 X8 X9 hA7 hE7 x9 hV5 hsz
          simp at r1 r2
          simp [Leaves, settle, results, Tryz.results29, go_sem, r1, r2]
          exact HRR.out
        · have hR9 : R = .error (posT (t :: l''), 2) := by rw [hr2]; simp [kindT, hk]
          have KK := Lib.hid (parse_kind_no 6 w1.heap.size t l'' w5 hP5 hk)
          clear hk hr2 hrs hV hP5 hE5
          have HR9 := Lib.hid hR9
          clear hR9
          go_wp2_with fail
          refine KK.out.mono ?_
          rintro e w6 ⟨rfl, x6⟩
          refine leaves_cons (f := 56) (args := #[.pointer (some ⟨w.heap.size, 0, none⟩), .pointer (some ⟨w.heap.size + 1, 0, none⟩)]) (by simp) (by simp [go_sem]) ?_
          refine (KC.out (t :: l'') w6 HR9.out (HA5.out.ext x6) (HE5.out.ext x6) (HX5.out.then_ x6)).mono ?_
          rintro e u' w' ⟨rfl, rfl, r1, r2, hR⟩
          have HRR := Lib.hid hR
          clear hR
          simp [Leaves, settle, results, Tryz.results29, go_sem, r1, r2]
          exact HRR.out
end Go.Proofs.YtaioeailgknfjaaGreatDoor
namespace Go.Proofs.YtaioeailgknfjaaGreatDoor
open Go Go.RowKit Go.Sort

/-- A block that holds no term yet. -/
def OutZ (ob : Nat) (w : World) : Prop := Blk w ob 28 #[.int .u8 0, .int .u8 0, .int .i64 0, .int .i64 0, .string ⟨#[]⟩, .string ⟨#[]⟩, .string ⟨#[]⟩, .slice none 0 0]
/-- A block that holds a term. -/
def OutT (ob B : Nat) (w : World) (t : Tm) : Prop := ∃ a n c, Blk w ob 28 #[.int .u8 t.head.k, .int .u8 t.head.op, .int .i64 t.head.pos, .int .i64 t.head.n, .string t.head.name, .string t.head.arg, .string t.head.exn, .slice a n c] ∧ t.head.Fits ∧ n ≤ c ∧ c ≤ 9223372036854775807 ∧ IsTmsA (fun b => b < B) w t.kids a n
theorem Prs.aside {w w' : World} {pb ob : Nat} {l : List Tk} (h : Prs w pb l) (hO : OutZ ob w) (hx : ExtX (· = ob) w w') (hne : pb ≠ ob) : Prs w' pb l := by
  obtain ⟨b, o, n, c, i, L, hB, h1, h2, hT, hb, hl, hi⟩ := h
  obtain ⟨t, b', o', -, -, e, q0, q1, -⟩ := hT.at3 hi
  cases e
  have hbo : b ≠ ob := by
    rintro rfl
    have e0 := hO.cell (o + i * 3)
    have e1 := hO.cell (o + i * 3 + 1)
    rw [q0] at e0
    rw [q1] at e1
    generalize o + i * 3 = k at e0 e1
    match k, e0, e1 with
    | 0, _, e1 => simp at e1
    | 1, _, e1 => simp at e1
    | 2, e0, _ => simp at e0
    | 3, e0, _ => simp at e0
    | 4, e0, _ => simp at e0
    | 5, e0, _ => simp at e0
    | 6, e0, _ => simp at e0
    | 7, e0, _ => simp at e0
    | k + 8, e0, _ => simp at e0
  exact ⟨b, o, n, c, i, L, hB.extx hx hne, h1, h2, hT.extx hx hbo, hb, hl, hi⟩
set_option maxRecDepth 8000 in
set_option maxHeartbeats 4000000 in
theorem term_whole (ob : Nat) : Whole 30 ob (parseL .expr) (OutZ ob) (OutT ob) := by
  refine ⟨fun pb W l hP hE _ hob hO => ?_, ?_, fun w w' h hx => h.ext hx⟩
  · have hlt := hP.lt
    have KE := Lib.hid (parse_walk pb W l hP hE)
    obtain ⟨f0, -, hT⟩ := parseL_some (nt := .expr) hE
    have HTO := Lib.hid hT
    have HO := Lib.hid hO
    generalize parseL .expr l = r at *
    clear hP hE hT hO
    go_enter Tryz.func30, Tryz.ntmps30
    go_wp2_with fail
    refine KE.out.mono ?_
    intro e w1 hh
    cases r with
    | error l' =>
      obtain ⟨rfl, x1⟩ := hh.error
      exact ⟨rfl, x1.mono (fun b hb => .inl hb), rfl⟩
    | ok q =>
      obtain ⟨⟨x, ks⟩, l'⟩ := q
      obtain ⟨v, rfl, ⟨a, n, c, rfl, hf, g1, g2, hT⟩, hP1, x1⟩ := hh.ok
      have hZ1 : OutZ ob w1 := Blk.nez HO.out x1 (by omega)
      have hZ1' : Blk w1 ob 28 _ := hZ1
      obtain ⟨z0, z1, z2, z3, z4, z5, z6, z7⟩ := hZ1'.eight
      obtain ⟨f0', f1, f2, f3, f4, f5, f6, f7⟩ := hZ1'.frozen8
      have hlz := hZ1'.lt
      have X9 := (ExtX.refl (A := (· = ob)) w1).set8 (g := ob) (u0 := .int .u8 x.k) (u1 := .int .u8 x.op) (u2 := .int .i64 x.pos) (u3 := .int .i64 x.n) (u4 := .string x.name) (u5 := .string x.arg) (u6 := .string x.exn) (u7 := .slice a n c) (.inl rfl)
      have P9 := Lib.hid (hP1.aside hZ1 X9 (by omega))
      have B9 := Lib.hid (hZ1'.lay8 (u0 := .int .u8 x.k) (u1 := .int .u8 x.op) (u2 := .int .i64 x.pos) (u3 := .int .i64 x.n) (u4 := .string x.name) (u5 := .string x.arg) (u6 := .string x.exn) (u7 := .slice a n c))
      have hOW := HO.out.lt
      have T9 := Lib.hid (hT.set8 (u0 := .int .u8 x.k) (u1 := .int .u8 x.op) (u2 := .int .i64 x.pos) (u3 := .int .i64 x.n) (u4 := .string x.name) (u5 := .string x.arg) (u6 := .string x.exn) (u7 := .slice a n c) (show ob < W.heap.size from hOW))
      have X10 := Lib.hid ((x1.mono (A' := fun b => b = pb ∨ b = ob) (fun b hb => .inl hb)).trans (X9.mono (fun b hb => .inr hb)))
      have HF := Lib.hid hf
      clear hh hZ1 hZ1' hT hP1 x1 X9 hf
      go_wp2_with fail
      exact bodyPost_end (v := .tuple #[]) (results_none rfl _ _ _) rfl ⟨X10.out, rfl, P9.out, HTO.out.1, a, n, c, B9.out, HF.out, g1, g2, T9.out⟩
  · rintro B w w' t ⟨a, n, c, hB, hf, h1, h2, hT⟩ hx
    exact ⟨a, n, c, hB.extx hx (by rintro ⟨-, h⟩; exact h rfl), hf, h1, h2, hT.extx hx (fun b hb => hb.1)⟩
theorem ek_term : ∀ args w, (callFunc 30 args).run Tryz.prog w = .ok (.enter 30 args) w := fun args w => by kernel_rfl
/-- What Term hands back. -/
def RetTerm (w : World) (r : Except (Int × Int) Tm) (e : Ending) (w' : World) : Prop := Ext w w' ∧ match r with
  | .error (p, f) => e = .returned (.tuple #[.agg #[.int .u8 0, .int .u8 0, .int .i64 0, .int .i64 0, .string ⟨#[]⟩, .string ⟨#[]⟩, .string ⟨#[]⟩, .slice none 0 0], .int .i64 p, .int .i64 f])
  | .ok t => ∃ v, e = .returned (.tuple #[v, .int .i64 0, .int .i64 0]) ∧ IsTm w' t v
def termR (B : List UInt8) : Except (Int × Int) Tm := runR (parseL .expr) B
theorem runR_err {α : Type} {res : List Tk → Res α} {B : List UInt8} {p : Int × Int} (h : runR res B = .error p) : p.2 ≠ 0 := by
  unfold runR at h
  split at h
  · rename_i hf
    cases h
    exact hf
  split at h
  · cases h
    simp
  split at h
  · cases h
    simp
  · split at h
    · cases h
    · cases h
      simp
set_option maxRecDepth 8000 in
set_option maxHeartbeats 4000000 in
theorem parse_term (B : List UInt8) (w : World) (a : Option Addr) (len cap : Nat) (h1 : len ≤ cap) (h2 : cap ≤ 9223372036854775807) (hr : IsBytes w B a len) (hk : Knob w) :
    Calls Tryz.prog 11 #[.slice a len cap] w (RetTerm w (termR B)) := by
  have KR := Lib.hid fun (W : World) (ob : Nat) (h : Ext w W) (hO : OutZ ob W) (hob : ob < W.heap.size) => parse_run 30 ob ek_term (parseL .expr) (OutZ ob) (OutT ob) (term_whole ob) B W a len cap h1 h2 (hr.ext h) (hk.ext h) hO hob
  have HRE := Lib.hid fun p (h : termR B = .error p) => runR_err h
  have KR : Hid (∀ (W : World) (ob : Nat), Ext w W → OutZ ob W → ob < W.heap.size → Calls Tryz.prog 29 #[.slice a len cap, .func (.func 30) #[] #[.pointer (some ⟨ob, 0, none⟩)]] W (RetRun ob (OutT ob) W (termR B))) := Lib.hid fun W ob h hO hob => KR.out W ob h hO hob
  generalize termR B = r at *
  clear hr hk
  have hOO : OutZ (w.heap.size + 1) ((w.alloc (.cells #[.int .u8 0, .int .u8 0, .int .i64 0, .int .i64 0, .string ⟨#[]⟩, .string ⟨#[]⟩, .string ⟨#[]⟩, .slice none 0 0] 28)).alloc (.cells #[.int .u8 0, .int .u8 0, .int .i64 0, .int .i64 0, .string ⟨#[]⟩, .string ⟨#[]⟩, .string ⟨#[]⟩, .slice none 0 0] 28)) := by
    have h := Blk.new (w.alloc (.cells #[.int .u8 0, .int .u8 0, .int .i64 0, .int .i64 0, .string ⟨#[]⟩, .string ⟨#[]⟩, .string ⟨#[]⟩, .slice none 0 0] 28)) 28 #[.int .u8 0, .int .u8 0, .int .i64 0, .int .i64 0, .string ⟨#[]⟩, .string ⟨#[]⟩, .string ⟨#[]⟩, .slice none 0 0]
    rw [World.size_alloc] at h
    exact h
  have hZ0 := (Blk.new w 28 #[.int .u8 0, .int .u8 0, .int .i64 0, .int .i64 0, .string ⟨#[]⟩, .string ⟨#[]⟩, .string ⟨#[]⟩, .slice none 0 0]).alloc (.cells #[.int .u8 0, .int .u8 0, .int .i64 0, .int .i64 0, .string ⟨#[]⟩, .string ⟨#[]⟩, .string ⟨#[]⟩, .slice none 0 0] 28)
  have HOO := Lib.hid hOO
  have HZ0 := Lib.hid hZ0
  clear hOO hZ0
  go_enter Tryz.func11, Tryz.ntmps11
  go_wp2_with fail
  refine (KR.out _ _ (by (exact eX)) HOO.out (by simp)).mono ?_
  rintro e w1 ⟨rfl, x1, hV⟩
  have hZ1 := HZ0.out.extx x1 (show ¬ w.heap.size = w.heap.size + 1 by omega)
  obtain ⟨z0, z1, z2, z3, z4, z5, z6, z7⟩ := hZ1.eight
  obtain ⟨f0, f1, f2, f3, f4, f5, f6, f7⟩ := hZ1.frozen8
  have hlz := hZ1.lt
  have y1 : Ext w w1 := ExtX.ext (w0 := _) (by (exact eX)) x1 (fun b hb => by have hb : b = w.heap.size + 1 := hb; omega)
  have HZ1 := Lib.hid hZ1
  have HY1 := Lib.hid y1
  have HV := Lib.hid hV
  clear hZ1 y1 hV x1
  cases r with
  | error q =>
    obtain ⟨p, f⟩ := q
    have hf := HRE.out _ rfl
    have hfb : (f != 0) = true := by simpa using hf
    simp only [runE]
    clear hf
    have B9 := Lib.hid (HZ1.out.lay8 (u0 := .int .u8 0) (u1 := .int .u8 0) (u2 := .int .i64 0) (u3 := .int .i64 0) (u4 := .string ⟨#[]⟩) (u5 := .string ⟨#[]⟩) (u6 := .string ⟨#[]⟩) (u7 := .slice none 0 0))
    have Y9 := Lib.hid (HY1.out.set8 (g := w.heap.size) (u0 := .int .u8 0) (u1 := .int .u8 0) (u2 := .int .i64 0) (u3 := .int .i64 0) (u4 := .string ⟨#[]⟩) (u5 := .string ⟨#[]⟩) (u6 := .string ⟨#[]⟩) (u7 := .slice none 0 0) (Nat.le_refl _))
    go_wp2_with fail
    obtain ⟨r0, r1, r2, r3, r4, r5, r6, r7⟩ := B9.out.eight
    exact bodyPost_ret (v := .tuple #[.agg #[.int .u8 0, .int .u8 0, .int .i64 0, .int .i64 0, .string ⟨#[]⟩, .string ⟨#[]⟩, .string ⟨#[]⟩, .slice none 0 0], .int .i64 p, .int .i64 f]) (by simp [results, Tryz.results11, go_sem, r0, r1, r2, r3, r4, r5, r6, r7]) rfl ⟨Y9.out, rfl⟩
  | ok t =>
    obtain ⟨B0, hB0, ta, tn, tc, hB, hf, g1, g2, hT⟩ := HV.out t rfl
    obtain ⟨x, ks⟩ := t
    simp only [Tm.head, Tm.kids] at hB hf hT
    simp only [runE]
    obtain ⟨c0, c1, c2, c3, c4, c5, c6, c7⟩ := hB.eight
    have hlb := hB.lt
    have B9 := Lib.hid (HZ1.out.lay8 (u0 := .int .u8 x.k) (u1 := .int .u8 x.op) (u2 := .int .i64 x.pos) (u3 := .int .i64 x.n) (u4 := .string x.name) (u5 := .string x.arg) (u6 := .string x.exn) (u7 := .slice ta tn tc))
    have Y9 := Lib.hid (HY1.out.set8 (g := w.heap.size) (u0 := .int .u8 x.k) (u1 := .int .u8 x.op) (u2 := .int .i64 x.pos) (u3 := .int .i64 x.n) (u4 := .string x.name) (u5 := .string x.arg) (u6 := .string x.exn) (u7 := .slice ta tn tc) (Nat.le_refl _))
    have hB1 : w.heap.size < B0 := by simp at hB0; omega
    have T9 := Lib.hid (hT.set8 (g := w.heap.size) (u0 := .int .u8 x.k) (u1 := .int .u8 x.op) (u2 := .int .i64 x.pos) (u3 := .int .i64 x.n) (u4 := .string x.name) (u5 := .string x.arg) (u6 := .string x.exn) (u7 := .slice ta tn tc) hB1)
    have HF := Lib.hid hf
    clear hB hf hT
    go_wp2_with fail
    obtain ⟨r0, r1, r2, r3, r4, r5, r6, r7⟩ := B9.out.eight
    exact bodyPost_ret (v := .tuple #[.agg #[.int .u8 x.k, .int .u8 x.op, .int .i64 x.pos, .int .i64 x.n, .string x.name, .string x.arg, .string x.exn, .slice ta tn tc], .int .i64 0, .int .i64 0]) (by simp [results, Tryz.results11, go_sem, r0, r1, r2, r3, r4, r5, r6, r7]) rfl ⟨Y9.out, _, rfl, ta, tn, tc, rfl, HF.out, g1, g2, T9.out.any⟩
end Go.Proofs.YtaioeailgknfjaaGreatDoor

/- The walk of enclaveref05.Term. -/
namespace Go.Proofs.YtaioeailgknfjaaGreatDoor
open Go Go.RowKit Go.Sort

/-- Whether the tokens end where a walk ended. -/
def endR {α : Type} : Res α → Except (Int × Int) α
  | .error l => .error (posT l, 2)
  | .ok (a, l) => if kindT l = 6 then .ok a else .error (posT l, 2)
def beginE {α : Type} (res : List Tk → Res α) : Except (Int × Int) (List Tk) → Except (Int × Int) α
  | .error q => .error q
  | .ok L => endR (res L)
theorem beginR_run {α : Type} (res : List Tk → Res α) (B : List UInt8) : runR res B = beginE res (beginR B) := by
  unfold runR beginR
  by_cases h1 : (lexR B).2.2 ≠ 0
  · rw [if_pos h1, if_pos h1]; rfl
  · rw [if_neg h1, if_neg h1]
    by_cases h2 : 4001 < (lexR B).1.length
    · rw [if_pos h2, if_pos h2]; rfl
    · rw [if_neg h2, if_neg h2]
      show _ = endR (res (lexR B).1)
      cases res (lexR B).1 with
      | error l => rfl
      | ok p => rfl
theorem beginR_ok {B : List UInt8} {L : List Tk} (h : beginR B = .ok L) : Ended L := by
  unfold beginR at h
  split at h
  · cases h
  · rename_i h0
    split at h
    · cases h
    · cases h
      exact lexR_ended (by simpa using h0)
theorem beginR_len {B : List UInt8} {L : List Tk} (h : beginR B = .ok L) : L.length ≤ 4001 := by
  unfold beginR at h
  split at h
  · cases h
  · split at h
    · cases h
    · rename_i h1
      cases h
      omega
theorem beginR_err {B : List UInt8} {q : Int × Int} (h : beginR B = .error q) : q.2 ≠ 0 := by
  unfold beginR at h
  split at h
  · rename_i h0
    cases h
    exact h0
  · split at h
    · cases h; simp
    · cases h
/-- Where a state's walk ended: the token's place and kind. -/
theorem StS.tok {α : Type} {w : World} {L : List Tk} {a : Option Addr} {n c i : Nat} {bad : Bool} {r : Res α} (hL : IsL w L a n c) (h : StS L n i bad r) : ∃ t l' b o, a = some ⟨b, o, none⟩ ∧ (i : Int) < n ∧ w.cell? ⟨b, o + i * 3, none⟩ = some (.int .u8 t.k) ∧ w.cell? ⟨b, o + i * 3 + 1, none⟩ = some (.string t.text) ∧ w.cell? ⟨b, o + i * 3 + 2, none⟩ = some (.int .i64 t.pos) ∧ (match r with | .error l => bad = true ∧ l = t :: l' | .ok (_, l) => bad = false ∧ l = t :: l') := by
  cases r with
  | error l =>
    obtain ⟨hb, hA⟩ := h
    obtain ⟨t, l', b, o, e, ea, -, q0, q1, q2, -⟩ := hA.tok hL
    have := hA.2
    exact ⟨t, l', b, o, ea, by omega, q0, q1, q2, hb, e⟩
  | ok p =>
    obtain ⟨u, l⟩ := p
    obtain ⟨hb, hA, -⟩ := h
    obtain ⟨t, l', b, o, e, ea, -, q0, q1, q2, -⟩ := hA.tok hL
    have := hA.2
    exact ⟨t, l', b, o, ea, by omega, q0, q1, q2, hb, e⟩
set_option maxRecDepth 60000 in
set_option maxHeartbeats 8000000 in
theorem ref5_term_whole (B : List UInt8) (w : World) (a : Option Addr) (len cap : Nat) (h1 : len ≤ cap) (h2 : cap ≤ 9223372036854775807) (hr : IsBytes w B a len) :
    Calls Tryz.prog 17 #[.slice a len cap] w (RetTerm w (termR B)) := by
  have KB := Lib.hid fun W (h : Ext w W) => ref5_begin B W a len cap h1 h2 (hr.ext h)
  have HR := Lib.hid (beginR_run (parseL .expr) B)
  have HEN := Lib.hid fun L (h : beginR B = .ok L) => beginR_ok h
  have HER := Lib.hid fun q (h : beginR B = .error q) => beginR_err h
  have HR : Hid (termR B = _) := HR
  unfold RetB at KB
  generalize beginR B = bR at *
  generalize termR B = tR at *
  clear hr
  cases bR with
  | error q =>
    obtain ⟨p, f⟩ := q
    have hf := HER.out _ rfl
    have hfb : (f != 0) = true := by simpa using hf
    have HR2 : Hid (tR = .error (p, f)) := Lib.hid HR.out
    clear hf HR HEN HER
    go_enter Tryz.func17, Tryz.ntmps17
    go_wp2_with (go_at_call 40; refine (KB.out _ (by (exact eX))).mono ?_; rintro e w1 ⟨x1, rfl⟩; have hZ1 := blk_top x1; obtain ⟨z0, z1, z2, z3, z4, z5, z6, z7⟩ := hZ1.eight; obtain ⟨g0, g1, g2, g3, g4, g5, g6, g7⟩ := hZ1.frozen8; have lz := hZ1.lt)
    have Y1 : Ext w w1 := by (exact eX)
    have Z9 := (Blk.lay8 hZ1 (u0 := .int .u8 0) (u1 := .int .u8 0) (u2 := .int .i64 0) (u3 := .int .i64 0) (u4 := .string ⟨#[]⟩) (u5 := .string ⟨#[]⟩) (u6 := .string ⟨#[]⟩) (u7 := .slice none 0 0)).alloc (.cells #[.slice none 0 0, .int .i64 0, .bool false] 71)
    obtain ⟨r3, r4, r5, r6, r7, r8, r9, ra⟩ := Z9.eight
    have Y9 : Ext w ((w8s w1 w.heap.size ⟨0, 0, 0, 0, ⟨#[]⟩, ⟨#[]⟩, ⟨#[]⟩⟩ none 0 0).alloc (.cells #[.slice none 0 0, .int .i64 0, .bool false] 71)) := (ExtX.ext Y1 (w8s_x (w := w1) (g := w.heap.size)) (fun q (e : q = w.heap.size) => by omega)).alloc _
    rw [HR2.out]
    unfold w8s at Y9
    exact bodyPost_ret (v := .tuple #[.agg #[.int .u8 0, .int .u8 0, .int .i64 0, .int .i64 0, .string ⟨#[]⟩, .string ⟨#[]⟩, .string ⟨#[]⟩, .slice none 0 0], .int .i64 p, .int .i64 f]) (by simp [results, Tryz.results17, go_sem, r3, r4, r5, r6, r7, r8, r9, ra]) rfl ⟨Y9, rfl⟩
  | ok L =>
    have hE := HEN.out L rfl
    obtain ⟨f, hf, -⟩ := parseL_some (nt := .expr) hE
    have HR2 : Hid (tR = endR (parseL .expr L)) := Lib.hid HR.out
    have KE := Lib.hid fun (W : World) (a' : Option Addr) (n c : Nat) (hL : IsL W L a' n c) => (ref5_knot f).1 L a' n c 0 L (parseL .expr L) W hL ⟨rfl, by have := hL.toks.length; cases L with | nil => exact hE.elim | cons t l => simp at this; omega⟩ hE hf
    simp only [Array.append_empty] at KE
    generalize parseL .expr L = r0 at *
    clear HR HEN HER hf hE
    go_enter Tryz.func17, Tryz.ntmps17
    go_upto_region 4 with (go_at_call 40; refine (KB.out _ (by (exact eX))).mono ?_; rintro e w1 ⟨x1, a', n', c', rfl, hL1⟩; have hZ1 := blk_top x1; obtain ⟨z0, z1, z2, z3, z4, z5, z6, z7⟩ := hZ1.eight; obtain ⟨g0, g1, g2, g3, g4, g5, g6, g7⟩ := hZ1.frozen8; have lz := hZ1.lt)
    have HZ1 := Lib.hid hZ1
    have HY1 := Lib.hid (show Ext w w1 by (exact eX))
    have S1 : SBlk (w1.alloc (.cells #[.slice a' n' c', .int .i64 0, .bool false] 71)) w1.heap.size a' n' c' 0 false := Blk.new w1 _ _
    have HS1 := Lib.hid S1
    have KE1 := Lib.hid (KE.out _ a' n' c' (hL1.ext ((Ext.refl w1).alloc (.cells #[.slice a' n' c', .int .i64 0, .bool false] 71))))
    have HL1 := Lib.hid hL1
    obtain ⟨p0, p1, p2, f0, f1, f2, l0⟩ := SBlk.open_ S1
    clear hZ1 z0 z1 z2 z3 z4 z5 z6 z7 g0 g1 g2 g3 g4 g5 g6 g7 x1 hL1 S1 KB KE
    go_upto_region 5 with (go_at_call 44; refine (KE1.out).mono ?_; rintro e w2 ⟨x2, i2, bad2, y, ak, nk, ck, rfl, hs2, hT2⟩; obtain ⟨m0, m1, m2, k0, k1, k2, ll0⟩ := SBlk.open_ (SBlk.ext HS1.out x2))
    obtain ⟨t, l', b, o, rfl, hi2, q0, q1, q2, hst⟩ := StS.tok (HL1.out.ext (((Ext.refl w1).alloc (.cells #[.slice a' n' c', .int .i64 0, .bool false] 71)).trans x2)) hs2
    have hb1 : b < w1.heap.size := by
      have h := HL1.out.toks.at3 (i := 0) (by omega)
      obtain ⟨_, b', o', _, _, e, q, _, _⟩ := h
      cases e
      exact World.block_lt_of_cell? _ _ q
    have S2 := SBlk.ext HS1.out x2
    have X5 : ExtX (· = w1.heap.size) w2 ((w3s w2 w1.heap.size (some ⟨b, o, none⟩) n' c' i2 bad2).alloc (.cells #[.int .u8 y.k, .int .u8 y.op, .int .i64 y.pos, .int .i64 y.n, .string y.name, .string y.arg, .string y.exn, .slice ak nk ck] 28)) := w3s_x.alloc _
    have S5 : SBlk ((w3s w2 w1.heap.size (some ⟨b, o, none⟩) n' c' i2 bad2).alloc (.cells #[.int .u8 y.k, .int .u8 y.op, .int .i64 y.pos, .int .i64 y.n, .string y.name, .string y.arg, .string y.exn, .slice ak nk ck] 28)) w1.heap.size (some ⟨b, o, none⟩) n' c' i2 bad2 := (w3s_blk S2).alloc _
    have T5 := Blk.new (w3s w2 w1.heap.size (some ⟨b, o, none⟩) n' c' i2 bad2) 28 #[.int .u8 y.k, .int .u8 y.op, .int .i64 y.pos, .int .i64 y.n, .string y.name, .string y.arg, .string y.exn, .slice ak nk ck]
    rw [w3s_size] at T5
    have c0 := X5.cell (p := ⟨b, o + i2 * 3, none⟩) (show ¬ b = w1.heap.size by omega) q0
    have c1 := X5.cell (p := ⟨b, o + i2 * 3 + 1, none⟩) (show ¬ b = w1.heap.size by omega) q1
    have c2 := X5.cell (p := ⟨b, o + i2 * 3 + 2, none⟩) (show ¬ b = w1.heap.size by omega) q2
    have hw01 : w.heap.size < w1.heap.size := HZ1.out.lt
    have hwz := Below.size x2
    simp at hwz
    have Z5 := Blk.extx (HZ1.out.ext (((Ext.refl w1).alloc (.cells #[.slice (some ⟨b, o, none⟩) n' c', .int .i64 0, .bool false] 71)).trans x2)) X5 (show ¬ w.heap.size = w1.heap.size by omega)
    have Y5 : Ext w ((w3s w2 w1.heap.size (some ⟨b, o, none⟩) n' c' i2 bad2).alloc (.cells #[.int .u8 y.k, .int .u8 y.op, .int .i64 y.pos, .int .i64 y.n, .string y.name, .string y.arg, .string y.exn, .slice ak nk ck] 28)) := ExtX.ext (HY1.out.trans (((Ext.refl w1).alloc (.cells #[.slice (some ⟨b, o, none⟩) n' c', .int .i64 0, .bool false] 71)).trans x2)) X5 (fun q (e : q = w1.heap.size) => by omega)
    have K5 : Hid (∀ t l, r0 = .ok (t, l) → t.head = y ∧ y.Fits ∧ nk ≤ ck ∧ ck ≤ 9223372036854775807 ∧ IsTmsA (fun q => q = w.heap.size) ((w3s w2 w1.heap.size (some ⟨b, o, none⟩) n' c' i2 bad2).alloc (.cells #[.int .u8 y.k, .int .u8 y.op, .int .i64 y.pos, .int .i64 y.n, .string y.name, .string y.arg, .string y.exn, .slice ak nk ck] 28)) t.kids ak nk) := Lib.hid fun t l e => by
      obtain ⟨e1, e2, e3, e4, e5⟩ := hT2 t l e
      exact ⟨e1, e2, e3, e4, (e5.extx X5 (fun q (e : q = w1.heap.size) => by show q < _; simp; omega)).move (fun q _ (e : q = w.heap.size) => by show q < _; simp; omega) (fun _ _ _ hu => hu)⟩
    unfold w3s at S5 T5 c0 c1 c2 Z5 Y5 K5
    clear m0 m1 m2 k0 k1 k2 ll0 x2 p0 p1 p2 f0 f1 f2 l0 q0 q1 q2 S2 X5 hT2 hs2 HS1 KE1
    generalize (((w2.setCell ⟨w1.heap.size, 0, none⟩ (.slice (some ⟨b, o, none⟩) n' c')).setCell ⟨w1.heap.size, 1, none⟩ (.int .i64 (i2 : Nat))).setCell ⟨w1.heap.size, 2, none⟩ (.bool bad2)).alloc (.cells #[.int .u8 y.k, .int .u8 y.op, .int .i64 y.pos, .int .i64 y.n, .string y.name, .string y.arg, .string y.exn, .slice ak nk ck] 28) = W5 at *
    generalize w2.heap.size = g8 at *
    have HS5 := Lib.hid S5
    have HT5 := Lib.hid T5
    have HZ5 := Lib.hid Z5
    have HY5 := Lib.hid Y5
    obtain ⟨z0, z1, z2, z3, z4, z5, z6, z7⟩ := Z5.eight
    obtain ⟨g0, g1, g2, g3, g4, g5, g6, g7⟩ := Z5.frozen8
    have lz := Z5.lt
    obtain ⟨p0, p1, p2, f0, f1, f2, l0⟩ := SBlk.open_ S5
    obtain ⟨d0, d1, d2, d3, d4, d5, d6, d7⟩ := T5.eight
    clear S5 T5 Z5 Y5 HZ1 HL1
    have hbz : b ≠ w.heap.size := by
      rintro rfl
      have h1 := HZ5.out.cell (o + i2 * 3)
      rw [c0] at h1
      have h2 := HZ5.out.cell (o + i2 * 3 + 1)
      rw [c1] at h2
      match h : o + i2 * 3, h1, h2 with
      | 0, h1, h2 => simp at h2
      | 1, h1, h2 => simp at h2
      | 2, h1, h2 => simp at h1
      | 3, h1, h2 => simp at h1
      | 4, h1, h2 => simp at h1
      | 5, h1, h2 => simp at h1
      | 6, h1, h2 => simp at h1
      | 7, h1, h2 => simp at h1
      | k + 8, h1, h2 => simp at h1
    clear c1
    by_cases hgood : ∃ tt ll, r0 = .ok (tt, ll) ∧ t.k = 6
    · obtain ⟨tt, ll, rfl, hk⟩ := hgood
      obtain ⟨rfl, rfl⟩ := hst
      have hkb : (t.k != 6) = false := by simpa using hk
      have HR3 : Hid (tR = .ok tt) := Lib.hid (HR2.out.trans (if_pos hk))
      clear HR2 hk
      obtain ⟨e1, e2, e3, e4, e5⟩ := K5.out tt _ rfl
      subst e1
      have HTT := Lib.hid (And.intro e2 (And.intro e3 (And.intro e4 e5)))
      clear K5 e2 e3 e4 e5
      go_wp2_with fail
      have Y9 : Ext w (w8s W5 w.heap.size tt.head ak nk ck) := ExtX.ext HY5.out w8s_x (fun q (e : q = w.heap.size) => by omega)
      have B9 := HZ5.out.lay8 (u0 := .int .u8 tt.head.k) (u1 := .int .u8 tt.head.op) (u2 := .int .i64 tt.head.pos) (u3 := .int .i64 tt.head.n) (u4 := .string tt.head.name) (u5 := .string tt.head.arg) (u6 := .string tt.head.exn) (u7 := .slice ak nk ck)
      have HI9 : Hid (IsTm (w8s W5 w.heap.size tt.head ak nk ck) tt (.agg #[.int .u8 tt.head.k, .int .u8 tt.head.op, .int .i64 tt.head.pos, .int .i64 tt.head.n, .string tt.head.name, .string tt.head.arg, .string tt.head.exn, .slice ak nk ck])) := Lib.hid (by
        obtain ⟨e2, e3, e4, e5⟩ := HTT.out
        exact ⟨ak, nk, ck, rfl, e2, e3, by unfold maxLen; omega, (e5.extx w8s_x (fun q e => e)).any⟩)
      obtain ⟨r3, r4, r5, r6, r7, r8, r9, ra⟩ := B9.eight
      rw [HR3.out]
      unfold w8s at Y9 HI9
      exact bodyPost_ret (v := .tuple #[.agg #[.int .u8 tt.head.k, .int .u8 tt.head.op, .int .i64 tt.head.pos, .int .i64 tt.head.n, .string tt.head.name, .string tt.head.arg, .string tt.head.exn, .slice ak nk ck], .int .i64 0, .int .i64 0]) (by simp [results, Tryz.results17, go_sem, r3, r4, r5, r6, r7, r8, r9, ra]) rfl ⟨Y9, _, rfl, HI9.out⟩
    · have hbad : tR = .error (t.pos, 2) ∧ (bad2 = true ∨ bad2 = false ∧ (t.k != 6) = true) := by
        have hR := HR2.out
        cases r0 with
        | error l =>
          obtain ⟨rfl, rfl⟩ := hst
          exact ⟨hR, .inl rfl⟩
        | ok q =>
          obtain ⟨tt, ll⟩ := q
          obtain ⟨rfl, rfl⟩ := hst
          have hne : ¬ t.k = 6 := fun h => hgood ⟨tt, _, rfl, h⟩
          exact ⟨hR.trans (if_neg hne), .inr ⟨rfl, by simpa using hne⟩⟩
      have HR3 := Lib.hid hbad.1
      have hbad := hbad.2
      clear HR2 hst hgood K5
      have nS0 := fun W (h : ExtX (· = w.heap.size) W5 W) => h.cell (p := ⟨w1.heap.size, 0, none⟩) (show ¬ w1.heap.size = w.heap.size by omega) p0
      have nS1 := fun W (h : ExtX (· = w.heap.size) W5 W) => h.cell (p := ⟨w1.heap.size, 1, none⟩) (show ¬ w1.heap.size = w.heap.size by omega) p1
      have nC2 := fun W (h : ExtX (· = w.heap.size) W5 W) => h.cell (p := ⟨b, o + i2 * 3 + 2, none⟩) hbz c2
      have Y9 : ExtX (· = w.heap.size) W5 (w8s W5 w.heap.size ⟨0, 0, 0, 0, ⟨#[]⟩, ⟨#[]⟩, ⟨#[]⟩⟩ none 0 0) := w8s_x
      have HY9 := Lib.hid (ExtX.ext HY5.out Y9 (fun q (e : q = w.heap.size) => by omega))
      have HB9 := Lib.hid (HZ5.out.lay8 (u0 := .int .u8 0) (u1 := .int .u8 0) (u2 := .int .i64 0) (u3 := .int .i64 0) (u4 := .string ⟨#[]⟩) (u5 := .string ⟨#[]⟩) (u6 := .string ⟨#[]⟩) (u7 := .slice none 0 0))
      unfold w8s at HY9
      clear Y9
      rcases hbad with rfl | ⟨rfl, hkb⟩
      · go_upto_region 6 with fail
        refine wp_region_held_drew (S := fun w' => ExtX (· = w.heap.size) W5 w') (by kernel_rfl) (by (try dsimp only); (exact xX)) (fun hHeld => ?_)
        refine tK 0 (v := ?_) ?_ ?_;rotate_left;(focus (intro w hSw;(try dsimp only at hSw);go_simp;(try with_reducible rfl)));try simp only [Act.put,pA,pB,pC]
        refine tK 1 (v := ?_) ?_ ?_;rotate_left;(focus (intro w hSw;(try dsimp only at hSw);go_simp;(try with_reducible rfl)));try simp only [Act.put,pA,pB,pC]
        refine tK 2 (v := ?_) ?_ ?_;rotate_left;(focus (intro w hSw;(try dsimp only at hSw);go_simp;(try with_reducible rfl)));try simp only [Act.put,pA,pB,pC]
        refine tK 3 (v := ?_) ?_ ?_;rotate_left;(focus (intro w hSw;(try dsimp only at hSw);go_simp;(try with_reducible rfl)));try simp only [Act.put,pA,pB,pC]
        refine tK 4 (v := ?_) ?_ ?_;rotate_left;(focus (intro w hSw;(try dsimp only at hSw);go_simp;(try with_reducible rfl)));try simp only [Act.put,pA,pB,pC]
        refine tK 5 (v := ?_) ?_ ?_;rotate_left;(focus (intro w hSw;(try dsimp only at hSw);go_simp;(try with_reducible rfl)));try simp only [Act.put,pA,pB,pC]
        refine tK 6 (v := ?_) ?_ ?_;rotate_left;(focus (intro w hSw;(try dsimp only at hSw);go_simp;(try with_reducible rfl)));try simp only [Act.put,pA,pB,pC]
        refine tK 7 (v := ?_) ?_ ?_;rotate_left;(focus (intro w hSw;(try dsimp only at hSw);go_simp;(try with_reducible rfl)));try simp only [Act.put,pA,pB,pC]
        refine held_do 8 rfl (by kernel_rfl) (by rfl) (fun K hK => ?_); go_simp; refine hK.out _ _ (by (try dsimp only); (exact xX)) (fun hHeld => ?_); clear hK K; try simp only [Act.put,pA,pB,pC]
        refine tK 9 (v := ?_) ?_ ?_;rotate_left;(focus (intro w hSw;(try dsimp only at hSw);go_simp;(try with_reducible rfl)));try simp only [Act.put,pA,pB,pC]
        refine tK 10 (v := ?_) ?_ ?_;rotate_left;(focus (intro w hSw;(try dsimp only at hSw);go_simp;(try with_reducible rfl)));try simp only [Act.put,pA,pB,pC]
        refine wpAnyH_done (by kernel_rfl) ?_ _
        repeat (first | go_values | go_skip | go_guarded | go_step | go_upon)
        obtain ⟨r3, r4, r5, r6, r7, r8, r9, ra⟩ := HB9.out.drew.eight
        rw [HR3.out]
        exact bodyPost_ret (v := .tuple #[.agg #[.int .u8 0, .int .u8 0, .int .i64 0, .int .i64 0, .string ⟨#[]⟩, .string ⟨#[]⟩, .string ⟨#[]⟩, .slice none 0 0], .int .i64 t.pos, .int .i64 2]) (by simp [results, Tryz.results17, go_sem, r3, r4, r5, r6, r7, r8, r9, ra]) rfl ⟨HY9.out.drew, rfl⟩
      · go_upto_region 6 with fail
        refine wp_region_held_drew (S := fun w' => ExtX (· = w.heap.size) W5 w') (by kernel_rfl) (by (try dsimp only); (exact xX)) (fun hHeld => ?_)
        refine tK 0 (v := ?_) ?_ ?_;rotate_left;(focus (intro w hSw;(try dsimp only at hSw);go_simp;(try with_reducible rfl)));try simp only [Act.put,pA,pB,pC]
        refine tK 1 (v := ?_) ?_ ?_;rotate_left;(focus (intro w hSw;(try dsimp only at hSw);go_simp;(try with_reducible rfl)));try simp only [Act.put,pA,pB,pC]
        refine tK 2 (v := ?_) ?_ ?_;rotate_left;(focus (intro w hSw;(try dsimp only at hSw);go_simp;(try with_reducible rfl)));try simp only [Act.put,pA,pB,pC]
        refine tK 3 (v := ?_) ?_ ?_;rotate_left;(focus (intro w hSw;(try dsimp only at hSw);go_simp;(try with_reducible rfl)));try simp only [Act.put,pA,pB,pC]
        refine tK 4 (v := ?_) ?_ ?_;rotate_left;(focus (intro w hSw;(try dsimp only at hSw);go_simp;(try with_reducible rfl)));try simp only [Act.put,pA,pB,pC]
        refine tK 5 (v := ?_) ?_ ?_;rotate_left;(focus (intro w hSw;(try dsimp only at hSw);go_simp;(try with_reducible rfl)));try simp only [Act.put,pA,pB,pC]
        refine tK 6 (v := ?_) ?_ ?_;rotate_left;(focus (intro w hSw;(try dsimp only at hSw);go_simp;(try with_reducible rfl)));try simp only [Act.put,pA,pB,pC]
        refine tK 7 (v := ?_) ?_ ?_;rotate_left;(focus (intro w hSw;(try dsimp only at hSw);go_simp;(try with_reducible rfl)));try simp only [Act.put,pA,pB,pC]
        refine held_do 8 rfl (by kernel_rfl) (by rfl) (fun K hK => ?_); go_simp; refine hK.out _ _ (by (try dsimp only); (exact xX)) (fun hHeld => ?_); clear hK K; try simp only [Act.put,pA,pB,pC]
        refine tK 9 (v := ?_) ?_ ?_;rotate_left;(focus (intro w hSw;(try dsimp only at hSw);go_simp;(try with_reducible rfl)));try simp only [Act.put,pA,pB,pC]
        refine tK 10 (v := ?_) ?_ ?_;rotate_left;(focus (intro w hSw;(try dsimp only at hSw);go_simp;(try with_reducible rfl)));try simp only [Act.put,pA,pB,pC]
        refine wpAnyH_done (by kernel_rfl) ?_ _
        repeat (first | go_values | go_skip | go_guarded | go_step | go_upon)
        obtain ⟨r3, r4, r5, r6, r7, r8, r9, ra⟩ := HB9.out.drew.eight
        rw [HR3.out]
        exact bodyPost_ret (v := .tuple #[.agg #[.int .u8 0, .int .u8 0, .int .i64 0, .int .i64 0, .string ⟨#[]⟩, .string ⟨#[]⟩, .string ⟨#[]⟩, .slice none 0 0], .int .i64 t.pos, .int .i64 2]) (by simp [results, Tryz.results17, go_sem, r3, r4, r5, r6, r7, r8, r9, ra]) rfl ⟨HY9.out.drew, rfl⟩
end Go.Proofs.YtaioeailgknfjaaGreatDoor

/- A long row of operands, in plain Lean. The tokens of a long row of operands, in plain Lean. The tokens of a text that stands ahead of another, in plain Lean. The tokens of texts in brackets, in plain Lean. The laws on texts in brackets, in plain Lean. More laws on texts, in plain Lean. Exceptions declared ahead of a text, in plain Lean. The program of a text, in plain Lean; no program in sight. -/
namespace Go.Proofs.YtaioeailgknfjaaGreatDoor
open Go

end Go.Proofs.YtaioeailgknfjaaGreatDoor
namespace Go.Proofs.YtaioeailgknfjaaGreatDoor
open Go

end Go.Proofs.YtaioeailgknfjaaGreatDoor
namespace Go.Proofs.YtaioeailgknfjaaGreatDoor
open Go

end Go.Proofs.YtaioeailgknfjaaGreatDoor
namespace Go.Proofs.YtaioeailgknfjaaGreatDoor
open Go

end Go.Proofs.YtaioeailgknfjaaGreatDoor
namespace Go.Proofs.YtaioeailgknfjaaGreatDoor
open Go

/-- A text is that term's. -/
def Parses (B : List UInt8) (t : Tm) : Prop := ∃ (o : List Tok) (e : Tk) (f : Nat), lexL 0 B = .ok o ∧ parseF f .expr (o.map Tok.tk) = some (.ok (t, [e])) ∧ e.k = 6
end Go.Proofs.YtaioeailgknfjaaGreatDoor
namespace Go.Proofs.YtaioeailgknfjaaGreatDoor
open Go

/-- There are not more tokens than bytes, and an end. -/
theorem lexL_count (p : Nat) (l : List UInt8) : ∀ o, lexL p l = .ok o → o.length ≤ l.length + 1 := by
  refine lex_ind (P := fun p l => ∀ o, lexL p l = .ok o → o.length ≤ l.length + 1) ?_ ?_ ?_ ?_ l.length p l (Nat.le_refl _)
  · intro p o h
    rw [lexL_nil] at h
    cases h
    exact Nat.le_refl _
  · intro p c r hc ih o h
    rw [lexL_blank hc] at h
    have := ih o h
    simp only [List.length_cons]
    omega
  · intro p c r hc ht o h
    rw [lexL_none hc _ ht] at h
    cases h
  · intro p c r n k hc ht ih o h
    have hbd := tokAt_bd ht
    rw [lexL_tok hc _ ht] at h
    cases e1 : lexL (p + n) ((c :: r).drop n) with
    | error x => rw [e1] at h; cases h
    | ok o1 =>
      rw [e1] at h
      have h : Except.ok (⟨k, bs ((c :: r).take n), p⟩ :: o1) = Except.ok (ε := Nat) o := h
      cases h
      have := ih o1 e1
      rw [List.length_drop] at this
      simp only [List.length_cons] at this hbd ⊢
      omega
end Go.Proofs.YtaioeailgknfjaaGreatDoor
namespace Go.Proofs.YtaioeailgknfjaaGreatDoor
open Go

end Go.Proofs.YtaioeailgknfjaaGreatDoor
namespace Go.Proofs.YtaioeailgknfjaaGreatDoor
open Go

/-- The exceptions that are declared ahead. -/
def exnsG : List Tk → List Tk → Res (List Tk)
  | acc, t :: u :: v :: l => if isT [w_exn] [t] then if u.k = 3 then if isT [s_semi] [v] then exnsG (acc ++ [u]) l else .error (v :: l) else .error (u :: v :: l) else .ok (acc, t :: u :: v :: l)
  | acc, [t, u] => if isT [w_exn] [t] then .error [u] else .ok (acc, [t, u])
  | acc, l => .ok (acc, l)
/-- The term behind them. -/
def bodyG (acc : List Tk) (l : List Tk) : Res (List Tk × Tm) := match parseL .expr l with
  | .error l' => .error l'
  | .ok (t, l') => .ok ((acc, t), l')
/-- The program of tokens, some exceptions met. -/
def progG (acc l : List Tk) : Res (List Tk × Tm) := match exnsG acc l with
  | .error l' => .error l'
  | .ok (es, l') => bodyG es l'
def progL (l : List Tk) : Res (List Tk × Tm) := progG [] l
theorem isT_head (xs : List ByteArray) (t : Tk) (l : List Tk) : isT xs (t :: l) = isT xs [t] := rfl
theorem progG_body {acc l : List Tk} (h : isT [w_exn] l = false) : progG acc l = bodyG acc l := by
  unfold progG
  match l, h with
  | [], _ => rfl
  | [t], _ => rfl
  | [t, u], h => rw [isT_head] at h; simp [exnsG, h]
  | t :: u :: v :: l, h => rw [isT_head] at h; simp [exnsG, h]
theorem progG_kind {acc l : List Tk} {t u : Tk} (h : isT [w_exn] (t :: u :: l) = true) (he : Ended (t :: u :: l)) (hu : u.k ≠ 3) : progG acc (t :: u :: l) = .error (u :: l) := by
  unfold progG
  rw [isT_head] at h
  match l with
  | [] => simp [exnsG, h]
  | v :: l => simp [exnsG, h, hu]
theorem progG_semi {acc l : List Tk} {t u v : Tk} (h : isT [w_exn] (t :: u :: v :: l) = true) (hu : u.k = 3) (hv : isT [s_semi] (v :: l) = false) : progG acc (t :: u :: v :: l) = .error (v :: l) := by
  unfold progG
  rw [isT_head] at h hv
  simp [exnsG, h, hu, hv]
theorem progG_more {acc l : List Tk} {t u v : Tk} (h : isT [w_exn] (t :: u :: v :: l) = true) (hu : u.k = 3) (hv : isT [s_semi] (v :: l) = true) : progG acc (t :: u :: v :: l) = progG (acc ++ [u]) l := by
  unfold progG
  rw [isT_head] at h hv
  rw [exnsG, if_pos h, if_pos hu, if_pos hv]
end Go.Proofs.YtaioeailgknfjaaGreatDoor

/- The walk of the closure of parse.Parse: a program out of tokens. The walk of the closure of parse.Parse: exceptions one by one, and the term behind them. The walk of parse.Parse. -/
namespace Go.Proofs.YtaioeailgknfjaaGreatDoor
open Go Go.RowKit Go.Sort

/-- A block that holds exceptions, and no term yet. -/
def OutE (ob : Nat) (w : World) (ea : Option Addr) (en ec : Nat) : Prop := Blk w ob 41 #[.slice ea en ec, .int .u8 0, .int .u8 0, .int .i64 0, .int .i64 0, .string ⟨#[]⟩, .string ⟨#[]⟩, .string ⟨#[]⟩, .slice none 0 0]
def OutPZ (ob : Nat) (w : World) : Prop := OutE ob w none 0 0
/-- A row of tokens that moves along. -/
def ToksB (B : Nat) (w : World) (es : List Tk) (ea : Option Addr) (en : Nat) : Prop := IsToks w es ea en ∧ ∀ p, ea = some p → B ≤ p.block
/-- A block that holds a program. -/
def OutP (ob B : Nat) (w : World) (q : List Tk × Tm) : Prop := ∃ ea en ec a n c, Blk w ob 41 #[.slice ea en ec, .int .u8 q.2.head.k, .int .u8 q.2.head.op, .int .i64 q.2.head.pos, .int .i64 q.2.head.n, .string q.2.head.name, .string q.2.head.arg, .string q.2.head.exn, .slice a n c] ∧ en ≤ ec ∧ ec ≤ 9223372036854775807 ∧ ToksB B w q.1 ea en ∧ q.2.head.Fits ∧ n ≤ c ∧ c ≤ 9223372036854775807 ∧ IsTmsA (fun b => b < B) w q.2.kids a n
theorem IsToks.keep {A : Nat → Prop} {w w' : World} (hx : ExtX A w w') {l : List Tk} {a : Option Addr} {n : Nat} (hA : ∀ p, a = some p → ¬ A p.block) (h : IsToks w l a n) : IsToks w' l a n :=
  ⟨⟨h.1.1, h.1.2.1, fun i cs hi => by
    obtain ⟨b', o', e, q⟩ := h.1.2.2 i cs hi
    exact ⟨b', o', e, fun j v hj => hx.cell (fun hb => hA _ e hb) (q j v hj)⟩⟩, h.2⟩
theorem ToksB.keep {A : Nat → Prop} {B : Nat} {w w' : World} (hx : ExtX A w w') {l : List Tk} {a : Option Addr} {n : Nat} (hA : ∀ b, B ≤ b → ¬ A b) (h : ToksB B w l a n) : ToksB B w' l a n :=
  ⟨h.1.keep hx fun p e => hA _ (h.2 p e), h.2⟩
theorem Prs.asideP {w w' : World} {pb ob : Nat} {T : TypeId} {l : List Tk} {ea a : Option Addr} {en ec n c : Nat} {x : Hd} (h : Prs w pb l) (hO : Blk w ob T #[.slice ea en ec, .int .u8 x.k, .int .u8 x.op, .int .i64 x.pos, .int .i64 x.n, .string x.name, .string x.arg, .string x.exn, .slice a n c]) (hx : ExtX (· = ob) w w') (hne : pb ≠ ob) : Prs w' pb l := by
  obtain ⟨b, o, n, c, i, L, hB, h1, h2, hT, hb, hl, hi⟩ := h
  obtain ⟨t, b', o', -, -, e, q0, q1, -⟩ := hT.at3 hi
  cases e
  have hbo : b ≠ ob := by
    rintro rfl
    have e0 := hO.cell (o + i * 3)
    have e1 := hO.cell (o + i * 3 + 1)
    rw [q0] at e0
    rw [q1] at e1
    generalize o + i * 3 = k at e0 e1
    match k, e0, e1 with
    | 0, e0, _ => simp at e0
    | 1, _, e1 => simp at e1
    | 2, _, e1 => simp at e1
    | 3, e0, _ => simp at e0
    | 4, e0, _ => simp at e0
    | 5, e0, _ => simp at e0
    | 6, e0, _ => simp at e0
    | 7, e0, _ => simp at e0
    | 8, e0, _ => simp at e0
    | k + 9, e0, _ => simp at e0
  exact ⟨b, o, n, c, i, L, hB.extx hx hne, h1, h2, hT.extx hx hbo, hb, hl, hi⟩
theorem Prs.aside0 {w w' : World} {pb ob : Nat} {l : List Tk} {ea : Option Addr} {en ec : Nat} (h : Prs w pb l) (hO : OutE ob w ea en ec) (hx : ExtX (· = ob) w w') (hne : pb ≠ ob) : Prs w' pb l :=
  h.asideP (x := ⟨0, 0, 0, 0, ⟨#[]⟩, ⟨#[]⟩, ⟨#[]⟩⟩) hO hx hne
theorem Blk.nine {w : World} {g : Nat} {t : TypeId} {c0 c1 c2 c3 c4 c5 c6 c7 c8 : Value} (h : Blk w g t #[c0, c1, c2, c3, c4, c5, c6, c7, c8]) :
    w.cell? ⟨g, 0, none⟩ = some c0 ∧ w.cell? ⟨g, 1, none⟩ = some c1 ∧ w.cell? ⟨g, 2, none⟩ = some c2 ∧ w.cell? ⟨g, 3, none⟩ = some c3 ∧ w.cell? ⟨g, 4, none⟩ = some c4 ∧ w.cell? ⟨g, 5, none⟩ = some c5 ∧ w.cell? ⟨g, 6, none⟩ = some c6 ∧ w.cell? ⟨g, 7, none⟩ = some c7 ∧ w.cell? ⟨g, 8, none⟩ = some c8 :=
  ⟨h.cell 0, h.cell 1, h.cell 2, h.cell 3, h.cell 4, h.cell 5, h.cell 6, h.cell 7, h.cell 8⟩
theorem Blk.frozen9 {w : World} {g : Nat} {t : TypeId} {cs : Array Value} (h : Blk w g t cs) :
    w.frozen? ⟨g, 0, none⟩ = false ∧ w.frozen? ⟨g, 1, none⟩ = false ∧ w.frozen? ⟨g, 2, none⟩ = false ∧ w.frozen? ⟨g, 3, none⟩ = false ∧ w.frozen? ⟨g, 4, none⟩ = false ∧ w.frozen? ⟨g, 5, none⟩ = false ∧ w.frozen? ⟨g, 6, none⟩ = false ∧ w.frozen? ⟨g, 7, none⟩ = false ∧ w.frozen? ⟨g, 8, none⟩ = false :=
  ⟨h.frozen 0, h.frozen 1, h.frozen 2, h.frozen 3, h.frozen 4, h.frozen 5, h.frozen 6, h.frozen 7, h.frozen 8⟩
/-- A term laid behind the exceptions. -/
def lay9 (w : World) (g : Nat) (u1 u2 u3 u4 u5 u6 u7 u8 : Value) : World := (((((((w.setCell ⟨g, 1, none⟩ u1).setCell ⟨g, 2, none⟩ u2).setCell ⟨g, 3, none⟩ u3).setCell ⟨g, 4, none⟩ u4).setCell ⟨g, 5, none⟩ u5).setCell ⟨g, 6, none⟩ u6).setCell ⟨g, 7, none⟩ u7).setCell ⟨g, 8, none⟩ u8
theorem Blk.lay9 {w : World} {g : Nat} {t : TypeId} {c0 c1 c2 c3 c4 c5 c6 c7 c8 u1 u2 u3 u4 u5 u6 u7 u8 : Value} (h : Blk w g t #[c0, c1, c2, c3, c4, c5, c6, c7, c8]) : Blk (lay9 w g u1 u2 u3 u4 u5 u6 u7 u8) g t #[c0, u1, u2, u3, u4, u5, u6, u7, u8] := by
  have h := (((((((h.set_ 1 u1).set_ 2 u2).set_ 3 u3).set_ 4 u4).set_ 5 u5).set_ 6 u6).set_ 7 u7).set_ 8 u8
  unfold Go.Proofs.YtaioeailgknfjaaGreatDoor.lay9
  simpa using h
theorem ExtX.lay9 {A : Nat → Prop} {a w : World} {g : Nat} {u1 u2 u3 u4 u5 u6 u7 u8 : Value} (h : ExtX A a w) (hg : A g ∨ a.heap.size ≤ g) : ExtX A a (lay9 w g u1 u2 u3 u4 u5 u6 u7 u8) :=
  (((((((h.setCell (p := ⟨g, 1, none⟩) hg u1).setCell (p := ⟨g, 2, none⟩) hg u2).setCell (p := ⟨g, 3, none⟩) hg u3).setCell (p := ⟨g, 4, none⟩) hg u4).setCell (p := ⟨g, 5, none⟩) hg u5).setCell (p := ⟨g, 6, none⟩) hg u6).setCell (p := ⟨g, 7, none⟩) hg u7).setCell (p := ⟨g, 8, none⟩) hg u8
theorem IsTmsA.lay9 {A : Nat → Prop} {w : World} {g : Nat} {u1 u2 u3 u4 u5 u6 u7 u8 : Value} {l : List Tm} {a : Option Addr} {len : Nat} (h : IsTmsA A w l a len) (hg : A g) : IsTmsA A (lay9 w g u1 u2 u3 u4 u5 u6 u7 u8) l a len :=
  h.extx ((ExtX.refl (A := (· = g)) w).lay9 (.inl rfl)) (fun b e => by have e : b = g := e; subst e; exact hg)
theorem ExtX.onto {A A' : Nat → Prop} {w w' w'' : World} (h : ExtX A w w') (k : ExtX A' w' w'') (hA : ∀ b, A' b → A b ∨ w.heap.size ≤ b) : ExtX A w w'' :=
  ⟨k.os.trans h.os, k.tape.trans h.tape, k.output.trans h.output, Nat.le_trans h.size k.size, fun i hi ha => (k.block i (Nat.lt_of_lt_of_le hi h.size) (fun e => by rcases hA i e with g | g; exact ha g; omega)).trans (h.block i hi ha)⟩
/-- What an exception's round writes. -/
def ObA (ob base b : Nat) : Prop := b = ob ∨ base ≤ b
theorem toks_snoc2 (o : List Tk) (t : Tk) : ((o ++ [t]).map tkcells).flatten = (o.map tkcells).flatten ++ tkcells t := by simp
theorem owns_toks {w : World} {base : Nat} {v : Value} {o : List Tk} (h : w.ownsRow base 37 3 v o.length (o.map tkcells).flatten) (hf : ∀ t, t ∈ o → t.Fits) : ∃ a c, v = .slice a o.length c ∧ o.length ≤ c ∧ c ≤ 9223372036854775807 ∧ ToksB base w o a o.length := by
  obtain ⟨a, c, rfl, h1, h2, h3⟩ := owns_flat h (by decide) (tkcells_len o)
  refine ⟨a, c, rfl, h1, h2, ⟨h3, hf⟩, fun p e => ?_⟩
  subst e
  have := h.2
  rcases this with ⟨e, -⟩ | ⟨g, cap, cur, e, hg, -⟩
  · cases e
  · cases e
    exact hg
end Go.Proofs.YtaioeailgknfjaaGreatDoor
namespace Go.Proofs.YtaioeailgknfjaaGreatDoor
open Go Go.RowKit Go.Sort

set_option maxRecDepth 60000 in
set_option maxHeartbeats 8000000 in
theorem prog_call (pb ob : Nat) (W : World) (l : List Tk) (hP : Prs W pb l) (hE : Ended l) (hl4 : l.length ≤ 4001) (hob : ob < pb) (hO : OutPZ ob W) :
    Calls Tryz.prog 35 #[.pointer (some ⟨pb, 0, none⟩), .pointer (some ⟨ob, 0, none⟩)] W fun e w' => ExtX (fun b => b = pb ∨ b = ob) W w' ∧ match progL l with
    | .error l' => e = thrown l'
    | .ok (a, l') => e = .returned (.tuple #[]) ∧ Prs w' pb l' ∧ Ended l' ∧ OutP ob W.heap.size w' a := by
  have hlt := hP.lt
  obtain ⟨i0, hi, hz0, hz1', hz2'⟩ := infoTk1
  have HIN := Lib.hid (And.intro hi (And.intro hz0 (And.intro hz1' hz2')))
  have HR := Lib.hid (show progL l = progG [] l from rfl)
  generalize progL l = R at *
  have HP := Lib.hid hP
  have HE := Lib.hid hE
  have HO := Lib.hid hO
  clear hP hE hO hi hz0 hz1' hz2'
  go_enter Tryz.func35, Tryz.ntmps35
  go_wp2_with fail
  go_loopg [] (l.length) (fun g wr => ∃ (acc l1 : List Tk) (ea : Option Addr) (ec : Nat), g = l1.length ∧ R = progG acc l1 ∧ Ended l1 ∧ Prs wr pb l1 ∧ OutE ob wr ea acc.length ec ∧ wr.ownsRow W.heap.size 37 3 (.slice ea acc.length ec) acc.length (acc.map tkcells).flatten ∧ (∀ t, t ∈ acc → t.Fits) ∧ acc.length + l1.length ≤ l.length ∧ ExtX (fun b => b = pb ∨ b = ob) W wr)
  case atStart => exact ⟨[], l, none, 0, rfl, HR.out, HE.out, HP.out, HO.out, World.ownsRow_nil _ _ _ _, by simp, by simp, ExtX.refl _⟩
  case round =>
    obtain ⟨acc, l1, ea, ec, rfl, hR, hE, hP, hO, hown, hfit, hlen, hx⟩ := hrel
    have HR1 := Lib.hid hR
    have HE1 := Lib.hid hE
    have HP1 := Lib.hid hP
    have HO1 := Lib.hid hO
    have HW1 := Lib.hid hown
    have HF1 := Lib.hid hfit
    have HX1 := Lib.hid hx
    have hsz := hx.size
    have hltr := hP.lt
    have hobr := Blk.lt hO
    cases l1 with
    | nil => exact hE.elim
    | cons t l1 =>
    have KI := Lib.hid fun V (x : Ext wr V) (a : Option Addr) (hr : IsRow V (vstr [w_exn]) a 1) => parse_is [w_exn] pb t l1 V a 1 1 (Nat.le_refl _) (by omega) hr (HP1.out.ext x)
    clear hR hE hP hO hown hfit hx
    cases hi : isT [w_exn] (t :: l1) with
    | false =>
      rw [hi] at KI
      have HI := Lib.hid hi
      clear hi
      have HR2 := Lib.hid (HR1.out.trans (progG_body HI.out))
      go_wp2_with fail
      refine (KI.out _ (by (exact eX)) _ (IsRow.new wr _ (vstr [w_exn]))).mono ?_
      rintro e w2 ⟨rfl, x2⟩
      have y2 : Ext wr w2 := by (exact eX)
      have Y2 := Lib.hid y2
      have KE := Lib.hid (parse_walk pb w2 (t :: l1) (HP1.out.ext y2) HE1.out)
      obtain ⟨f0, -, hT⟩ := parseL_some (nt := .expr) HE1.out
      have HTO := Lib.hid hT
      have hr2 := HR2.out
      unfold bodyG at hr2
      generalize parseL .expr (t :: l1) = r at *
      have HR3 := Lib.hid hr2
      clear x2 y2 hT hr2 HR2
      go_wp2_with fail
      refine KE.out.mono ?_
      intro e w3 hh
      cases r with
      | error l' =>
        obtain ⟨rfl, x3⟩ := hh.error
        have e9 : R = .error l' := HR3.out
        subst e9
        exact ⟨rfl, (HX1.out.then_ Y2.out).trans (x3.mono fun b hb => .inl hb), rfl⟩
      | ok q =>
        obtain ⟨⟨x, ks⟩, l'⟩ := q
        obtain ⟨v, rfl, ⟨a, n, c, rfl, hf, g1, g2, hT⟩, hP3, x3⟩ := hh.ok
        have hO3 : OutE ob w3 ea acc.length ec := (Blk.ext HO1.out Y2.out).nez x3 (by omega)
        have hO3' : Blk w3 ob 41 _ := hO3
        obtain ⟨z0, z1, z2, z3, z4, z5, z6, z7, z8⟩ := hO3'.nine
        obtain ⟨f0', f1, f2, f3, f4, f5, f6, f7, f8⟩ := hO3'.frozen9
        have hlz := hO3'.lt
        have X9 := (ExtX.refl (A := (· = ob)) w3).lay9 (g := ob) (u1 := .int .u8 x.k) (u2 := .int .u8 x.op) (u3 := .int .i64 x.pos) (u4 := .int .i64 x.n) (u5 := .string x.name) (u6 := .string x.arg) (u7 := .string x.exn) (u8 := .slice a n c) (.inl rfl)
        have P9 := Lib.hid (hP3.aside0 hO3 X9 (by omega))
        have B9 := Lib.hid (hO3'.lay9 (u1 := .int .u8 x.k) (u2 := .int .u8 x.op) (u3 := .int .i64 x.pos) (u4 := .int .i64 x.n) (u5 := .string x.name) (u6 := .string x.arg) (u7 := .string x.exn) (u8 := .slice a n c))
        have hys := Below.size Y2.out
        have T9 := Lib.hid ((hT.off (A' := fun b => b < W.heap.size) (fun b _ (hb : b < W.heap.size) => (by show b < w2.heap.size; omega))).lay9 (u1 := .int .u8 x.k) (u2 := .int .u8 x.op) (u3 := .int .i64 x.pos) (u4 := .int .i64 x.n) (u5 := .string x.name) (u6 := .string x.arg) (u7 := .string x.exn) (u8 := .slice a n c) (show ob < W.heap.size by omega))
        have X10 := Lib.hid (((HX1.out.then_ Y2.out).trans (x3.mono (A' := fun b => b = pb ∨ b = ob) (fun b hb => .inl hb))).trans (X9.mono (fun b hb => .inr hb)))
        obtain ⟨na, nc, hv, k1, k2, hTk⟩ := owns_toks HW1.out HF1.out
        have TK9 := Lib.hid ((((hTk.keep (ExtX.of (A := fun _ => False) Y2.out) (fun _ _ h => h)).keep x3 (fun b hb e => by have e : b = pb := e; omega)).keep X9 (fun b hb e => by have e : b = ob := e; omega)))
        have HV := Lib.hid hv
        have HF := Lib.hid hf
        clear hh hO3 hO3' hT hP3 x3 X9 hf hTk hv
        simp only [Tm.head]
        repeat (first | go_values | go_skip | go_guarded | go_step | go_upon)
        have e9 : R = .ok ((acc, .mk x ks), l') := HR3.out
        subst e9
        have hv := HV.out
        cases hv
        exact bodyPost_end (v := .tuple #[]) (results_none rfl _ _ _) rfl ⟨X10.out, rfl, P9.out, HTO.out.1, _, _, _, a, n, c, B9.out, k1, k2, TK9.out, HF.out, g1, g2, T9.out⟩
    | true =>
      rw [hi] at KI
      have HI := Lib.hid hi
      have hne := HE1.out.tail_ne (isT_kind hi)
      clear hi
      have KT := Lib.hid fun V (x : Ext wr V) => parse_take pb t l1 V (HP1.out.ext x)
      cases l1 with
      | nil => exact (hne.1 rfl).elim
      | cons u l2 =>
      have HE2 := Lib.hid hne.2
      clear hne
      go_wp2_with fail
      refine (KI.out _ (by (exact eX)) _ (IsRow.new wr _ (vstr [w_exn]))).mono ?_
      rintro e w2 ⟨rfl, x2⟩
      have y2 : Ext wr w2 := by (exact eX)
      have Y2 := Lib.hid y2
      clear x2 y2
      go_wp2_with fail
      refine (KT.out _ Y2.out).mono ?_
      rintro e w3 ⟨rfl, x3, hp3⟩
      have hP3 := hp3 (by simp)
      have hfu : u.Fits := by obtain ⟨_, _, _, _, _, _, _, _, _, hfu, -⟩ := hP3.open_; exact hfu
      have hO3 : OutE ob w3 ea acc.length ec := (Blk.ext HO1.out Y2.out).nez x3 (by omega)
      have HW3 := Lib.hid (owns_keep x3 (fun k (e : k = pb) => by omega) (owns_ext Y2.out HW1.out))
      have c0 := Blk.cell hO3 0
      simp at c0
      have hl3 := Blk.lt hO3
      have hs3 := x3.size
      have hsy := Below.size Y2.out
      have HP3 := Lib.hid hP3
      have HFU := Lib.hid hfu
      have HO3 := Lib.hid hO3
      have HX3 := Lib.hid ((HX1.out.then_ Y2.out).trans (x3.mono (A' := fun b => b = pb ∨ b = ob) (fun b hb => .inl hb)))
      have hoA : ObA ob W.heap.size ob := .inl rfl
      clear x3 hp3 hP3 hfu hO3 KI KT
      by_cases hu : u.k = 3
      case neg =>
        have e9 : R = .error (u :: l2) := HR1.out.trans (progG_kind HI.out HE1.out hu)
        subst e9
        have KK := Lib.hid fun V (x : Prs V pb (u :: l2)) => parse_kind_no 3 pb u l2 V x hu
        clear hu
        go_upto_region 2 with fail
        refine wp_region_held_drew (S := fun w' => ExtX (fun b => b = pb ∨ ObA ob W.heap.size b) w3 w') (by kernel_rfl) (by (try dsimp only); (exact xX)) (fun hHeld => ?_)
        refine tK 0 (v := ?_) ?_ ?_;rotate_left;(focus (intro w hSw;(try dsimp only at hSw);go_simp;(try with_reducible rfl)));try simp only [Act.put,pA,pB,pC]
        refine tK 2 (v := ?_) ?_ ?_;rotate_left;(focus (intro w hSw;(try dsimp only at hSw);go_simp;(try with_reducible rfl)));try simp only [Act.put,pA,pB,pC]
        refine wpAnyH_ready (rs := [1, 3]) (by kernel_rfl) (by simp) ?_
        refine held_cons 1 rfl (by rfl) (fun K hK => ?_) (held_cons 3 rfl (by rfl) (fun K hK => ?_) AllReadyH.nil)
        go_simp; refine hK.out _ _ (by (try dsimp only); (exact xX)) (fun hHeld => ?_); clear hK K; try simp only [Act.put,pA,pB,pC]
        refine held_do 3 rfl (by kernel_rfl) (by rfl) (fun K hK => ?_); go_simp; (first | (refine (KK.out _ (by have := HP3.out; (exact prX))).mono ?_; rintro e w5 ⟨rfl, x5⟩; exact ⟨rfl, HX3.out.then_ ((by (exact eX) : Ext w3 _).trans x5), rfl⟩))
        rotate_left 0
        go_simp; (first | (refine (KK.out _ (by have := HP3.out; (exact prX))).mono ?_; rintro e w5 ⟨rfl, x5⟩; exact ⟨rfl, HX3.out.then_ ((by (exact eX) : Ext w3 _).trans x5), rfl⟩))
      case pos =>
      have hne := HE2.out.tail_ne (by omega)
      cases l2 with
      | nil => exact (hne.1 rfl).elim
      | cons v l3 =>
      have HE3 := Lib.hid hne.2
      have KK := Lib.hid fun V (x : Prs V pb (u :: v :: l3)) => parse_kind_ok pb u (v :: l3) V x
      rw [hu] at KK
      have HU := Lib.hid hu
      have HSN : Hid ((acc.map tkcells).flatten ++ [.int .u8 3, .string u.text, .int .i64 u.pos] = ((acc ++ [u]).map tkcells).flatten) := Lib.hid (by rw [toks_snoc2]; unfold tkcells; rw [hu])
      have hla : acc.length + 3 ≤ 4001 := by simp only [List.length_cons] at hlen; omega
      clear hne hu
      go_upto_region 2 with fail
      refine wp_region_held_drew (S := fun w' => ExtX (fun b => b = pb ∨ ObA ob W.heap.size b) w3 w') (by kernel_rfl) (by (try dsimp only); (exact xX)) (fun hHeld => ?_)
      refine tK 0 (v := ?_) ?_ ?_;rotate_left;(focus (intro w hSw;(try dsimp only at hSw);go_simp;(try with_reducible rfl)));try simp only [Act.put,pA,pB,pC]
      refine tK 2 (v := ?_) ?_ ?_;rotate_left;(focus (intro w hSw;(try dsimp only at hSw);go_simp;(try with_reducible rfl)));try simp only [Act.put,pA,pB,pC]
      refine wpAnyH_ready (rs := [1, 3]) (by kernel_rfl) (by simp) ?_
      refine held_cons 1 rfl (by rfl) (fun K hK => ?_) (held_cons 3 rfl (by rfl) (fun K hK => ?_) AllReadyH.nil)
      go_simp; refine hK.out _ _ (by (try dsimp only); (exact xX)) (fun hHeld => ?_); clear hK K; try simp only [Act.put,pA,pB,pC]
      refine held_do 3 rfl (by kernel_rfl) (by rfl) (fun K hK => ?_); go_simp; (first | (refine (KK.out _ (by have := HP3.out; (exact prX))).mono ?_; rintro e w5 ⟨rfl, x5, hp5⟩; have HP5 := Lib.hid (hp5 (by simp)); have y5 : ExtX (· = pb) w3 w5 := (by (exact xX) : ExtX (· = pb) w3 _).trans x5; have z5 := y5.mono (A' := fun b => b = pb ∨ ObA ob W.heap.size b) (fun b h => .inl h); have hO5 : OutE ob w5 ea acc.length ec := Blk.nez HO3.out y5 (by omega); have d0 := Blk.cell hO5 0; simp at d0; have l5 := Blk.lt hO5; have HO5 := Lib.hid hO5; have HW5 := Lib.hid (owns_keep y5 (fun k (e : k = pb) => by omega) HW3.out); have hs5 := y5.size; clear hO5 hp5)); (try (focus (go_wp2_with fail))); refine hK.out _ _ (by (try dsimp only); (exact xX)) (fun hHeld => ?_); clear hK K; try simp only [Act.put,pA,pB,pC]
      refine held_do 4 rfl (by kernel_rfl) (by rfl) (fun K hK => ?_); go_simp; refine hK.out _ _ (by (try dsimp only); (exact xX)) (fun hHeld => ?_); clear hK K; try simp only [Act.put,pA,pB,pC]
      refine held_do 5 rfl (by kernel_rfl) (by rfl) (fun K hK => ?_); (first | (refine wp_append_mine (.tmp 9) (.tmp 12) 32 rfl W.heap.size 37 i0 (.agg #[.int .u8 0, .string ByteArray.empty, .int .i64 0]) 3 32 Tryz.underlying32 HIN.out.1 HIN.out.2.1 HIN.out.2.2.1 HIN.out.2.2.2 rfl (by decide) (Value.slice ea acc.length ec) acc.length (acc.map tkcells).flatten rfl (HW5.out.alloc _) ⟨w5.heap.size, 0, none⟩ 1 1 [.int .u8 3, .string u.text, .int .i64 u.pos] rfl rfl (tkcells_at w5 3 u.text u.pos _) (tkcells_one 3 u.text u.pos) (by unfold maxLen; omega) (by omega) (by first | omega | (simp; omega)) ?_; intro v9 w9 ho9 hg9 hw9; rw [HSN.out] at ho9; obtain ⟨na, nc, rfl, k1, k2, hTk⟩ := owns_toks (o := acc ++ [u]) (by rw [List.length_append]; exact ho9) (by intro q hq; rcases List.mem_append.1 hq with hq | hq; exact HF1.out q hq; simp at hq; subst hq; exact HFU.out); have g9 : ExtX (fun b => W.heap.size ≤ b) (w5.alloc (.cells #[.int .u8 3, .string u.text, .int .i64 u.pos] 37)) w9 := ExtX.grow_ (ExtX.refl _) hg9 (fun k hk => (HW5.out.lt k hk).1); have z9 : ExtX (fun b => b = pb ∨ ObA ob W.heap.size b) w3 w9 := (z5.alloc _).trans (g9.mono (fun b hb => .inr (.inr hb))); have hO9 : OutE ob w9 ea acc.length ec := Blk.extx (Blk.alloc HO5.out _) g9 (by omega); have f9 := Blk.frozen hO9 0; have e0 := Blk.cell hO9 0; simp at e0; have hl9 := Blk.lt hO9; have HO9 := Lib.hid hO9; have HW9 := Lib.hid ho9; have HP9 := Lib.hid ((HP5.out.alloc _).grown_ hg9 (fun k hk => by have := (HW5.out.lt k hk).1; omega)); have HTK := Lib.hid hTk; clear hO9 ho9 hg9 hw9 hTk g9)); refine hK.out _ _ (by (try dsimp only); (exact xX)) (fun hHeld => ?_); clear hK K; try simp only [Act.put,pA,pB,pC]
      refine tK 6 (v := ?_) ?_ ?_;rotate_left;(focus (intro w hSw;(try dsimp only at hSw);go_simp;(try with_reducible rfl)));try simp only [Act.put,pA,pB,pC]
      refine held_do 7 rfl (by kernel_rfl) (by rfl) (fun K hK => ?_); go_simp; refine hK.out _ _ (by (try dsimp only); (exact xX)) (fun hHeld => ?_); clear hK K; try simp only [Act.put,pA,pB,pC]
      refine wpAnyH_done (by kernel_rfl) ?_ _
      rotate_left 1
      go_simp; (first | (refine (KK.out _ (by have := HP3.out; (exact prX))).mono ?_; rintro e w5 ⟨rfl, x5, hp5⟩; have HP5 := Lib.hid (hp5 (by simp)); have y5 : ExtX (· = pb) w3 w5 := (by (exact xX) : ExtX (· = pb) w3 _).trans x5; have z5 := y5.mono (A' := fun b => b = pb ∨ ObA ob W.heap.size b) (fun b h => .inl h); have hO5 : OutE ob w5 ea acc.length ec := Blk.nez HO3.out y5 (by omega); have d0 := Blk.cell hO5 0; simp at d0; have l5 := Blk.lt hO5; have HO5 := Lib.hid hO5; have HW5 := Lib.hid (owns_keep y5 (fun k (e : k = pb) => by omega) HW3.out); have hs5 := y5.size; clear hO5 hp5)); (try (focus (go_wp2_with fail))); refine hK.out _ _ (by (try dsimp only); (exact xX)) (fun hHeld => ?_); clear hK K; try simp only [Act.put,pA,pB,pC]
      refine wpAnyH_ready (rs := [1, 4]) (by kernel_rfl) (by simp) ?_
      refine held_cons 1 rfl (by rfl) (fun K hK => ?_) (held_cons 4 rfl (by rfl) (fun K hK => ?_) AllReadyH.nil)
      go_simp; refine hK.out _ _ (by (try dsimp only); (exact xX)) (fun hHeld => ?_); clear hK K; try simp only [Act.put,pA,pB,pC]
      refine held_do 4 rfl (by kernel_rfl) (by rfl) (fun K hK => ?_); go_simp; refine hK.out _ _ (by (try dsimp only); (exact xX)) (fun hHeld => ?_); clear hK K; try simp only [Act.put,pA,pB,pC]
      refine held_do 5 rfl (by kernel_rfl) (by rfl) (fun K hK => ?_); (first | (refine wp_append_mine (.tmp 9) (.tmp 12) 32 rfl W.heap.size 37 i0 (.agg #[.int .u8 0, .string ByteArray.empty, .int .i64 0]) 3 32 Tryz.underlying32 HIN.out.1 HIN.out.2.1 HIN.out.2.2.1 HIN.out.2.2.2 rfl (by decide) (Value.slice ea acc.length ec) acc.length (acc.map tkcells).flatten rfl (HW5.out.alloc _) ⟨w5.heap.size, 0, none⟩ 1 1 [.int .u8 3, .string u.text, .int .i64 u.pos] rfl rfl (tkcells_at w5 3 u.text u.pos _) (tkcells_one 3 u.text u.pos) (by unfold maxLen; omega) (by omega) (by first | omega | (simp; omega)) ?_; intro v9 w9 ho9 hg9 hw9; rw [HSN.out] at ho9; obtain ⟨na, nc, rfl, k1, k2, hTk⟩ := owns_toks (o := acc ++ [u]) (by rw [List.length_append]; exact ho9) (by intro q hq; rcases List.mem_append.1 hq with hq | hq; exact HF1.out q hq; simp at hq; subst hq; exact HFU.out); have g9 : ExtX (fun b => W.heap.size ≤ b) (w5.alloc (.cells #[.int .u8 3, .string u.text, .int .i64 u.pos] 37)) w9 := ExtX.grow_ (ExtX.refl _) hg9 (fun k hk => (HW5.out.lt k hk).1); have z9 : ExtX (fun b => b = pb ∨ ObA ob W.heap.size b) w3 w9 := (z5.alloc _).trans (g9.mono (fun b hb => .inr (.inr hb))); have hO9 : OutE ob w9 ea acc.length ec := Blk.extx (Blk.alloc HO5.out _) g9 (by omega); have f9 := Blk.frozen hO9 0; have e0 := Blk.cell hO9 0; simp at e0; have hl9 := Blk.lt hO9; have HO9 := Lib.hid hO9; have HW9 := Lib.hid ho9; have HP9 := Lib.hid ((HP5.out.alloc _).grown_ hg9 (fun k hk => by have := (HW5.out.lt k hk).1; omega)); have HTK := Lib.hid hTk; clear hO9 ho9 hg9 hw9 hTk g9)); refine hK.out _ _ (by (try dsimp only); (exact xX)) (fun hHeld => ?_); clear hK K; try simp only [Act.put,pA,pB,pC]
      refine tK 6 (v := ?_) ?_ ?_;rotate_left;(focus (intro w hSw;(try dsimp only at hSw);go_simp;(try with_reducible rfl)));try simp only [Act.put,pA,pB,pC]
      refine held_do 7 rfl (by kernel_rfl) (by rfl) (fun K hK => ?_); go_simp; refine hK.out _ _ (by (try dsimp only); (exact xX)) (fun hHeld => ?_); clear hK K; try simp only [Act.put,pA,pB,pC]
      refine wpAnyH_done (by kernel_rfl) ?_ _
      rotate_left 1
      go_simp; refine hK.out _ _ (by (try dsimp only); (exact xX)) (fun hHeld => ?_); clear hK K; try simp only [Act.put,pA,pB,pC]
      refine held_do 1 rfl (by kernel_rfl) (by rfl) (fun K hK => ?_); go_simp; refine hK.out _ _ (by (try dsimp only); (exact xX)) (fun hHeld => ?_); clear hK K; try simp only [Act.put,pA,pB,pC]
      refine held_do 5 rfl (by kernel_rfl) (by rfl) (fun K hK => ?_); (first | (refine wp_append_mine (.tmp 9) (.tmp 12) 32 rfl W.heap.size 37 i0 (.agg #[.int .u8 0, .string ByteArray.empty, .int .i64 0]) 3 32 Tryz.underlying32 HIN.out.1 HIN.out.2.1 HIN.out.2.2.1 HIN.out.2.2.2 rfl (by decide) (Value.slice ea acc.length ec) acc.length (acc.map tkcells).flatten rfl (HW5.out.alloc _) ⟨w5.heap.size, 0, none⟩ 1 1 [.int .u8 3, .string u.text, .int .i64 u.pos] rfl rfl (tkcells_at w5 3 u.text u.pos _) (tkcells_one 3 u.text u.pos) (by unfold maxLen; omega) (by omega) (by first | omega | (simp; omega)) ?_; intro v9 w9 ho9 hg9 hw9; rw [HSN.out] at ho9; obtain ⟨na, nc, rfl, k1, k2, hTk⟩ := owns_toks (o := acc ++ [u]) (by rw [List.length_append]; exact ho9) (by intro q hq; rcases List.mem_append.1 hq with hq | hq; exact HF1.out q hq; simp at hq; subst hq; exact HFU.out); have g9 : ExtX (fun b => W.heap.size ≤ b) (w5.alloc (.cells #[.int .u8 3, .string u.text, .int .i64 u.pos] 37)) w9 := ExtX.grow_ (ExtX.refl _) hg9 (fun k hk => (HW5.out.lt k hk).1); have z9 : ExtX (fun b => b = pb ∨ ObA ob W.heap.size b) w3 w9 := (z5.alloc _).trans (g9.mono (fun b hb => .inr (.inr hb))); have hO9 : OutE ob w9 ea acc.length ec := Blk.extx (Blk.alloc HO5.out _) g9 (by omega); have f9 := Blk.frozen hO9 0; have e0 := Blk.cell hO9 0; simp at e0; have hl9 := Blk.lt hO9; have HO9 := Lib.hid hO9; have HW9 := Lib.hid ho9; have HP9 := Lib.hid ((HP5.out.alloc _).grown_ hg9 (fun k hk => by have := (HW5.out.lt k hk).1; omega)); have HTK := Lib.hid hTk; clear hO9 ho9 hg9 hw9 hTk g9)); refine hK.out _ _ (by (try dsimp only); (exact xX)) (fun hHeld => ?_); clear hK K; try simp only [Act.put,pA,pB,pC]
      refine tK 6 (v := ?_) ?_ ?_;rotate_left;(focus (intro w hSw;(try dsimp only at hSw);go_simp;(try with_reducible rfl)));try simp only [Act.put,pA,pB,pC]
      refine held_do 7 rfl (by kernel_rfl) (by rfl) (fun K hK => ?_); go_simp; refine hK.out _ _ (by (try dsimp only); (exact xX)) (fun hHeld => ?_); clear hK K; try simp only [Act.put,pA,pB,pC]
      refine wpAnyH_done (by kernel_rfl) ?_ _
      rotate_left 1
      all_goals
        have HLA : Hid (acc.length + 1 = (acc ++ [u]).length) := Lib.hid (by simp)
        rw [HLA.out] at hHeld ⊢
        have X10 : ExtX (· = ob) w9 (w9.setCell ⟨ob, 0, none⟩ (.slice na (acc ++ [u]).length nc)) := (ExtX.refl (A := (· = ob)) w9).setCell (p := ⟨ob, 0, none⟩) (.inl rfl) _
        have X11 := Lib.hid (HX3.out.onto hHeld (fun b hb => by rcases hb with h | h | h; exact .inl (.inl h); exact .inl (.inr h); exact .inr h))
        have HO10 : Hid (OutE ob (w9.setCell ⟨ob, 0, none⟩ (.slice na (acc ++ [u]).length nc)) na (acc ++ [u]).length nc) := Lib.hid (by have h := Blk.set_ HO9.out 0 (.slice na (acc ++ [u]).length nc); simp only [List.setIfInBounds_toArray, List.set_cons_zero] at h; exact h)
        have HP10 := Lib.hid (HP9.out.aside0 HO9.out X10 (by omega))
        have HW10 := Lib.hid (owns_keep X10 (fun k (e : k = ob) => by omega) HW9.out)
        have hlr : ob < W.heap.size := by omega
        clear X10 hHeld z9
        generalize w9.setCell ⟨ob, 0, none⟩ (.slice na (acc ++ [u]).length nc) = W10 at *
        cases hv : isT [s_semi] (v :: l3) with
        | false =>
          have e9 : R = .error (v :: l3) := HR1.out.trans (progG_semi HI.out HU.out hv)
          subst e9
          have KV := Lib.hid fun V (x : Ext W10 V) (a : Option Addr) (hr : IsRow V (vstr [s_semi]) a 1) => parse_word_no [s_semi] pb v l3 V a 1 1 (Nat.le_refl _) (by omega) hr (HP10.out.ext x) hv
          clear hv
          go_wp2_with fail
          refine (KV.out _ (by (exact eX)) _ (IsRow.new W10 _ (vstr [s_semi]))).mono ?_
          rintro e w11 ⟨rfl, x11⟩
          exact ⟨rfl, X11.out.then_ (((Ext.refl W10).alloc _).trans x11), rfl⟩
        | true =>
          have e9 := HR1.out.trans (progG_more HI.out HU.out hv)
          have HR9 := Lib.hid e9
          have hne := HE3.out.tail_ne (isT_kind hv)
          have KV := Lib.hid fun V (x : Ext W10 V) (a : Option Addr) (hr : IsRow V (vstr [s_semi]) a 1) => parse_word_ok [s_semi] pb v l3 V a 1 1 (Nat.le_refl _) (by omega) hr (HP10.out.ext x) hv
          have HNE := Lib.hid hne
          clear hv e9 hne
          go_wp2_with fail
          refine (KV.out _ (by (exact eX)) _ (IsRow.new W10 _ (vstr [s_semi]))).mono ?_
          rintro e w11 ⟨rfl, x11, hp11⟩
          have y11 : ExtX (· = pb) W10 w11 := ((ExtX.refl W10).alloc _).trans x11
          have hO11 : OutE ob w11 na (acc ++ [u]).length nc := Blk.nez HO10.out y11 (by omega)
          have HO11 := Lib.hid hO11
          have HW11 := Lib.hid (owns_keep y11 (fun k (e : k = pb) => by omega) HW10.out)
          have HP11 := Lib.hid (hp11 HNE.out.1)
          have X12 := Lib.hid (X11.out.trans (y11.mono (A' := fun b => b = pb ∨ b = ob) (fun b hb => .inl hb)))
          clear y11 x11 hp11 hO11
          go_wp2_with fail
          go_roundg (l3.length)
          case rel => exact ⟨acc ++ [u], l3, na, nc, rfl, HR9.out, HNE.out.2, HP11.out, HO11.out, (by have := HW11.out; rw [HLA.out] at this; exact this), (by intro q hq; rcases List.mem_append.1 hq with hq | hq; exact HF1.out q hq; simp at hq; subst hq; exact HFU.out), by simp only [List.length_append, List.length_cons, List.length_nil] at hlen ⊢; omega, X12.out⟩
          case measure => simp only [List.length_cons]; omega
theorem prog_whole (ob : Nat) : Whole 35 ob progL (OutPZ ob) (OutP ob) := by
  refine ⟨fun pb W l hP hE hl4 hob hO => (prog_call pb ob W l hP hE hl4 hob hO).mono fun e w' h => ⟨h.1, by have h2 := h.2; revert h2; cases progL l <;> exact id⟩, ?_, fun w w' h hx => Blk.ext h hx⟩
  rintro B w w' ⟨es, t⟩ ⟨ea, en, ec, a, n, c, hB, k1, k2, hTk, hf, h1, h2, hT⟩ hx
  exact ⟨ea, en, ec, a, n, c, hB.extx hx (by rintro ⟨-, h⟩; exact h rfl), k1, k2, hTk.keep hx (fun b hb ⟨h, _⟩ => by omega), hf, h1, h2, hT.extx hx (fun b hb => hb.1)⟩
end Go.Proofs.YtaioeailgknfjaaGreatDoor
namespace Go.Proofs.YtaioeailgknfjaaGreatDoor
open Go Go.RowKit Go.Sort

theorem ek_prog : ∀ args w, (callFunc 35 args).run Tryz.prog w = .ok (.enter 35 args) w := fun args w => by kernel_rfl
/-- A program as a value. -/
def IsPg (w : World) (q : List Tk × Tm) (v : Value) : Prop := ∃ ea en ec a n c, v = .agg #[.slice ea en ec, .int .u8 q.2.head.k, .int .u8 q.2.head.op, .int .i64 q.2.head.pos, .int .i64 q.2.head.n, .string q.2.head.name, .string q.2.head.arg, .string q.2.head.exn, .slice a n c] ∧ en ≤ ec ∧ ec ≤ 9223372036854775807 ∧ IsToks w q.1 ea en ∧ q.2.head.Fits ∧ n ≤ c ∧ c ≤ 9223372036854775807 ∧ IsTms w q.2.kids a n
/-- What Parse hands back. -/
def RetProg (w : World) (r : Except (Int × Int) (List Tk × Tm)) (e : Ending) (w' : World) : Prop := Ext w w' ∧ match r with
  | .error (p, f) => e = .returned (.tuple #[.agg #[.slice none 0 0, .int .u8 0, .int .u8 0, .int .i64 0, .int .i64 0, .string ⟨#[]⟩, .string ⟨#[]⟩, .string ⟨#[]⟩, .slice none 0 0], .int .i64 p, .int .i64 f])
  | .ok q => ∃ v, e = .returned (.tuple #[v, .int .i64 0, .int .i64 0]) ∧ IsPg w' q v
def progR (B : List UInt8) : Except (Int × Int) (List Tk × Tm) := runR progL B
theorem Blk.lay09 {w : World} {g : Nat} {t : TypeId} {c0 c1 c2 c3 c4 c5 c6 c7 c8 u0 u1 u2 u3 u4 u5 u6 u7 u8 : Value} (h : Blk w g t #[c0, c1, c2, c3, c4, c5, c6, c7, c8]) : Blk (Go.Proofs.YtaioeailgknfjaaGreatDoor.lay9 (w.setCell ⟨g, 0, none⟩ u0) g u1 u2 u3 u4 u5 u6 u7 u8) g t #[u0, u1, u2, u3, u4, u5, u6, u7, u8] := by
  have h0 := h.set_ 0 u0
  simp only [List.setIfInBounds_toArray, List.set_cons_zero] at h0
  exact h0.lay9
theorem Ext.lay09 {a w : World} {g : Nat} {u0 u1 u2 u3 u4 u5 u6 u7 u8 : Value} (h : Ext a w) (hg : a.heap.size ≤ g) : Ext a (lay9 (w.setCell ⟨g, 0, none⟩ u0) g u1 u2 u3 u4 u5 u6 u7 u8) :=
  (((((((((h.setCell (p := ⟨g, 0, none⟩) hg u0).setCell (p := ⟨g, 1, none⟩) hg u1).setCell (p := ⟨g, 2, none⟩) hg u2).setCell (p := ⟨g, 3, none⟩) hg u3).setCell (p := ⟨g, 4, none⟩) hg u4).setCell (p := ⟨g, 5, none⟩) hg u5).setCell (p := ⟨g, 6, none⟩) hg u6).setCell (p := ⟨g, 7, none⟩) hg u7).setCell (p := ⟨g, 8, none⟩) hg u8)
theorem ExtX.lay09 {A : Nat → Prop} {a w : World} {g : Nat} {u0 u1 u2 u3 u4 u5 u6 u7 u8 : Value} (h : ExtX A a w) (hg : A g ∨ a.heap.size ≤ g) : ExtX A a (Go.Proofs.YtaioeailgknfjaaGreatDoor.lay9 (w.setCell ⟨g, 0, none⟩ u0) g u1 u2 u3 u4 u5 u6 u7 u8) := (h.setCell (p := ⟨g, 0, none⟩) hg u0).lay9 hg
set_option maxRecDepth 60000 in
set_option maxHeartbeats 4000000 in
theorem parse_prog (B : List UInt8) (w : World) (a : Option Addr) (len cap : Nat) (h1 : len ≤ cap) (h2 : cap ≤ 9223372036854775807) (hr : IsBytes w B a len) (hk : Knob w) :
    Calls Tryz.prog 15 #[.slice a len cap] w (RetProg w (progR B)) := by
  have KR := Lib.hid fun (W : World) (ob : Nat) (h : Ext w W) (hO : OutPZ ob W) (hob : ob < W.heap.size) => parse_run 35 ob ek_prog progL (OutPZ ob) (OutP ob) (prog_whole ob) B W a len cap h1 h2 (hr.ext h) (hk.ext h) hO hob
  have HRE := Lib.hid fun p (h : progR B = .error p) => runR_err h
  have KR : Hid (∀ (W : World) (ob : Nat), Ext w W → OutPZ ob W → ob < W.heap.size → Calls Tryz.prog 29 #[.slice a len cap, .func (.func 35) #[] #[.pointer (some ⟨ob, 0, none⟩)]] W (RetRun ob (OutP ob) W (progR B))) := Lib.hid fun W ob h hO hob => KR.out W ob h hO hob
  generalize progR B = r at *
  clear hr hk
  have hOO : OutPZ (w.heap.size + 1) ((w.alloc (.cells #[.slice none 0 0, .int .u8 0, .int .u8 0, .int .i64 0, .int .i64 0, .string ⟨#[]⟩, .string ⟨#[]⟩, .string ⟨#[]⟩, .slice none 0 0] 41)).alloc (.cells #[.slice none 0 0, .int .u8 0, .int .u8 0, .int .i64 0, .int .i64 0, .string ⟨#[]⟩, .string ⟨#[]⟩, .string ⟨#[]⟩, .slice none 0 0] 41)) := by
    have h := Blk.new (w.alloc (.cells #[.slice none 0 0, .int .u8 0, .int .u8 0, .int .i64 0, .int .i64 0, .string ⟨#[]⟩, .string ⟨#[]⟩, .string ⟨#[]⟩, .slice none 0 0] 41)) 41 #[.slice none 0 0, .int .u8 0, .int .u8 0, .int .i64 0, .int .i64 0, .string ⟨#[]⟩, .string ⟨#[]⟩, .string ⟨#[]⟩, .slice none 0 0]
    rw [World.size_alloc] at h
    exact h
  have hZ0 := (Blk.new w 41 #[.slice none 0 0, .int .u8 0, .int .u8 0, .int .i64 0, .int .i64 0, .string ⟨#[]⟩, .string ⟨#[]⟩, .string ⟨#[]⟩, .slice none 0 0]).alloc (.cells #[.slice none 0 0, .int .u8 0, .int .u8 0, .int .i64 0, .int .i64 0, .string ⟨#[]⟩, .string ⟨#[]⟩, .string ⟨#[]⟩, .slice none 0 0] 41)
  have HOO := Lib.hid hOO
  have HZ0 := Lib.hid hZ0
  clear hOO hZ0
  go_enter Tryz.func15, Tryz.ntmps15
  go_wp2_with fail
  refine (KR.out _ _ (by (exact eX)) HOO.out (by simp)).mono ?_
  rintro e w1 ⟨rfl, x1, hV⟩
  have hZ1 := HZ0.out.extx x1 (show ¬ w.heap.size = w.heap.size + 1 by omega)
  obtain ⟨z0, z1, z2, z3, z4, z5, z6, z7, z8⟩ := hZ1.nine
  obtain ⟨f0, f1, f2, f3, f4, f5, f6, f7, f8⟩ := hZ1.frozen9
  have hlz := hZ1.lt
  have y1 : Ext w w1 := ExtX.ext (w0 := _) (by (exact eX)) x1 (fun b hb => by have hb : b = w.heap.size + 1 := hb; omega)
  have HZ1 := Lib.hid hZ1
  have HY1 := Lib.hid y1
  have HV := Lib.hid hV
  clear hZ1 y1 hV x1
  cases r with
  | error q =>
    obtain ⟨p, f⟩ := q
    have hf := HRE.out _ rfl
    have hfb : (f != 0) = true := by simpa using hf
    simp only [runE]
    clear hf
    have B9 := Lib.hid (HZ1.out.lay09 (u0 := .slice none 0 0) (u1 := .int .u8 0) (u2 := .int .u8 0) (u3 := .int .i64 0) (u4 := .int .i64 0) (u5 := .string ⟨#[]⟩) (u6 := .string ⟨#[]⟩) (u7 := .string ⟨#[]⟩) (u8 := .slice none 0 0))
    have Y9 := Lib.hid (HY1.out.lay09 (g := w.heap.size) (u0 := .slice none 0 0) (u1 := .int .u8 0) (u2 := .int .u8 0) (u3 := .int .i64 0) (u4 := .int .i64 0) (u5 := .string ⟨#[]⟩) (u6 := .string ⟨#[]⟩) (u7 := .string ⟨#[]⟩) (u8 := .slice none 0 0) (Nat.le_refl _))
    unfold lay9 at B9 Y9
    go_wp2_with fail
    obtain ⟨r0, r1, r2, r3, r4, r5, r6, r7, r8⟩ := B9.out.nine
    exact bodyPost_ret (v := .tuple #[.agg #[.slice none 0 0, .int .u8 0, .int .u8 0, .int .i64 0, .int .i64 0, .string ⟨#[]⟩, .string ⟨#[]⟩, .string ⟨#[]⟩, .slice none 0 0], .int .i64 p, .int .i64 f]) (by simp [results, Tryz.results15, go_sem, r0, r1, r2, r3, r4, r5, r6, r7, r8]) rfl ⟨Y9.out, rfl⟩
  | ok t =>
    obtain ⟨B0, hB0, ea, en, ec, ta, tn, tc, hB, k1, k2, hTk, hf, g1, g2, hT⟩ := HV.out t rfl
    obtain ⟨es, x, ks⟩ := t
    simp only [Tm.head, Tm.kids] at hB hf hT hTk
    simp only [runE]
    obtain ⟨c0, c1, c2, c3, c4, c5, c6, c7, c8⟩ := hB.nine
    have hlb := hB.lt
    have B9 := Lib.hid (HZ1.out.lay09 (u0 := .slice ea en ec) (u1 := .int .u8 x.k) (u2 := .int .u8 x.op) (u3 := .int .i64 x.pos) (u4 := .int .i64 x.n) (u5 := .string x.name) (u6 := .string x.arg) (u7 := .string x.exn) (u8 := .slice ta tn tc))
    have Y9 := Lib.hid (HY1.out.lay09 (g := w.heap.size) (u0 := .slice ea en ec) (u1 := .int .u8 x.k) (u2 := .int .u8 x.op) (u3 := .int .i64 x.pos) (u4 := .int .i64 x.n) (u5 := .string x.name) (u6 := .string x.arg) (u7 := .string x.exn) (u8 := .slice ta tn tc) (Nat.le_refl _))
    have hB1 : w.heap.size < B0 := by simp at hB0; omega
    have X9 := (ExtX.refl (A := (· = w.heap.size)) w1).lay09 (g := w.heap.size) (u0 := .slice ea en ec) (u1 := .int .u8 x.k) (u2 := .int .u8 x.op) (u3 := .int .i64 x.pos) (u4 := .int .i64 x.n) (u5 := .string x.name) (u6 := .string x.arg) (u7 := .string x.exn) (u8 := .slice ta tn tc) (.inl rfl)
    have T9 := Lib.hid (hT.extx X9 (fun b (e : b = w.heap.size) => by subst e; exact hB1))
    have TK9 := Lib.hid (hTk.keep X9 (fun b hb (e : b = w.heap.size) => by omega))
    have HF := Lib.hid hf
    unfold lay9 at B9 Y9 T9 TK9
    clear hB hf hT hTk X9
    go_wp2_with fail
    obtain ⟨r0, r1, r2, r3, r4, r5, r6, r7, r8⟩ := B9.out.nine
    exact bodyPost_ret (v := .tuple #[.agg #[.slice ea en ec, .int .u8 x.k, .int .u8 x.op, .int .i64 x.pos, .int .i64 x.n, .string x.name, .string x.arg, .string x.exn, .slice ta tn tc], .int .i64 0, .int .i64 0]) (by simp [results, Tryz.results15, go_sem, r0, r1, r2, r3, r4, r5, r6, r7, r8]) rfl ⟨Y9.out, _, rfl, ea, en, ec, ta, tn, tc, rfl, k1, k2, TK9.out.1, HF.out, g1, g2, T9.out.any⟩
end Go.Proofs.YtaioeailgknfjaaGreatDoor

/- The walk of enclaveref05.Parse. -/
namespace Go.Proofs.YtaioeailgknfjaaGreatDoor
open Go Go.RowKit Go.Sort

/-- Where the loop over exceptions stands. -/
structure ProgQ (L : List Tk) (a : Option Addr) (n c : Nat) (w : World) (g5 g8 base : Nat) (R : Res (List Tk × Tm)) (i : Nat) (bad : Bool) (ea : Option Addr) (m ec : Nat) (xs : List Value) (q : Res (List Tk)) (W : World) : Prop where
  s : SBlk W g5 a n c i bad
  o : OutE g8 W ea m ec
  z : OutPZ w.heap.size W
  row : W.ownsRow base 37 3 (.slice ea m ec) m xs
  st : StS L n i bad q
  ok : ∀ acc l, q = .ok (acc, l) → R = progG acc l ∧ m = acc.length ∧ xs = (acc.map tkcells).flatten ∧ ∀ t, t ∈ acc → t.Fits
  er : ∀ l, q = .error l → R = .error l
  mi : m ≤ i
  x : Ext w W
  lt5 : w.heap.size < g5
  lt8 : g5 < g8
  ltb : g8 < base
/-- How far there is to go. -/
def leftQ {α : Type} : Res α → Nat
  | .error _ => 0
  | .ok (_, l) => l.length + 1
theorem ProgQ.ext {L : List Tk} {a : Option Addr} {n c : Nat} {w : World} {g5 g8 base : Nat} {R : Res (List Tk × Tm)} {i : Nat} {bad : Bool} {ea : Option Addr} {m ec : Nat} {xs : List Value} {q : Res (List Tk)} {W W' : World} (h : ProgQ L a n c w g5 g8 base R i bad ea m ec xs q W) (hx : Ext W W') : ProgQ L a n c w g5 g8 base R i bad ea m ec xs q W' :=
  ⟨SBlk.ext h.s hx, Blk.ext h.o hx, Blk.ext h.z hx, owns_ext hx h.row, h.st, h.ok, h.er, h.mi, h.x.trans hx, h.lt5, h.lt8, h.ltb⟩
theorem prog_end {R : Res (List Tk × Tm)} {q : Res (List Tk)} {m : Nat} {xs : List Value} (hok : ∀ acc l, q = .ok (acc, l) → R = progG acc l ∧ m = acc.length ∧ xs = (acc.map tkcells).flatten ∧ ∀ t, t ∈ acc → t.Fits) (her : ∀ l, q = .error l → R = .error l) (hne : ∀ acc l, q = .ok (acc, l) → isT [w_exn] l = false ∧ Ended l) :
    ∃ (r : Res Tm) (f : Nat), (∀ u l, q = .ok (u, l) → parseF f .expr l = some r) ∧ (∀ l, q = .error l → r = .error l) ∧ (∀ l, r = .error l → R = .error l) ∧ ∀ t l', r = .ok (t, l') → ∃ acc, m = acc.length ∧ xs = (acc.map tkcells).flatten ∧ (∀ t, t ∈ acc → t.Fits) ∧ R = .ok ((acc, t), l') := by
  cases q with
  | error l => exact ⟨.error l, 0, fun u l' e => (by cases e), fun l' e => (by cases e; rfl), fun l' e => (by cases e; exact her l rfl), fun t l' e => (by cases e)⟩
  | ok p =>
    obtain ⟨acc, l⟩ := p
    obtain ⟨h1, h2⟩ := hne acc l rfl
    obtain ⟨f, hf, -⟩ := parseL_some (nt := .expr) h2
    obtain ⟨e1, e2, e3, e4⟩ := hok acc l rfl
    rw [progG_body h1] at e1
    unfold bodyG at e1
    refine ⟨parseL .expr l, f, fun u l' e => (by cases e; exact hf), fun l' e => (by cases e), fun l' e => ?_, fun t l' e => ?_⟩
    · rw [e] at e1; exact e1
    · rw [e] at e1; exact ⟨acc, e2, e3, e4, e1⟩
/-- The tokens that are left. -/
def lenS {α : Type} : Res α → Nat
  | .error l => l.length
  | .ok (_, l) => l.length
theorem prog_step {R : Res (List Tk × Tm)} {acc : List Tk} {t u : Tk} {l2 : List Tk} (hi : isT [w_exn] (t :: u :: l2) = true) (hE : Ended (t :: u :: l2)) (hR : R = progG acc (t :: u :: l2)) :
    ∃ q' : Res (List Tk), (∀ l, thenR (thenR (.ok ((), u :: l2) : Res Unit) (getK 3)) (getW s_semi) = .error l → q' = .error l) ∧ (∀ x l, thenR (thenR (.ok ((), u :: l2) : Res Unit) (getK 3)) (getW s_semi) = .ok (x, l) → ∃ v, q' = .ok (v, l)) ∧ (∀ acc' l3, q' = .ok (acc', l3) → R = progG acc' l3 ∧ acc' = acc ++ [u]) ∧ (∀ l, q' = .error l → R = .error l) ∧ leftQ q' < leftQ (.ok (acc, t :: u :: l2) : Res (List Tk)) ∧ lenS q' ≤ l2.length + 1 := by
  show ∃ q' : Res (List Tk), (∀ l, thenR (getK 3 (u :: l2)) (getW s_semi) = .error l → q' = .error l) ∧ (∀ x l, thenR (getK 3 (u :: l2)) (getW s_semi) = .ok (x, l) → ∃ v, q' = .ok (v, l)) ∧ _
  by_cases hu : u.k = 3
  · rw [show getK 3 (u :: l2) = .ok (u.text, l2) by simp [getK, hu]]
    show ∃ q' : Res (List Tk), (∀ l, getW s_semi l2 = .error l → q' = .error l) ∧ (∀ x l, getW s_semi l2 = .ok (x, l) → ∃ v, q' = .ok (v, l)) ∧ _
    have h1 := (hE.tail_ne (isT_kind hi)).2
    cases l2 with
    | nil => exact absurd h1 (by simp [Ended, hu])
    | cons v l3 =>
      cases hv : isT [s_semi] (v :: l3) with
      | true =>
        rw [show getW s_semi (v :: l3) = .ok ((), l3) by simp [getW, hv]]
        exact ⟨.ok (acc ++ [u], l3), fun l e => (by cases e), fun x l e => (by cases e; exact ⟨_, rfl⟩), fun acc' l e => (by cases e; exact ⟨hR.trans (progG_more hi hu hv), rfl⟩), fun l e => (by cases e), by simp only [leftQ, List.length_cons]; omega, by simp only [lenS, List.length_cons]; omega⟩
      | false =>
        rw [show getW s_semi (v :: l3) = .error (v :: l3) by simp [getW, hv]]
        exact ⟨.error (v :: l3), fun l e => (by cases e; rfl), fun x l e => (by cases e), fun acc' l e => (by cases e), fun l e => (by cases e; exact hR.trans (progG_semi hi hu hv)), by simp only [leftQ]; omega, by simp only [lenS, List.length_cons]; omega⟩
  · rw [show getK 3 (u :: l2) = .error (u :: l2) by simp [getK, hu]]
    exact ⟨.error (u :: l2), fun l e => (by cases e; rfl), fun x l e => (by cases e), fun acc' l e => (by cases e), fun l e => (by cases e; exact hR.trans (progG_kind hi hE hu)), by simp only [leftQ]; omega, by simp only [lenS, List.length_cons]; omega⟩
theorem owns_slice_any {W : World} {base m size : Nat} {e : TypeId} {v : Value} {xs : List Value} (ho : W.ownsRow base e size v m xs) : ∃ ak ck, v = .slice ak m ck := by
  rcases ho.2 with ⟨rfl, rfl⟩ | ⟨g, cap, cur, rfl, -⟩
  · exact ⟨none, 0, rfl⟩
  · exact ⟨_, cap, rfl⟩
theorem infoTk5 : (Tryz.prog.info? 37).map (fun i => (i.zero, i.size, i.bytes)) = some (some (.agg #[.int .u8 0, .string ⟨#[]⟩, .int .i64 0]), 3, 32) := by kernel_rfl
set_option maxRecDepth 60000 in
set_option maxHeartbeats 8000000 in
theorem ref5_prog (B : List UInt8) (w : World) (a : Option Addr) (len cap : Nat) (h1 : len ≤ cap) (h2 : cap ≤ 9223372036854775807) (hr : IsBytes w B a len) :
    Calls Tryz.prog 16 #[.slice a len cap] w (RetProg w (progR B)) := by
  have KB := Lib.hid fun W (h : Ext w W) => ref5_begin B W a len cap h1 h2 (hr.ext h)
  have HR := Lib.hid (beginR_run progL B)
  have HEN := Lib.hid fun L (h : beginR B = .ok L) => And.intro (beginR_ok h) (beginR_len h)
  have HER := Lib.hid fun q (h : beginR B = .error q) => beginR_err h
  have HR : Hid (progR B = _) := HR
  unfold RetB at KB
  generalize beginR B = bR at *
  generalize progR B = tR at *
  clear hr
  cases bR with
  | error q =>
    obtain ⟨p, f⟩ := q
    have hf := HER.out _ rfl
    have hfb : (f != 0) = true := by simpa using hf
    have HR2 : Hid (tR = .error (p, f)) := Lib.hid HR.out
    clear hf HR HEN HER
    go_enter Tryz.func16, Tryz.ntmps16
    go_wp2_with (go_at_call 40; refine (KB.out _ (by (exact eX))).mono ?_; rintro e w1 ⟨x1, rfl⟩; have hZ1 := blk_top x1; obtain ⟨z0, z1, z2, z3, z4, z5, z6, z7, z8⟩ := hZ1.nine; obtain ⟨g0, g1, g2, g3, g4, g5, g6, g7, g8⟩ := hZ1.frozen9; have lz := hZ1.lt)
    have Y1 : Ext w w1 := by (exact eX)
    have Z9 := (Blk.lay09 hZ1 (u0 := .slice none 0 0) (u1 := .int .u8 0) (u2 := .int .u8 0) (u3 := .int .i64 0) (u4 := .int .i64 0) (u5 := .string ⟨#[]⟩) (u6 := .string ⟨#[]⟩) (u7 := .string ⟨#[]⟩) (u8 := .slice none 0 0)).alloc (.cells #[.slice none 0 0, .int .i64 0, .bool false] 71)
    obtain ⟨r2, r3, r4, r5, r6, r7, r8, r9, ra⟩ := Z9.nine
    have Y9 := (Ext.lay09 Y1 (g := w.heap.size) (u0 := .slice none 0 0) (u1 := .int .u8 0) (u2 := .int .u8 0) (u3 := .int .i64 0) (u4 := .int .i64 0) (u5 := .string ⟨#[]⟩) (u6 := .string ⟨#[]⟩) (u7 := .string ⟨#[]⟩) (u8 := .slice none 0 0) (Nat.le_refl _)).alloc (.cells #[.slice none 0 0, .int .i64 0, .bool false] 71)
    rw [HR2.out]
    unfold Go.Proofs.YtaioeailgknfjaaGreatDoor.lay9 at Y9 r2 r3 r4 r5 r6 r7 r8 r9 ra
    exact bodyPost_ret (v := .tuple #[.agg #[.slice none 0 0, .int .u8 0, .int .u8 0, .int .i64 0, .int .i64 0, .string ⟨#[]⟩, .string ⟨#[]⟩, .string ⟨#[]⟩, .slice none 0 0], .int .i64 p, .int .i64 f]) (by simp [results, Tryz.results16, go_sem, r2, r3, r4, r5, r6, r7, r8, r9, ra]) rfl ⟨Y9, rfl⟩
  | ok L =>
    obtain ⟨hE, hLen⟩ := HEN.out L rfl
    have HE := Lib.hid hE
    have HR2 : Hid (tR = endR (progL L)) := Lib.hid HR.out
    have HG := Lib.hid (show progL L = progG [] L from rfl)
    generalize progL L = R at *
    obtain ⟨i0, hi, hz0, hz1', hz2'⟩ := info_parts infoTk5
    have HIN := Lib.hid (And.intro hi (And.intro hz0 (And.intro hz1' hz2')))
    clear HR HEN HER hE hi hz0 hz1' hz2'
    go_enter Tryz.func16, Tryz.ntmps16
    go_upto_region 4 with (go_at_call 40; refine (KB.out _ (by (exact eX))).mono ?_; rintro e w1 ⟨x1, a', n', c', rfl, hL1⟩; have hZ1 := blk_top x1; have lz := hZ1.lt)
    have HZ1 := Lib.hid hZ1
    have HY1 := Lib.hid (show Ext w w1 by (exact eX))
    have HL1 := Lib.hid hL1
    clear hZ1 x1 hL1 KB
    go_upto_region 5 with fail
    have hZs := HZ1.out.lt
    have PQ0 : ProgQ L a' n' c' w w1.heap.size (w1.heap.size + 1) (w1.heap.size + 1 + 1) R 0 false none 0 0 [] (.ok ([], L)) ((w1.alloc (.cells #[.slice a' n' c', .int .i64 0, .bool false] 71)).alloc (.cells #[.slice none 0 0, .int .u8 0, .int .u8 0, .int .i64 0, .int .i64 0, .string ⟨#[]⟩, .string ⟨#[]⟩, .string ⟨#[]⟩, .slice none 0 0] 41)) := {
      s := (Blk.new w1 _ _).alloc _
      o := by have h := Blk.new (w1.alloc (.cells #[.slice a' n' c', .int .i64 0, .bool false] 71)) 41 #[.slice none 0 0, .int .u8 0, .int .u8 0, .int .i64 0, .int .i64 0, .string ⟨#[]⟩, .string ⟨#[]⟩, .string ⟨#[]⟩, .slice none 0 0]; rw [World.size_alloc] at h; exact h
      z := (HZ1.out.alloc _).alloc _
      row := World.ownsRow_nil _ _ _ _
      st := ⟨rfl, ⟨rfl, by have := HL1.out.toks.length; have hE := HE.out; cases L with | nil => exact hE.elim | cons t l => simp at this; omega⟩, HE.out⟩
      ok := fun acc l e => by cases e; exact ⟨HG.out, rfl, rfl, by simp⟩
      er := fun l e => by cases e
      mi := Nat.le_refl _
      x := by
        have hy := HY1.out
        (exact eX)
      lt5 := hZs
      lt8 := Nat.lt_succ_self _
      ltb := Nat.lt_succ_self _ }
    have HPQ0 := Lib.hid PQ0
    have HW1 := Lib.hid (show Ext w1 ((w1.alloc (.cells #[.slice a' n' c', .int .i64 0, .bool false] 71)).alloc (.cells #[.slice none 0 0, .int .u8 0, .int .u8 0, .int .i64 0, .int .i64 0, .string ⟨#[]⟩, .string ⟨#[]⟩, .string ⟨#[]⟩, .slice none 0 0] 41)) by (exact eX))
    clear PQ0 HG
    obtain ⟨g5, hg5⟩ : ∃ g, g = w1.heap.size := ⟨_, rfl⟩
    obtain ⟨g8, hg8⟩ : ∃ g, g = w1.heap.size + 1 := ⟨_, rfl⟩
    go_loopg [] (leftQ (.ok ([], L) : Res (List Tk))) (fun g wr => ∃ (i : Nat) (bad : Bool) (ea : Option Addr) (m ec : Nat) (xs : List Value) (q : Res (List Tk)), g = leftQ q ∧ ProgQ L a' n' c' w w1.heap.size (w1.heap.size + 1) (w1.heap.size + 1 + 1) R i bad ea m ec xs q wr ∧ Ext w1 wr)
    case atStart => exact ⟨0, false, none, 0, 0, [], _, rfl, HPQ0.out, HW1.out⟩
    case round =>
      obtain ⟨i, bad, ea, m, ec, xs, q, rfl, hPQ, hw1⟩ := hrel
      have HPQ := Lib.hid hPQ
      have HW1X := Lib.hid hw1
      clear HPQ0 HW1
      have gen5 : w1.heap.size + 1 + 1 = g8 + 1 := by omega
      rw [gen5, ← hg8, ← hg5] at hPQ HPQ
      rw [← hg8, ← hg5]
      have HE5 := Lib.hid hg5
      have HE8 := Lib.hid hg8
      clear hg5 hg8 gen5 hPQ hw1
      have hl5 := HPQ.out.lt5
      have hl8 := HPQ.out.lt8
      obtain ⟨p0, p1, p2, f0, f1, f2, l0⟩ := SBlk.open_ HPQ.out.s
      by_cases hex : ∃ acc l, q = .ok (acc, l) ∧ isT [w_exn] l = true
      case neg =>
        cases bad with
        | true =>
          have HNE : Hid (∀ acc l, q = .ok (acc, l) → isT [w_exn] l = false ∧ Ended l) := Lib.hid fun acc l e => by
            have h := HPQ.out.st
            rw [e] at h
            exact absurd h.1 (by simp)
          clear hex
          obtain ⟨WX, hWX⟩ : ∃ W, W = wr := ⟨_, rfl⟩
          obtain ⟨bad, hbd⟩ : ∃ b, b = true := ⟨_, rfl⟩
          go_upto_region 11 with fail
          rw [← hWX] at HPQ HW1X ⊢
          rw [← hbd] at HPQ
          clear hWX hbd p0 p1 p2 f0 f1 f2 l0 hl5 hl8
          obtain ⟨r, f, hr1, hr2, hr3, hr4⟩ := prog_end HPQ.out.ok HPQ.out.er HNE.out
          have HR3 := Lib.hid hr3
          have HR4 := Lib.hid hr4
          have KE := Lib.hid (ref5_exprS (ref5_knot f).1 L a' n' c' i bad q r WX (HL1.out.ext (HW1X.out)) HPQ.out.st hr1 hr2)
          clear hr1 hr2 hr3 hr4 HNE
          obtain ⟨p0, p1, p2, f0, f1, f2, l0⟩ := SBlk.open_ HPQ.out.s
          have ho8 : Blk WX g8 41 _ := HPQ.out.o
          have hl5 := HPQ.out.lt5
          have hl8 := HPQ.out.lt8
          have hlb := HPQ.out.ltb
          go_upto_region 12 with (go_at_call 44; refine (KE.out).mono ?_; rintro e w2 ⟨x2, i2, bad2, y, ak, nk, ck, rfl, hs2, hT2⟩; obtain ⟨m0, m1, m2, k0, k1, k2, ll0⟩ := SBlk.open_ (SBlk.ext HPQ.out.s x2); obtain ⟨o0, o1, o2, o3, o4, o5, o6, o7, o8⟩ := (ho8.ext x2).nine; obtain ⟨j0, j1, j2, j3, j4, j5, j6, j7, j8⟩ := (ho8.ext x2).frozen9; have lo8 := (ho8.ext x2).lt)
          obtain ⟨t, l', b, o, rfl, hi2, q0, q1, q2, hst⟩ := StS.tok (HL1.out.ext (HW1X.out.trans x2)) hs2
          have hb1 : b < w1.heap.size := by
            have h := HL1.out.toks.at3 (i := 0) (by omega)
            obtain ⟨_, b', o', _, _, e, q, _, _⟩ := h
            cases e
            exact World.block_lt_of_cell? _ _ q
          have X5 : ExtX (fun q => q = g5 ∨ q = g8) w2 (lay9 (w3s w2 g5 (some ⟨b, o, none⟩) n' c' i2 bad2) g8 (.int .u8 y.k) (.int .u8 y.op) (.int .i64 y.pos) (.int .i64 y.n) (.string y.name) (.string y.arg) (.string y.exn) (.slice ak nk ck)) := (w3s_x.mono fun _ e => .inl e).trans ((ExtX.refl (A := (· = g8)) _).lay9 (.inl rfl) |>.mono fun _ e => .inr e)
          have S5 : SBlk (lay9 (w3s w2 g5 (some ⟨b, o, none⟩) n' c' i2 bad2) g8 (.int .u8 y.k) (.int .u8 y.op) (.int .i64 y.pos) (.int .i64 y.n) (.string y.name) (.string y.arg) (.string y.exn) (.slice ak nk ck)) g5 (some ⟨b, o, none⟩) n' c' i2 bad2 := Blk.extx (w3s_blk (SBlk.ext HPQ.out.s x2)) ((ExtX.refl (A := (· = g8)) _).lay9 (.inl rfl)) (by show ¬ g5 = g8; omega)
          have O5 := (Blk.extx (ho8.ext x2) (w3s_x (s := g5) (a := some ⟨b, o, none⟩) (n := n') (c := c') (i := i2) (bad := bad2)) (show ¬ g8 = g5 by omega)).lay9 (u1 := .int .u8 y.k) (u2 := .int .u8 y.op) (u3 := .int .i64 y.pos) (u4 := .int .i64 y.n) (u5 := .string y.name) (u6 := .string y.arg) (u7 := .string y.exn) (u8 := .slice ak nk ck)
          have he5 := HE5.out
          have he8 := HE8.out
          have c0 := X5.cell (p := ⟨b, o + i2 * 3, none⟩) (show ¬ (b = g5 ∨ b = g8) by omega) q0
          have c1 := X5.cell (p := ⟨b, o + i2 * 3 + 1, none⟩) (show ¬ (b = g5 ∨ b = g8) by omega) q1
          have c2 := X5.cell (p := ⟨b, o + i2 * 3 + 2, none⟩) (show ¬ (b = g5 ∨ b = g8) by omega) q2
          have hZX : Blk WX w.heap.size 41 _ := HPQ.out.z
          have Z5 := Blk.extx (hZX.ext x2) X5 (show ¬ (w.heap.size = g5 ∨ w.heap.size = g8) by omega)
          have Y5 := ExtX.ext (HPQ.out.x.trans x2) X5 (fun q e => by rcases e with e | e <;> omega)
          have R5 := owns_keep X5 (fun k e => by rcases e with e | e <;> omega) (owns_ext x2 HPQ.out.row)
          have hsX := Blk.lt HPQ.out.o
          have hwX := Below.size x2
          have K5 : Hid (∀ t l, r = .ok (t, l) → t.head = y ∧ y.Fits ∧ nk ≤ ck ∧ ck ≤ 9223372036854775807 ∧ IsTmsA (fun q => q = w.heap.size) (lay9 (w3s w2 g5 (some ⟨b, o, none⟩) n' c' i2 bad2) g8 (.int .u8 y.k) (.int .u8 y.op) (.int .i64 y.pos) (.int .i64 y.n) (.string y.name) (.string y.arg) (.string y.exn) (.slice ak nk ck)) t.kids ak nk) := Lib.hid fun t l e => by
            obtain ⟨e1, e2, e3, e4, e5⟩ := hT2 t l e
            exact ⟨e1, e2, e3, e4, (e5.extx X5 (fun q e => by show q < _; rcases e with e | e <;> omega)).move (fun q _ (e : q = w.heap.size) => by show q < _; omega) (fun _ _ _ hu => hu)⟩
          unfold Go.Proofs.YtaioeailgknfjaaGreatDoor.lay9 w3s at S5 O5 c0 c1 c2 Z5 Y5 R5 K5
          clear he5 he8 m0 m1 m2 k0 k1 k2 ll0 o0 o1 o2 o3 o4 o5 o6 o7 o8 j0 j1 j2 j3 j4 j5 j6 j7 j8 lo8 x2 p0 p1 p2 f0 f1 f2 l0 q0 q1 q2 X5 hT2 hs2 KE ho8 hZX HPQ
          generalize ((((((((((w2.setCell ⟨g5, 0, none⟩ (.slice (some ⟨b, o, none⟩) n' c')).setCell ⟨g5, 1, none⟩ (.int .i64 (i2 : Nat))).setCell ⟨g5, 2, none⟩ (.bool bad2)).setCell ⟨g8, 1, none⟩ (.int .u8 y.k)).setCell ⟨g8, 2, none⟩ (.int .u8 y.op)).setCell ⟨g8, 3, none⟩ (.int .i64 y.pos)).setCell ⟨g8, 4, none⟩ (.int .i64 y.n)).setCell ⟨g8, 5, none⟩ (.string y.name)).setCell ⟨g8, 6, none⟩ (.string y.arg)).setCell ⟨g8, 7, none⟩ (.string y.exn)).setCell ⟨g8, 8, none⟩ (.slice ak nk ck) = W5 at *
          have HO5 := Lib.hid O5
          have HZ5 := Lib.hid Z5
          have HY5 := Lib.hid Y5
          have HR5 := Lib.hid R5
          obtain ⟨z0, z1, z2, z3, z4, z5, z6, z7, z8⟩ := Z5.nine
          obtain ⟨k0, k1, k2, k3, k4, k5, k6, k7, k8⟩ := Z5.frozen9
          have lz5 := Z5.lt
          obtain ⟨p0, p1, p2, f0, f1, f2, l0⟩ := SBlk.open_ S5
          obtain ⟨d0, d1, d2, d3, d4, d5, d6, d7, d8⟩ := O5.nine
          have hbz : b ≠ w.heap.size := by
            rintro rfl
            have h1 := HZ5.out.cell (o + i2 * 3)
            rw [c0] at h1
            have h2 := HZ5.out.cell (o + i2 * 3 + 1)
            rw [c1] at h2
            match h : o + i2 * 3, h1, h2 with
            | 0, h1, h2 => simp at h1
            | 1, h1, h2 => simp at h2
            | 2, h1, h2 => simp at h2
            | 3, h1, h2 => simp at h1
            | 4, h1, h2 => simp at h1
            | 5, h1, h2 => simp at h1
            | 6, h1, h2 => simp at h1
            | 7, h1, h2 => simp at h1
            | 8, h1, h2 => simp at h1
            | k + 9, h1, h2 => simp at h1
          clear S5 O5 Z5 Y5 R5 c1 HZ1 HL1
          by_cases hgood : ∃ tt ll, r = .ok (tt, ll) ∧ t.k = 6
          · obtain ⟨tt, ll, rfl, hk⟩ := hgood
            obtain ⟨rfl, rfl⟩ := hst
            have hkb : (t.k != 6) = false := by simpa using hk
            obtain ⟨acc, ea1, ea2, ea3, ea4⟩ := HR4.out tt _ rfl
            have HRF : Hid (tR = .ok (acc, tt)) := Lib.hid (HR2.out.trans (by rw [ea4]; exact if_pos hk))
            clear HR2 hk
            obtain ⟨e1, e2, e3, e4, e5⟩ := K5.out tt _ rfl
            subst e1
            have HTT := Lib.hid (And.intro e2 (And.intro e3 (And.intro e4 e5)))
            have X9 : ExtX (· = w.heap.size) W5 (lay9 (W5.setCell ⟨w.heap.size, 0, none⟩ (.slice ea m ec)) w.heap.size (.int .u8 tt.head.k) (.int .u8 tt.head.op) (.int .i64 tt.head.pos) (.int .i64 tt.head.n) (.string tt.head.name) (.string tt.head.arg) (.string tt.head.exn) (.slice ak nk ck)) := (ExtX.refl (A := (· = w.heap.size)) W5).lay09 (.inl rfl)
            have HY9 := Lib.hid (ExtX.ext HY5.out X9 (fun q (e : q = w.heap.size) => by omega))
            have HB9 := Lib.hid (HZ5.out.lay09 (u0 := .slice ea m ec) (u1 := .int .u8 tt.head.k) (u2 := .int .u8 tt.head.op) (u3 := .int .i64 tt.head.pos) (u4 := .int .i64 tt.head.n) (u5 := .string tt.head.name) (u6 := .string tt.head.arg) (u7 := .string tt.head.exn) (u8 := .slice ak nk ck))
            have HI9 : Hid (IsPg (lay9 (W5.setCell ⟨w.heap.size, 0, none⟩ (.slice ea m ec)) w.heap.size (.int .u8 tt.head.k) (.int .u8 tt.head.op) (.int .i64 tt.head.pos) (.int .i64 tt.head.n) (.string tt.head.name) (.string tt.head.arg) (.string tt.head.exn) (.slice ak nk ck)) (acc, tt) (.agg #[.slice ea m ec, .int .u8 tt.head.k, .int .u8 tt.head.op, .int .i64 tt.head.pos, .int .i64 tt.head.n, .string tt.head.name, .string tt.head.arg, .string tt.head.exn, .slice ak nk ck])) := Lib.hid (by
              obtain ⟨e2, e3, e4, e5⟩ := HTT.out
              subst ea1 ea2
              obtain ⟨a9, c9, hv, g1, g2, hTk, hTb⟩ := owns_toks HR5.out ea3
              cases hv
              exact ⟨_, _, _, ak, nk, ck, rfl, g1, g2, hTk.keep X9 (fun p e h => by have := hTb p e; have h : p.block = w.heap.size := h; omega), e2, e3, e4, (e5.extx X9 (fun q e => e)).any⟩)
            unfold Go.Proofs.YtaioeailgknfjaaGreatDoor.lay9 at HY9 HB9 HI9
            clear K5 e2 e3 e4 e5 X9 ea1 ea2 ea3 ea4
            go_wp2_with fail
            obtain ⟨r2, r3, r4, r5, r6, r7, r8, r9, ra⟩ := HB9.out.nine
            rw [HRF.out]
            exact bodyPost_ret (v := .tuple #[.agg #[.slice ea m ec, .int .u8 tt.head.k, .int .u8 tt.head.op, .int .i64 tt.head.pos, .int .i64 tt.head.n, .string tt.head.name, .string tt.head.arg, .string tt.head.exn, .slice ak nk ck], .int .i64 0, .int .i64 0]) (by simp [results, Tryz.results16, go_sem, r2, r3, r4, r5, r6, r7, r8, r9, ra]) rfl ⟨HY9.out, _, rfl, HI9.out⟩
          · have hbad : tR = .error (t.pos, 2) ∧ (bad2 = true ∨ bad2 = false ∧ (t.k != 6) = true) := by
              have hR := HR2.out
              cases r with
              | error l =>
                obtain ⟨rfl, rfl⟩ := hst
                rw [HR3.out _ rfl] at hR
                exact ⟨hR, .inl rfl⟩
              | ok q =>
                obtain ⟨tt, ll⟩ := q
                obtain ⟨rfl, rfl⟩ := hst
                have hne : ¬ t.k = 6 := fun h => hgood ⟨tt, _, rfl, h⟩
                obtain ⟨acc, -, -, -, ea4⟩ := HR4.out tt _ rfl
                rw [ea4] at hR
                exact ⟨hR.trans (if_neg hne), .inr ⟨rfl, by simpa using hne⟩⟩
            have HRF := Lib.hid hbad.1
            have hbad := hbad.2
            clear HR2 hst hgood K5
            have nS0 := fun W (h : ExtX (· = w.heap.size) W5 W) => h.cell (p := ⟨g5, 0, none⟩) (show ¬ g5 = w.heap.size by omega) p0
            have nS1 := fun W (h : ExtX (· = w.heap.size) W5 W) => h.cell (p := ⟨g5, 1, none⟩) (show ¬ g5 = w.heap.size by omega) p1
            have nC2 := fun W (h : ExtX (· = w.heap.size) W5 W) => h.cell (p := ⟨b, o + i2 * 3 + 2, none⟩) hbz c2
            have X9 := (ExtX.refl (A := (· = w.heap.size)) W5).lay09 (g := w.heap.size) (u0 := .slice none 0 0) (u1 := .int .u8 0) (u2 := .int .u8 0) (u3 := .int .i64 0) (u4 := .int .i64 0) (u5 := .string ⟨#[]⟩) (u6 := .string ⟨#[]⟩) (u7 := .string ⟨#[]⟩) (u8 := .slice none 0 0) (.inl rfl)
            have HY9 := Lib.hid (ExtX.ext HY5.out X9 (fun q (e : q = w.heap.size) => by omega))
            have HB9 := Lib.hid (HZ5.out.lay09 (u0 := .slice none 0 0) (u1 := .int .u8 0) (u2 := .int .u8 0) (u3 := .int .i64 0) (u4 := .int .i64 0) (u5 := .string ⟨#[]⟩) (u6 := .string ⟨#[]⟩) (u7 := .string ⟨#[]⟩) (u8 := .slice none 0 0))
            unfold Go.Proofs.YtaioeailgknfjaaGreatDoor.lay9 at HY9 HB9
            clear X9
            rcases hbad with rfl | ⟨rfl, hkb⟩
            · go_upto_region 13 with fail
              refine wp_region_held_drew (S := fun w' => ExtX (· = w.heap.size) W5 w') (by kernel_rfl) (by (try dsimp only); (exact xX)) (fun hHeld => ?_)
              refine tK 0 (v := ?_) ?_ ?_;rotate_left;(focus (intro w hSw;(try dsimp only at hSw);go_simp;(try with_reducible rfl)));try simp only [Act.put,pA,pB,pC]
              refine tK 1 (v := ?_) ?_ ?_;rotate_left;(focus (intro w hSw;(try dsimp only at hSw);go_simp;(try with_reducible rfl)));try simp only [Act.put,pA,pB,pC]
              refine tK 2 (v := ?_) ?_ ?_;rotate_left;(focus (intro w hSw;(try dsimp only at hSw);go_simp;(try with_reducible rfl)));try simp only [Act.put,pA,pB,pC]
              refine tK 3 (v := ?_) ?_ ?_;rotate_left;(focus (intro w hSw;(try dsimp only at hSw);go_simp;(try with_reducible rfl)));try simp only [Act.put,pA,pB,pC]
              refine tK 4 (v := ?_) ?_ ?_;rotate_left;(focus (intro w hSw;(try dsimp only at hSw);go_simp;(try with_reducible rfl)));try simp only [Act.put,pA,pB,pC]
              refine tK 5 (v := ?_) ?_ ?_;rotate_left;(focus (intro w hSw;(try dsimp only at hSw);go_simp;(try with_reducible rfl)));try simp only [Act.put,pA,pB,pC]
              refine tK 6 (v := ?_) ?_ ?_;rotate_left;(focus (intro w hSw;(try dsimp only at hSw);go_simp;(try with_reducible rfl)));try simp only [Act.put,pA,pB,pC]
              refine tK 7 (v := ?_) ?_ ?_;rotate_left;(focus (intro w hSw;(try dsimp only at hSw);go_simp;(try with_reducible rfl)));try simp only [Act.put,pA,pB,pC]
              refine held_do 8 rfl (by kernel_rfl) (by rfl) (fun K hK => ?_); go_simp; refine hK.out _ _ (by (try dsimp only); (exact xX)) (fun hHeld => ?_); clear hK K; try simp only [Act.put,pA,pB,pC]
              refine tK 9 (v := ?_) ?_ ?_;rotate_left;(focus (intro w hSw;(try dsimp only at hSw);go_simp;(try with_reducible rfl)));try simp only [Act.put,pA,pB,pC]
              refine tK 10 (v := ?_) ?_ ?_;rotate_left;(focus (intro w hSw;(try dsimp only at hSw);go_simp;(try with_reducible rfl)));try simp only [Act.put,pA,pB,pC]
              refine wpAnyH_done (by kernel_rfl) ?_ _
              repeat (first | go_values | go_skip | go_guarded | go_step | go_upon)
              obtain ⟨r2, r3, r4, r5, r6, r7, r8, r9, ra⟩ := HB9.out.drew.nine
              rw [HRF.out]
              exact bodyPost_ret (v := .tuple #[.agg #[.slice none 0 0, .int .u8 0, .int .u8 0, .int .i64 0, .int .i64 0, .string ⟨#[]⟩, .string ⟨#[]⟩, .string ⟨#[]⟩, .slice none 0 0], .int .i64 t.pos, .int .i64 2]) (by simp [results, Tryz.results16, go_sem, r2, r3, r4, r5, r6, r7, r8, r9, ra]) rfl ⟨HY9.out.drew, rfl⟩
            · go_upto_region 13 with fail
              refine wp_region_held_drew (S := fun w' => ExtX (· = w.heap.size) W5 w') (by kernel_rfl) (by (try dsimp only); (exact xX)) (fun hHeld => ?_)
              refine tK 0 (v := ?_) ?_ ?_;rotate_left;(focus (intro w hSw;(try dsimp only at hSw);go_simp;(try with_reducible rfl)));try simp only [Act.put,pA,pB,pC]
              refine tK 1 (v := ?_) ?_ ?_;rotate_left;(focus (intro w hSw;(try dsimp only at hSw);go_simp;(try with_reducible rfl)));try simp only [Act.put,pA,pB,pC]
              refine tK 2 (v := ?_) ?_ ?_;rotate_left;(focus (intro w hSw;(try dsimp only at hSw);go_simp;(try with_reducible rfl)));try simp only [Act.put,pA,pB,pC]
              refine tK 3 (v := ?_) ?_ ?_;rotate_left;(focus (intro w hSw;(try dsimp only at hSw);go_simp;(try with_reducible rfl)));try simp only [Act.put,pA,pB,pC]
              refine tK 4 (v := ?_) ?_ ?_;rotate_left;(focus (intro w hSw;(try dsimp only at hSw);go_simp;(try with_reducible rfl)));try simp only [Act.put,pA,pB,pC]
              refine tK 5 (v := ?_) ?_ ?_;rotate_left;(focus (intro w hSw;(try dsimp only at hSw);go_simp;(try with_reducible rfl)));try simp only [Act.put,pA,pB,pC]
              refine tK 6 (v := ?_) ?_ ?_;rotate_left;(focus (intro w hSw;(try dsimp only at hSw);go_simp;(try with_reducible rfl)));try simp only [Act.put,pA,pB,pC]
              refine tK 7 (v := ?_) ?_ ?_;rotate_left;(focus (intro w hSw;(try dsimp only at hSw);go_simp;(try with_reducible rfl)));try simp only [Act.put,pA,pB,pC]
              refine held_do 8 rfl (by kernel_rfl) (by rfl) (fun K hK => ?_); go_simp; refine hK.out _ _ (by (try dsimp only); (exact xX)) (fun hHeld => ?_); clear hK K; try simp only [Act.put,pA,pB,pC]
              refine tK 9 (v := ?_) ?_ ?_;rotate_left;(focus (intro w hSw;(try dsimp only at hSw);go_simp;(try with_reducible rfl)));try simp only [Act.put,pA,pB,pC]
              refine tK 10 (v := ?_) ?_ ?_;rotate_left;(focus (intro w hSw;(try dsimp only at hSw);go_simp;(try with_reducible rfl)));try simp only [Act.put,pA,pB,pC]
              refine wpAnyH_done (by kernel_rfl) ?_ _
              repeat (first | go_values | go_skip | go_guarded | go_step | go_upon)
              obtain ⟨r2, r3, r4, r5, r6, r7, r8, r9, ra⟩ := HB9.out.drew.nine
              rw [HRF.out]
              exact bodyPost_ret (v := .tuple #[.agg #[.slice none 0 0, .int .u8 0, .int .u8 0, .int .i64 0, .int .i64 0, .string ⟨#[]⟩, .string ⟨#[]⟩, .string ⟨#[]⟩, .slice none 0 0], .int .i64 t.pos, .int .i64 2]) (by simp [results, Tryz.results16, go_sem, r2, r3, r4, r5, r6, r7, r8, r9, ra]) rfl ⟨HY9.out.drew, rfl⟩
        | false =>
          have HNE : Hid (∀ acc l, q = .ok (acc, l) → isT [w_exn] l = false ∧ Ended l) := Lib.hid fun acc l e => by
            have h := HPQ.out.st
            rw [e] at h
            exact ⟨by cases hi : isT [w_exn] l with | false => rfl | true => exact absurd ⟨acc, l, e, hi⟩ hex, h.2.2⟩
          obtain ⟨acc0, l0', hq0⟩ : ∃ acc l, q = .ok (acc, l) := by
            cases q with
            | error l => exact absurd HPQ.out.st.1 (by simp)
            | ok p => exact ⟨p.1, p.2, rfl⟩
          have hA0 : AtS L n' i l0' := by have h := HPQ.out.st; rw [hq0] at h; exact h.2.1
          have KX := Lib.hid (ref5_text L a' n' c' i false l0' wr (HL1.out.ext HW1X.out) hA0)
          have t1 := txS_not (by decide +kernel) (HNE.out acc0 l0' hq0).1
          generalize txS l0' = tx at *
          have b1 : (tx.toList == ([101, 120, 110] : List UInt8)) = false := by simpa using fun e => t1 (e.trans (by decide +kernel))
          clear hex hq0 hA0 t1
          obtain ⟨bad, hbd⟩ : ∃ b, b = false := ⟨_, rfl⟩
          go_upto_region 11 with (go_at_call 41; refine (KX.out).mono ?_; rintro e WX ⟨rfl, x2⟩)
          have HPQ := Lib.hid (HPQ.out.ext x2)
          have HW1X := Lib.hid (HW1X.out.trans x2)
          rw [← hbd] at HPQ
          clear hbd p0 p1 p2 f0 f1 f2 l0 hl5 hl8 x2 KX b1
          obtain ⟨r, f, hr1, hr2, hr3, hr4⟩ := prog_end HPQ.out.ok HPQ.out.er HNE.out
          have HR3 := Lib.hid hr3
          have HR4 := Lib.hid hr4
          have KE := Lib.hid (ref5_exprS (ref5_knot f).1 L a' n' c' i bad q r WX (HL1.out.ext (HW1X.out)) HPQ.out.st hr1 hr2)
          clear hr1 hr2 hr3 hr4 HNE
          obtain ⟨p0, p1, p2, f0, f1, f2, l0⟩ := SBlk.open_ HPQ.out.s
          have ho8 : Blk WX g8 41 _ := HPQ.out.o
          have hl5 := HPQ.out.lt5
          have hl8 := HPQ.out.lt8
          have hlb := HPQ.out.ltb
          go_upto_region 12 with (go_at_call 44; refine (KE.out).mono ?_; rintro e w2 ⟨x2, i2, bad2, y, ak, nk, ck, rfl, hs2, hT2⟩; obtain ⟨m0, m1, m2, k0, k1, k2, ll0⟩ := SBlk.open_ (SBlk.ext HPQ.out.s x2); obtain ⟨o0, o1, o2, o3, o4, o5, o6, o7, o8⟩ := (ho8.ext x2).nine; obtain ⟨j0, j1, j2, j3, j4, j5, j6, j7, j8⟩ := (ho8.ext x2).frozen9; have lo8 := (ho8.ext x2).lt)
          obtain ⟨t, l', b, o, rfl, hi2, q0, q1, q2, hst⟩ := StS.tok (HL1.out.ext (HW1X.out.trans x2)) hs2
          have hb1 : b < w1.heap.size := by
            have h := HL1.out.toks.at3 (i := 0) (by omega)
            obtain ⟨_, b', o', _, _, e, q, _, _⟩ := h
            cases e
            exact World.block_lt_of_cell? _ _ q
          have X5 : ExtX (fun q => q = g5 ∨ q = g8) w2 (lay9 (w3s w2 g5 (some ⟨b, o, none⟩) n' c' i2 bad2) g8 (.int .u8 y.k) (.int .u8 y.op) (.int .i64 y.pos) (.int .i64 y.n) (.string y.name) (.string y.arg) (.string y.exn) (.slice ak nk ck)) := (w3s_x.mono fun _ e => .inl e).trans ((ExtX.refl (A := (· = g8)) _).lay9 (.inl rfl) |>.mono fun _ e => .inr e)
          have S5 : SBlk (lay9 (w3s w2 g5 (some ⟨b, o, none⟩) n' c' i2 bad2) g8 (.int .u8 y.k) (.int .u8 y.op) (.int .i64 y.pos) (.int .i64 y.n) (.string y.name) (.string y.arg) (.string y.exn) (.slice ak nk ck)) g5 (some ⟨b, o, none⟩) n' c' i2 bad2 := Blk.extx (w3s_blk (SBlk.ext HPQ.out.s x2)) ((ExtX.refl (A := (· = g8)) _).lay9 (.inl rfl)) (by show ¬ g5 = g8; omega)
          have O5 := (Blk.extx (ho8.ext x2) (w3s_x (s := g5) (a := some ⟨b, o, none⟩) (n := n') (c := c') (i := i2) (bad := bad2)) (show ¬ g8 = g5 by omega)).lay9 (u1 := .int .u8 y.k) (u2 := .int .u8 y.op) (u3 := .int .i64 y.pos) (u4 := .int .i64 y.n) (u5 := .string y.name) (u6 := .string y.arg) (u7 := .string y.exn) (u8 := .slice ak nk ck)
          have he5 := HE5.out
          have he8 := HE8.out
          have c0 := X5.cell (p := ⟨b, o + i2 * 3, none⟩) (show ¬ (b = g5 ∨ b = g8) by omega) q0
          have c1 := X5.cell (p := ⟨b, o + i2 * 3 + 1, none⟩) (show ¬ (b = g5 ∨ b = g8) by omega) q1
          have c2 := X5.cell (p := ⟨b, o + i2 * 3 + 2, none⟩) (show ¬ (b = g5 ∨ b = g8) by omega) q2
          have hZX : Blk WX w.heap.size 41 _ := HPQ.out.z
          have Z5 := Blk.extx (hZX.ext x2) X5 (show ¬ (w.heap.size = g5 ∨ w.heap.size = g8) by omega)
          have Y5 := ExtX.ext (HPQ.out.x.trans x2) X5 (fun q e => by rcases e with e | e <;> omega)
          have R5 := owns_keep X5 (fun k e => by rcases e with e | e <;> omega) (owns_ext x2 HPQ.out.row)
          have hsX := Blk.lt HPQ.out.o
          have hwX := Below.size x2
          have K5 : Hid (∀ t l, r = .ok (t, l) → t.head = y ∧ y.Fits ∧ nk ≤ ck ∧ ck ≤ 9223372036854775807 ∧ IsTmsA (fun q => q = w.heap.size) (lay9 (w3s w2 g5 (some ⟨b, o, none⟩) n' c' i2 bad2) g8 (.int .u8 y.k) (.int .u8 y.op) (.int .i64 y.pos) (.int .i64 y.n) (.string y.name) (.string y.arg) (.string y.exn) (.slice ak nk ck)) t.kids ak nk) := Lib.hid fun t l e => by
            obtain ⟨e1, e2, e3, e4, e5⟩ := hT2 t l e
            exact ⟨e1, e2, e3, e4, (e5.extx X5 (fun q e => by show q < _; rcases e with e | e <;> omega)).move (fun q _ (e : q = w.heap.size) => by show q < _; omega) (fun _ _ _ hu => hu)⟩
          unfold Go.Proofs.YtaioeailgknfjaaGreatDoor.lay9 w3s at S5 O5 c0 c1 c2 Z5 Y5 R5 K5
          clear he5 he8 m0 m1 m2 k0 k1 k2 ll0 o0 o1 o2 o3 o4 o5 o6 o7 o8 j0 j1 j2 j3 j4 j5 j6 j7 j8 lo8 x2 p0 p1 p2 f0 f1 f2 l0 q0 q1 q2 X5 hT2 hs2 KE ho8 hZX HPQ
          generalize ((((((((((w2.setCell ⟨g5, 0, none⟩ (.slice (some ⟨b, o, none⟩) n' c')).setCell ⟨g5, 1, none⟩ (.int .i64 (i2 : Nat))).setCell ⟨g5, 2, none⟩ (.bool bad2)).setCell ⟨g8, 1, none⟩ (.int .u8 y.k)).setCell ⟨g8, 2, none⟩ (.int .u8 y.op)).setCell ⟨g8, 3, none⟩ (.int .i64 y.pos)).setCell ⟨g8, 4, none⟩ (.int .i64 y.n)).setCell ⟨g8, 5, none⟩ (.string y.name)).setCell ⟨g8, 6, none⟩ (.string y.arg)).setCell ⟨g8, 7, none⟩ (.string y.exn)).setCell ⟨g8, 8, none⟩ (.slice ak nk ck) = W5 at *
          have HO5 := Lib.hid O5
          have HZ5 := Lib.hid Z5
          have HY5 := Lib.hid Y5
          have HR5 := Lib.hid R5
          obtain ⟨z0, z1, z2, z3, z4, z5, z6, z7, z8⟩ := Z5.nine
          obtain ⟨k0, k1, k2, k3, k4, k5, k6, k7, k8⟩ := Z5.frozen9
          have lz5 := Z5.lt
          obtain ⟨p0, p1, p2, f0, f1, f2, l0⟩ := SBlk.open_ S5
          obtain ⟨d0, d1, d2, d3, d4, d5, d6, d7, d8⟩ := O5.nine
          have hbz : b ≠ w.heap.size := by
            rintro rfl
            have h1 := HZ5.out.cell (o + i2 * 3)
            rw [c0] at h1
            have h2 := HZ5.out.cell (o + i2 * 3 + 1)
            rw [c1] at h2
            match h : o + i2 * 3, h1, h2 with
            | 0, h1, h2 => simp at h1
            | 1, h1, h2 => simp at h2
            | 2, h1, h2 => simp at h2
            | 3, h1, h2 => simp at h1
            | 4, h1, h2 => simp at h1
            | 5, h1, h2 => simp at h1
            | 6, h1, h2 => simp at h1
            | 7, h1, h2 => simp at h1
            | 8, h1, h2 => simp at h1
            | k + 9, h1, h2 => simp at h1
          clear S5 O5 Z5 Y5 R5 c1 HZ1 HL1
          by_cases hgood : ∃ tt ll, r = .ok (tt, ll) ∧ t.k = 6
          · obtain ⟨tt, ll, rfl, hk⟩ := hgood
            obtain ⟨rfl, rfl⟩ := hst
            have hkb : (t.k != 6) = false := by simpa using hk
            obtain ⟨acc, ea1, ea2, ea3, ea4⟩ := HR4.out tt _ rfl
            have HRF : Hid (tR = .ok (acc, tt)) := Lib.hid (HR2.out.trans (by rw [ea4]; exact if_pos hk))
            clear HR2 hk
            obtain ⟨e1, e2, e3, e4, e5⟩ := K5.out tt _ rfl
            subst e1
            have HTT := Lib.hid (And.intro e2 (And.intro e3 (And.intro e4 e5)))
            have X9 : ExtX (· = w.heap.size) W5 (lay9 (W5.setCell ⟨w.heap.size, 0, none⟩ (.slice ea m ec)) w.heap.size (.int .u8 tt.head.k) (.int .u8 tt.head.op) (.int .i64 tt.head.pos) (.int .i64 tt.head.n) (.string tt.head.name) (.string tt.head.arg) (.string tt.head.exn) (.slice ak nk ck)) := (ExtX.refl (A := (· = w.heap.size)) W5).lay09 (.inl rfl)
            have HY9 := Lib.hid (ExtX.ext HY5.out X9 (fun q (e : q = w.heap.size) => by omega))
            have HB9 := Lib.hid (HZ5.out.lay09 (u0 := .slice ea m ec) (u1 := .int .u8 tt.head.k) (u2 := .int .u8 tt.head.op) (u3 := .int .i64 tt.head.pos) (u4 := .int .i64 tt.head.n) (u5 := .string tt.head.name) (u6 := .string tt.head.arg) (u7 := .string tt.head.exn) (u8 := .slice ak nk ck))
            have HI9 : Hid (IsPg (lay9 (W5.setCell ⟨w.heap.size, 0, none⟩ (.slice ea m ec)) w.heap.size (.int .u8 tt.head.k) (.int .u8 tt.head.op) (.int .i64 tt.head.pos) (.int .i64 tt.head.n) (.string tt.head.name) (.string tt.head.arg) (.string tt.head.exn) (.slice ak nk ck)) (acc, tt) (.agg #[.slice ea m ec, .int .u8 tt.head.k, .int .u8 tt.head.op, .int .i64 tt.head.pos, .int .i64 tt.head.n, .string tt.head.name, .string tt.head.arg, .string tt.head.exn, .slice ak nk ck])) := Lib.hid (by
              obtain ⟨e2, e3, e4, e5⟩ := HTT.out
              subst ea1 ea2
              obtain ⟨a9, c9, hv, g1, g2, hTk, hTb⟩ := owns_toks HR5.out ea3
              cases hv
              exact ⟨_, _, _, ak, nk, ck, rfl, g1, g2, hTk.keep X9 (fun p e h => by have := hTb p e; have h : p.block = w.heap.size := h; omega), e2, e3, e4, (e5.extx X9 (fun q e => e)).any⟩)
            unfold Go.Proofs.YtaioeailgknfjaaGreatDoor.lay9 at HY9 HB9 HI9
            clear K5 e2 e3 e4 e5 X9 ea1 ea2 ea3 ea4
            go_wp2_with fail
            obtain ⟨r2, r3, r4, r5, r6, r7, r8, r9, ra⟩ := HB9.out.nine
            rw [HRF.out]
            exact bodyPost_ret (v := .tuple #[.agg #[.slice ea m ec, .int .u8 tt.head.k, .int .u8 tt.head.op, .int .i64 tt.head.pos, .int .i64 tt.head.n, .string tt.head.name, .string tt.head.arg, .string tt.head.exn, .slice ak nk ck], .int .i64 0, .int .i64 0]) (by simp [results, Tryz.results16, go_sem, r2, r3, r4, r5, r6, r7, r8, r9, ra]) rfl ⟨HY9.out, _, rfl, HI9.out⟩
          · have hbad : tR = .error (t.pos, 2) ∧ (bad2 = true ∨ bad2 = false ∧ (t.k != 6) = true) := by
              have hR := HR2.out
              cases r with
              | error l =>
                obtain ⟨rfl, rfl⟩ := hst
                rw [HR3.out _ rfl] at hR
                exact ⟨hR, .inl rfl⟩
              | ok q =>
                obtain ⟨tt, ll⟩ := q
                obtain ⟨rfl, rfl⟩ := hst
                have hne : ¬ t.k = 6 := fun h => hgood ⟨tt, _, rfl, h⟩
                obtain ⟨acc, -, -, -, ea4⟩ := HR4.out tt _ rfl
                rw [ea4] at hR
                exact ⟨hR.trans (if_neg hne), .inr ⟨rfl, by simpa using hne⟩⟩
            have HRF := Lib.hid hbad.1
            have hbad := hbad.2
            clear HR2 hst hgood K5
            have nS0 := fun W (h : ExtX (· = w.heap.size) W5 W) => h.cell (p := ⟨g5, 0, none⟩) (show ¬ g5 = w.heap.size by omega) p0
            have nS1 := fun W (h : ExtX (· = w.heap.size) W5 W) => h.cell (p := ⟨g5, 1, none⟩) (show ¬ g5 = w.heap.size by omega) p1
            have nC2 := fun W (h : ExtX (· = w.heap.size) W5 W) => h.cell (p := ⟨b, o + i2 * 3 + 2, none⟩) hbz c2
            have X9 := (ExtX.refl (A := (· = w.heap.size)) W5).lay09 (g := w.heap.size) (u0 := .slice none 0 0) (u1 := .int .u8 0) (u2 := .int .u8 0) (u3 := .int .i64 0) (u4 := .int .i64 0) (u5 := .string ⟨#[]⟩) (u6 := .string ⟨#[]⟩) (u7 := .string ⟨#[]⟩) (u8 := .slice none 0 0) (.inl rfl)
            have HY9 := Lib.hid (ExtX.ext HY5.out X9 (fun q (e : q = w.heap.size) => by omega))
            have HB9 := Lib.hid (HZ5.out.lay09 (u0 := .slice none 0 0) (u1 := .int .u8 0) (u2 := .int .u8 0) (u3 := .int .i64 0) (u4 := .int .i64 0) (u5 := .string ⟨#[]⟩) (u6 := .string ⟨#[]⟩) (u7 := .string ⟨#[]⟩) (u8 := .slice none 0 0))
            unfold Go.Proofs.YtaioeailgknfjaaGreatDoor.lay9 at HY9 HB9
            clear X9
            rcases hbad with rfl | ⟨rfl, hkb⟩
            · go_upto_region 13 with fail
              refine wp_region_held_drew (S := fun w' => ExtX (· = w.heap.size) W5 w') (by kernel_rfl) (by (try dsimp only); (exact xX)) (fun hHeld => ?_)
              refine tK 0 (v := ?_) ?_ ?_;rotate_left;(focus (intro w hSw;(try dsimp only at hSw);go_simp;(try with_reducible rfl)));try simp only [Act.put,pA,pB,pC]
              refine tK 1 (v := ?_) ?_ ?_;rotate_left;(focus (intro w hSw;(try dsimp only at hSw);go_simp;(try with_reducible rfl)));try simp only [Act.put,pA,pB,pC]
              refine tK 2 (v := ?_) ?_ ?_;rotate_left;(focus (intro w hSw;(try dsimp only at hSw);go_simp;(try with_reducible rfl)));try simp only [Act.put,pA,pB,pC]
              refine tK 3 (v := ?_) ?_ ?_;rotate_left;(focus (intro w hSw;(try dsimp only at hSw);go_simp;(try with_reducible rfl)));try simp only [Act.put,pA,pB,pC]
              refine tK 4 (v := ?_) ?_ ?_;rotate_left;(focus (intro w hSw;(try dsimp only at hSw);go_simp;(try with_reducible rfl)));try simp only [Act.put,pA,pB,pC]
              refine tK 5 (v := ?_) ?_ ?_;rotate_left;(focus (intro w hSw;(try dsimp only at hSw);go_simp;(try with_reducible rfl)));try simp only [Act.put,pA,pB,pC]
              refine tK 6 (v := ?_) ?_ ?_;rotate_left;(focus (intro w hSw;(try dsimp only at hSw);go_simp;(try with_reducible rfl)));try simp only [Act.put,pA,pB,pC]
              refine tK 7 (v := ?_) ?_ ?_;rotate_left;(focus (intro w hSw;(try dsimp only at hSw);go_simp;(try with_reducible rfl)));try simp only [Act.put,pA,pB,pC]
              refine held_do 8 rfl (by kernel_rfl) (by rfl) (fun K hK => ?_); go_simp; refine hK.out _ _ (by (try dsimp only); (exact xX)) (fun hHeld => ?_); clear hK K; try simp only [Act.put,pA,pB,pC]
              refine tK 9 (v := ?_) ?_ ?_;rotate_left;(focus (intro w hSw;(try dsimp only at hSw);go_simp;(try with_reducible rfl)));try simp only [Act.put,pA,pB,pC]
              refine tK 10 (v := ?_) ?_ ?_;rotate_left;(focus (intro w hSw;(try dsimp only at hSw);go_simp;(try with_reducible rfl)));try simp only [Act.put,pA,pB,pC]
              refine wpAnyH_done (by kernel_rfl) ?_ _
              repeat (first | go_values | go_skip | go_guarded | go_step | go_upon)
              obtain ⟨r2, r3, r4, r5, r6, r7, r8, r9, ra⟩ := HB9.out.drew.nine
              rw [HRF.out]
              exact bodyPost_ret (v := .tuple #[.agg #[.slice none 0 0, .int .u8 0, .int .u8 0, .int .i64 0, .int .i64 0, .string ⟨#[]⟩, .string ⟨#[]⟩, .string ⟨#[]⟩, .slice none 0 0], .int .i64 t.pos, .int .i64 2]) (by simp [results, Tryz.results16, go_sem, r2, r3, r4, r5, r6, r7, r8, r9, ra]) rfl ⟨HY9.out.drew, rfl⟩
            · go_upto_region 13 with fail
              refine wp_region_held_drew (S := fun w' => ExtX (· = w.heap.size) W5 w') (by kernel_rfl) (by (try dsimp only); (exact xX)) (fun hHeld => ?_)
              refine tK 0 (v := ?_) ?_ ?_;rotate_left;(focus (intro w hSw;(try dsimp only at hSw);go_simp;(try with_reducible rfl)));try simp only [Act.put,pA,pB,pC]
              refine tK 1 (v := ?_) ?_ ?_;rotate_left;(focus (intro w hSw;(try dsimp only at hSw);go_simp;(try with_reducible rfl)));try simp only [Act.put,pA,pB,pC]
              refine tK 2 (v := ?_) ?_ ?_;rotate_left;(focus (intro w hSw;(try dsimp only at hSw);go_simp;(try with_reducible rfl)));try simp only [Act.put,pA,pB,pC]
              refine tK 3 (v := ?_) ?_ ?_;rotate_left;(focus (intro w hSw;(try dsimp only at hSw);go_simp;(try with_reducible rfl)));try simp only [Act.put,pA,pB,pC]
              refine tK 4 (v := ?_) ?_ ?_;rotate_left;(focus (intro w hSw;(try dsimp only at hSw);go_simp;(try with_reducible rfl)));try simp only [Act.put,pA,pB,pC]
              refine tK 5 (v := ?_) ?_ ?_;rotate_left;(focus (intro w hSw;(try dsimp only at hSw);go_simp;(try with_reducible rfl)));try simp only [Act.put,pA,pB,pC]
              refine tK 6 (v := ?_) ?_ ?_;rotate_left;(focus (intro w hSw;(try dsimp only at hSw);go_simp;(try with_reducible rfl)));try simp only [Act.put,pA,pB,pC]
              refine tK 7 (v := ?_) ?_ ?_;rotate_left;(focus (intro w hSw;(try dsimp only at hSw);go_simp;(try with_reducible rfl)));try simp only [Act.put,pA,pB,pC]
              refine held_do 8 rfl (by kernel_rfl) (by rfl) (fun K hK => ?_); go_simp; refine hK.out _ _ (by (try dsimp only); (exact xX)) (fun hHeld => ?_); clear hK K; try simp only [Act.put,pA,pB,pC]
              refine tK 9 (v := ?_) ?_ ?_;rotate_left;(focus (intro w hSw;(try dsimp only at hSw);go_simp;(try with_reducible rfl)));try simp only [Act.put,pA,pB,pC]
              refine tK 10 (v := ?_) ?_ ?_;rotate_left;(focus (intro w hSw;(try dsimp only at hSw);go_simp;(try with_reducible rfl)));try simp only [Act.put,pA,pB,pC]
              refine wpAnyH_done (by kernel_rfl) ?_ _
              repeat (first | go_values | go_skip | go_guarded | go_step | go_upon)
              obtain ⟨r2, r3, r4, r5, r6, r7, r8, r9, ra⟩ := HB9.out.drew.nine
              rw [HRF.out]
              exact bodyPost_ret (v := .tuple #[.agg #[.slice none 0 0, .int .u8 0, .int .u8 0, .int .i64 0, .int .i64 0, .string ⟨#[]⟩, .string ⟨#[]⟩, .string ⟨#[]⟩, .slice none 0 0], .int .i64 t.pos, .int .i64 2]) (by simp [results, Tryz.results16, go_sem, r2, r3, r4, r5, r6, r7, r8, r9, ra]) rfl ⟨HY9.out.drew, rfl⟩
      case pos =>
        obtain ⟨acc, l, rfl, hi⟩ := hex
        obtain ⟨rfl, hA, hE'⟩ := HPQ.out.st
        obtain ⟨t, l1, b, o, rfl, rfl, -, -, -, -, hnx⟩ := hA.tok (HL1.out.ext HW1X.out)
        have hne := hE'.tail_ne (isT_kind hi)
        cases l1 with
        | nil => exact (hne.1 rfl).elim
        | cons u l2 =>
        have hA1 := hnx (by simp)
        obtain ⟨u', l2', b', o', e1, e2, huf, q0, q1, q2, -⟩ := hA1.tok (HL1.out.ext HW1X.out)
        cases e1
        cases e2
        have hb1 : b < w1.heap.size := by
          have h := HL1.out.toks.at3 (i := 0) (by have := hA.2; omega)
          obtain ⟨_, b', o', _, _, e, q, _, _⟩ := h
          cases e
          exact World.block_lt_of_cell? _ _ q
        have KX := Lib.hid (ref5_text L (some ⟨b, o, none⟩) n' c' i false (t :: u :: l2) wr (HL1.out.ext HW1X.out) hA)
        have htx : txS (t :: u :: l2) = w_exn := by
          have h1 := txS_is (xs := [w_exn]) (by decide +kernel) (t :: u :: l2)
          rw [hi] at h1
          have h2 := (inB_iff _ _).1 h1
          simpa using h2
        rw [htx] at KX
        have hwx : (w_exn.toList == ([101, 120, 110] : List UInt8)) = true := by decide +kernel
        have hn1 := hA1.2
        have hcn := HL1.out.le
        have hcc := HL1.out.cap
        have hw1 : IntKind.i64.wrap ((i : Int) + 1) = (i : Int) + 1 := IntWalk.i64_in _ ⟨by omega, by omega⟩
        have HI := Lib.hid hi
        have HA1 := Lib.hid hA1
        have HE1 := Lib.hid hne.2
        have HEl := Lib.hid hE'
        have HUF := Lib.hid huf
        clear hi hA hE' hnx hne hA1 huf htx
        go_upto_region 7 with (go_at_call 41; refine (KX.out).mono ?_; rintro e WX ⟨rfl, x2⟩; obtain ⟨m0, m1, m2, k0, k1, k2, ll0⟩ := SBlk.open_ (SBlk.ext HPQ.out.s x2); have c0 := x2.cell q0; have c1 := x2.cell q1; have c2 := x2.cell q2)
        have he5 := HE5.out
        have he8 := HE8.out
        have hb5 : b ≠ g5 := by omega
        clear he5 he8
        go_upto_region 8 with fail
        have he5 := HE5.out
        have he8 := HE8.out
        have Q1 := HPQ.out.ext x2
        have X1 : ExtX (· = g5) WX ((WX.setCell ⟨g5, 1, none⟩ (.int .i64 ((i : Int) + 1))).alloc (.cells #[.int .u8 u.k, .string u.text, .int .i64 u.pos] 37)) := ((ExtX.refl (A := (· = g5)) WX).setCell (p := ⟨g5, 1, none⟩) (.inl rfl) _).alloc _
        have S1 : SBlk ((WX.setCell ⟨g5, 1, none⟩ (.int .i64 ((i : Int) + 1))).alloc (.cells #[.int .u8 u.k, .string u.text, .int .i64 u.pos] 37)) g5 (some ⟨b, o, none⟩) n' c' (i + 1) false := (SBlk.next Q1.s).alloc _
        have T1 := Blk.new (WX.setCell ⟨g5, 1, none⟩ (.int .i64 ((i : Int) + 1))) 37 #[.int .u8 u.k, .string u.text, .int .i64 u.pos]
        have hsz1 : (WX.setCell ⟨g5, 1, none⟩ (.int .i64 ((i : Int) + 1))).heap.size = WX.heap.size := by simp
        rw [hsz1] at T1
        have hw1x := HW1X.out.trans x2
        have hsX := Blk.lt Q1.o
        have HO1 := Lib.hid (Blk.extx Q1.o X1 (show ¬ g8 = g5 by omega))
        have HZ1' := Lib.hid (Blk.extx Q1.z X1 (show ¬ w.heap.size = g5 by omega))
        have HR1 := Lib.hid (owns_keep X1 (fun k (e : k = g5) => by omega) Q1.row)
        have HY1' := Lib.hid (ExtX.ext Q1.x X1 (fun q (e : q = g5) => by omega))
        have HWA := Lib.hid (ExtX.ext hw1x X1 (fun q (e : q = g5) => by omega))
        have HS1 := Lib.hid S1
        have HT1 := Lib.hid T1
        have hg9 : g8 < WX.heap.size := hsX
        obtain ⟨q', hq1, hq2, hq3, hq4, hq5, hq6⟩ := prog_step HI.out HEl.out (HPQ.out.ok acc _ rfl).1
        have HQ1 := Lib.hid hq1
        have HQ2 := Lib.hid hq2
        have HQ3 := Lib.hid hq3
        have HQ4 := Lib.hid hq4
        have HQ5 := Lib.hid hq5
        have HQ6 := Lib.hid hq6
        have HOK := Lib.hid (HPQ.out.ok acc _ rfl)
        have hle5 : w1.heap.size ≤ g5 := Nat.le_of_eq he5.symm
        clear he5 he8
        have hmi := HPQ.out.mi
        have hlb := HPQ.out.ltb
        clear hq1 hq2 hq3 hq4 hq5 hq6 Q1 X1 S1 T1 hsz1 hw1x hsX c0 c1 c2 q0 q1 q2 m0 m1 m2 k0 k1 k2 ll0 x2 p0 p1 p2 f0 f1 f2 l0 HPQ HW1X
        generalize (WX.setCell ⟨g5, 1, none⟩ (.int .i64 ((i : Int) + 1))).alloc (.cells #[.int .u8 u.k, .string u.text, .int .i64 u.pos] 37) = WB at *
        generalize WX.heap.size = g9 at *
        clear WX
        have hs0 : StS L n' (i + 1) false (.ok ((), u :: l2) : Res Unit) := ⟨rfl, HA1.out, HE1.out⟩
        have KG : Hid (Calls Tryz.prog 42 #[.agg #[.slice (some ⟨b, o, none⟩) n' c', .int .i64 ((i : Int) + 1), .bool false], .int .u8 3] WB (fun e w' => Ext WB w' ∧ ∃ i' bad' tx, e = .returned (.tuple #[.agg #[.slice (some ⟨b, o, none⟩) n' c', .int .i64 (i' : Nat), .bool bad'], .string tx]) ∧ StS L n' i' bad' (thenR (.ok ((), u :: l2) : Res Unit) (getK 3)) ∧ ∀ x l', thenR (.ok ((), u :: l2) : Res Unit) (getK 3) = .ok (x, l') → tx = x)) := Lib.hid (ref5_getS L (some ⟨b, o, none⟩) n' c' (i + 1) false (.ok ((), u :: l2) : Res Unit) 3 (by omega) WB (HL1.out.ext HWA.out) hs0)
        clear hs0
        obtain ⟨p0, p1, p2, f0, f1, f2, l0⟩ := SBlk.open_ HS1.out
        have p1 : WB.cell? ⟨g5, 1, none⟩ = some (.int .i64 ((i : Int) + 1)) := p1
        go_upto_region 9 with (go_at_call 42; refine (KG.out).mono ?_; rintro e w2 ⟨x2, i2, bad2, tx, rfl, hs2, -⟩; obtain ⟨m0, m1, m2, k0, k1, k2, ll0⟩ := SBlk.open_ (SBlk.ext HS1.out x2))
        have S2 : SBlk (w3s w2 g5 (some ⟨b, o, none⟩) n' c' i2 bad2) g5 (some ⟨b, o, none⟩) n' c' i2 bad2 := w3s_blk (SBlk.ext HS1.out x2)
        have X2 : ExtX (· = g5) WB (w3s w2 g5 (some ⟨b, o, none⟩) n' c' i2 bad2) := (ExtX.of x2).trans w3s_x
        unfold w3s at S2 X2
        clear m0 m1 m2 k0 k1 k2 ll0 x2 p0 p1 p2 f0 f1 f2 l0
        generalize ((w2.setCell ⟨g5, 0, none⟩ (.slice (some ⟨b, o, none⟩) n' c')).setCell ⟨g5, 1, none⟩ (.int .i64 (i2 : Nat))).setCell ⟨g5, 2, none⟩ (.bool bad2) = W2 at *
        have HS2 := Lib.hid hs2
        have HSB2 := Lib.hid S2
        have HX2 := Lib.hid X2
        clear hs2 S2 X2 w2 KG
        have KW := Lib.hid (ref5_wantS L (some ⟨b, o, none⟩) n' c' i2 bad2 (thenR (.ok ((), u :: l2) : Res Unit) (getK 3)) s_semi (by decide +kernel) W2 (HL1.out.ext (ExtX.ext HWA.out HX2.out (fun q (e : q = g5) => by omega))) HS2.out)
        obtain ⟨p0, p1, p2, f0, f1, f2, l0⟩ := SBlk.open_ HSB2.out
        go_upto_region 10 with (go_at_call 43; refine (KW.out).mono ?_; rintro e w2 ⟨x2, i3, bad3, rfl, hs3⟩; obtain ⟨m0, m1, m2, k0, k1, k2, ll0⟩ := SBlk.open_ (SBlk.ext HSB2.out x2))
        have S3 : SBlk (w3s w2 g5 (some ⟨b, o, none⟩) n' c' i3 bad3) g5 (some ⟨b, o, none⟩) n' c' i3 bad3 := w3s_blk (SBlk.ext HSB2.out x2)
        have X3 : ExtX (· = g5) WB (w3s w2 g5 (some ⟨b, o, none⟩) n' c' i3 bad3) := (HX2.out.then_ x2).trans w3s_x
        unfold w3s at S3 X3
        clear m0 m1 m2 k0 k1 k2 ll0 x2 p0 p1 p2 f0 f1 f2 l0
        generalize ((w2.setCell ⟨g5, 0, none⟩ (.slice (some ⟨b, o, none⟩) n' c')).setCell ⟨g5, 1, none⟩ (.int .i64 (i3 : Nat))).setCell ⟨g5, 2, none⟩ (.bool bad3) = W3 at *
        have HS3 := Lib.hid (StS.cast hs3 (fun l e => HQ1.out l e) (fun x l e => HQ2.out x l e))
        have HSB3 := Lib.hid S3
        have HO3 := Lib.hid (Blk.extx HO1.out X3 (show ¬ g8 = g5 by omega))
        have HZ3 := Lib.hid (Blk.extx HZ1'.out X3 (show ¬ w.heap.size = g5 by omega))
        have HR3 := Lib.hid (owns_keep X3 (fun k (e : k = g5) => by omega) HR1.out)
        have HY3 := Lib.hid (ExtX.ext HY1'.out X3 (fun q (e : q = g5) => by omega))
        have HW3 := Lib.hid (ExtX.ext HWA.out X3 (fun q (e : q = g5) => by omega))
        have T3 := Blk.extx HT1.out X3 (show ¬ g9 = g5 by omega)
        have hz3 := X3.size
        have lt3 := T3.lt
        have e0 := T3.cell 0
        have e1 := T3.cell 1
        have e2 := T3.cell 2
        simp at e0 e1 e2
        have ho8 : Blk W3 g8 41 _ := HO3.out
        obtain ⟨o0, o1, o2, o3, o4, o5, o6, o7, o8⟩ := ho8.nine
        have lo8 := ho8.lt
        clear hs3 S3 X3 w2 KW HS2 HSB2 HX2 HS1 HO1 HZ1' HR1 HY1' HWA HT1 T3 ho8 o1 o2 o3 o4 o5 o6 o7 o8
        have hn4 : n' ≤ 4001 := by have := HL1.out.toks.length; omega
        go_upto_region 11 with (at_builtin; refine wpList_append_mine rfl (.tmp 48) (.tmp 50) 32 ?r0 (g8 + 1) 37 i0 (.agg #[.int .u8 0, .string ⟨#[]⟩, .int .i64 0]) 3 32 ?r1 ?r2 ?r3 ?r4 ?r5 ?r6 ?r7 (.slice ea m ec) m xs ?r8 ?r9 ⟨W3.heap.size, 0, none⟩ 1 1 (tkcells u) ?r10 ?r11 ?r12 ?r13 ?r14 ?r15 ?r16 ?r17)
        case r0 => rfl
        case r1 => exact Tryz.underlying32
        case r2 => exact HIN.out.1
        case r3 => exact HIN.out.2.1
        case r4 => exact HIN.out.2.2.1
        case r5 => exact HIN.out.2.2.2
        case r6 => rfl
        case r7 => decide
        case r8 => rfl
        case r9 => exact owns_ext ((Ext.refl _).alloc _) HR3.out
        case r10 => rfl
        case r11 => rfl
        case r12 => exact list_at W3 (tkcells u) _
        case r13 => intro v hv; simp [tkcells] at hv; rcases hv with rfl | rfl | rfl <;> rfl
        case r14 => unfold maxLen; omega
        case r15 => omega
        case r16 => simp; omega
        case r17 =>
          intro v9 w9 ho9 hg9' hw9
          obtain ⟨a9, c9, rfl⟩ := owns_slice_any ho9
          have hrow := HR3.out.lt
          have k5 : SBlk w9 g5 (some ⟨b, o, none⟩) n' c' i3 bad3 := (hg9'.block g5 (by have := Blk.lt HSB3.out; simp; omega) (fun e => by have := hrow _ e.symm; omega)).trans (Blk.alloc HSB3.out _)
          have k8 := (hg9'.block g8 (by have := Blk.lt HO3.out; simp; omega) (fun e => by have := hrow _ e.symm; omega)).trans (Blk.alloc HO3.out _)
          have kz := (hg9'.block w.heap.size (by have := Blk.lt HZ3.out; simp; omega) (fun e => by have := hrow _ e.symm; omega)).trans (Blk.alloc HZ3.out _)
          have Y9 : Ext w w9 := ext_grown hg9' (HY3.out.alloc _) (fun k hk => by have := hrow k hk; omega)
          have V9 : Ext w1 w9 := ext_grown hg9' (HW3.out.alloc _) (fun k hk => by have := hrow k hk; omega)
          have X10 : ExtX (· = g8) w9 (w9.setCell ⟨g8, 0, none⟩ (.slice a9 (m + 1) c9)) := (ExtX.refl (A := (· = g8)) w9).setCell (p := ⟨g8, 0, none⟩) (.inl rfl) _
          have k8' : Blk w9 g8 41 _ := k8
          have HPQ9 : Hid (ProgQ L (some ⟨b, o, none⟩) n' c' w g5 g8 (g8 + 1) R i3 bad3 a9 (m + 1) c9 (xs ++ tkcells u) q' (w9.setCell ⟨g8, 0, none⟩ (.slice a9 (m + 1) c9))) := Lib.hid {
            s := Blk.extx k5 X10 (by show ¬ g5 = g8; omega)
            o := by have h := k8'.set_ 0 (.slice a9 (m + 1) c9); simp only [List.setIfInBounds_toArray, List.set_cons_zero] at h; exact h
            z := Blk.extx kz X10 (by show ¬ w.heap.size = g8; omega)
            row := owns_keep X10 (fun k (e : k = g8) => by omega) ho9
            st := HS3.out
            ok := fun acc' l3 e => by
              obtain ⟨f1, rfl⟩ := HQ3.out acc' l3 e
              obtain ⟨-, f2, f3, f4⟩ := HOK.out
              exact ⟨f1, by simp [f2], by rw [f3, toks_snoc2], fun q hq => by rcases List.mem_append.1 hq with hq | hq; exact f4 q hq; simp at hq; subst hq; exact HUF.out⟩
            er := HQ4.out
            mi := by
              have h1 := HQ6.out
              have h2 := HA1.out.1
              have h3 := HA1.out.2
              have hl := HL1.out.toks.length
              have h4 : lenS q' = n' - i3 ∧ i3 < n' := by
                have h := HS3.out
                cases q' with
                | error l => obtain ⟨-, h5, h6⟩ := h; exact ⟨by rw [← h5]; simp [lenS]; omega, h6⟩
                | ok p => obtain ⟨pv, pl⟩ := p; obtain ⟨-, ⟨h5, h6⟩, -⟩ := h; exact ⟨by rw [← h5]; simp [lenS]; omega, h6⟩
              have h5 := congrArg List.length h2
              simp at h5
              omega
            x := ExtX.ext Y9 X10 (fun q (e : q = g8) => by omega)
            lt5 := hl5
            lt8 := hl8
            ltb := Nat.lt_succ_self _ }
          have HV9 := Lib.hid (ExtX.ext V9 X10 (fun q (e : q = g8) => by omega))
          have d0 := k8'.cell 0
          have d1 := k8'.frozen 0
          have d2 := k8'.lt
          simp at d0
          clear k5 k8 kz Y9 V9 X10 k8' ho9 hg9' hw9 hrow
          go_wp2_with fail
          have e5 := HE5.out
          have e8 := HE8.out
          subst e5
          subst e8
          go_roundg (leftQ q')
          case rel =>
            exact ⟨i3, bad3, a9, m + 1, c9, _, q', rfl, HPQ9.out, HV9.out⟩
          case measure => exact HQ5.out
end Go.Proofs.YtaioeailgknfjaaGreatDoor

/- The walk of enclaveref04.Same. -/
namespace Go.Proofs.YtaioeailgknfjaaGreatDoor
open Go Go.RowKit Go.Sort

set_option maxRecDepth 8000 in
set_option maxHeartbeats 4000000 in
theorem ref4_same (m : Nat) : ∀ (t t' : Tm) (w : World) (v v' : Value), t.size ≤ m → IsTm w t v → IsTm w t' v' →
    Calls Tryz.prog 25 #[v, v'] w fun e w' => e = .returned (.bool (t.same t')) ∧ Ext w w' := by
  induction m with
  | zero => intro t t' w v v' h; have := t.size_pos; omega
  | succ m ih =>
    intro t t' w v v' hm ht ht'
    obtain ⟨x, l⟩ := t
    obtain ⟨x', l'⟩ := t'
    obtain ⟨a, len, cap, rfl, h1, h2, hf, hl⟩ := ht.open_
    obtain ⟨a', len', cap', rfl, h1', h2', hf', hl'⟩ := ht'.open_
    simp only [Tm.size] at hm
    have HL := Lib.hid hl.length
    have HL' := Lib.hid hl'.length
    have HSM : Hid ((Tm.mk x l).same (.mk x' l') = (x.same x' && Tm.sames l l')) := by show _ = _; rw [Tm.same]
    have HXS : Hid (x.same x' = (x.k == x'.k && (x.op == x'.op && (x.n == x'.n && (x.name.toList == x'.name.toList && (x.arg.toList == x'.arg.toList && x.exn.toList == x'.exn.toList)))))) := rfl
    have IH := Lib.hid ih
    clear ih ht ht' hf hf'
    cases A : (x.k == x'.k)
    case false =>
      have A1 : (x.k != x'.k) = true := by simp only [bne, A, Bool.not_false]
      rw [A] at HXS
      clear hl hl' IH
      go_enter Tryz.func25, Tryz.ntmps25
      go_wp2_with fail
      go_ret
      exact ⟨ret_bool (by rw [HSM.out, HXS.out]; simp), ((Ext.refl _).alloc _).alloc _⟩
    have A1 : (x.k != x'.k) = false := by simp only [bne, A, Bool.not_true]
    cases B : (x.op == x'.op)
    case false =>
      have B1 : (x.op != x'.op) = true := by simp only [bne, B, Bool.not_false]
      rw [A, B] at HXS
      clear hl hl' IH
      go_enter Tryz.func25, Tryz.ntmps25
      go_wp2_with fail
      go_ret
      exact ⟨ret_bool (by rw [HSM.out, HXS.out]; simp), ((Ext.refl _).alloc _).alloc _⟩
    have B1 : (x.op != x'.op) = false := by simp only [bne, B, Bool.not_true]
    cases C : (x.n == x'.n)
    case false =>
      have C1 : (x.n != x'.n) = true := by simp only [bne, C, Bool.not_false]
      rw [A, B, C] at HXS
      clear hl hl' IH
      go_enter Tryz.func25, Tryz.ntmps25
      go_wp2_with fail
      go_ret
      exact ⟨ret_bool (by rw [HSM.out, HXS.out]; simp), ((Ext.refl _).alloc _).alloc _⟩
    have C1 : (x.n != x'.n) = false := by simp only [bne, C, Bool.not_true]
    cases D : (x.name.toList == x'.name.toList)
    case false =>
      have D1 : (x.name.toList != x'.name.toList) = true := by simp only [bne, D, Bool.not_false]
      rw [A, B, C, D] at HXS
      clear hl hl' IH
      go_enter Tryz.func25, Tryz.ntmps25
      go_wp2_with fail
      go_ret
      exact ⟨ret_bool (by rw [HSM.out, HXS.out]; simp), ((Ext.refl _).alloc _).alloc _⟩
    have D1 : (x.name.toList != x'.name.toList) = false := by simp only [bne, D, Bool.not_true]
    cases E : (x.arg.toList == x'.arg.toList)
    case false =>
      have E1 : (x.arg.toList != x'.arg.toList) = true := by simp only [bne, E, Bool.not_false]
      rw [A, B, C, D, E] at HXS
      clear hl hl' IH
      go_enter Tryz.func25, Tryz.ntmps25
      go_wp2_with fail
      go_ret
      exact ⟨ret_bool (by rw [HSM.out, HXS.out]; simp), ((Ext.refl _).alloc _).alloc _⟩
    have E1 : (x.arg.toList != x'.arg.toList) = false := by simp only [bne, E, Bool.not_true]
    cases F : (x.exn.toList == x'.exn.toList)
    case false =>
      have F1 : (x.exn.toList != x'.exn.toList) = true := by simp only [bne, F, Bool.not_false]
      rw [A, B, C, D, E, F] at HXS
      clear hl hl' IH
      go_enter Tryz.func25, Tryz.ntmps25
      go_wp2_with fail
      go_ret
      exact ⟨ret_bool (by rw [HSM.out, HXS.out]; simp), ((Ext.refl _).alloc _).alloc _⟩
    have F1 : (x.exn.toList != x'.exn.toList) = false := by simp only [bne, F, Bool.not_true]
    rw [A, B, C, D, E, F] at HXS
    by_cases hln : len = len'
    case neg =>
      have hb : ((len : Int) != (len' : Int)) = true := by simp; omega
      have hs := Tm.sames_len l l' (by rw [← HL.out, ← HL'.out]; exact hln)
      have HSL := Lib.hid hs
      clear hs hl hl' IH
      go_enter Tryz.func25, Tryz.ntmps25
      go_wp2_with fail
      go_ret
      exact ⟨ret_bool (by rw [HSM.out, HXS.out, HSL.out]; simp), ((Ext.refl _).alloc _).alloc _⟩
    subst hln
    go_enter Tryz.func25, Tryz.ntmps25
    go_wp2_with fail
    clear A A1 B B1 C C1 D D1 E E1 F F1
    go_loopg [70] len (fun g i wr => ∃ j : Nat, g = len - j ∧ j ≤ len ∧ i = .int .i64 j ∧ Tm.samesTo l l' j ∧ Ext w wr ∧ wr.cell? ⟨w.heap.size, 7, none⟩ = some (.slice a len cap) ∧ wr.cell? ⟨w.heap.size + 1, 7, none⟩ = some (.slice a' len cap'))
    case atStart => exact ⟨0, by omega, by omega, rfl, fun j hj => by omega, ((Ext.refl _).alloc _).alloc _, by simp [go_sem], by simp [go_sem]⟩
    case round =>
      obtain ⟨j, rfl, hj, rfl, hto, hx, hc1, hc2⟩ := hrel
      have HT := Lib.hid hto
      clear hto
      by_cases hlt : j < len
      · obtain ⟨y, k, b, o, ak, lenk, capk, g, rfl, hbo, hd, hq, hfy, p1, p2, pl⟩ := hl.at8 hx hlt
        obtain ⟨y', k', b', o', ak', lenk', capk', g', rfl, hbo', hd', hq', hfy', p1', p2', pl'⟩ := hl'.at8 hx hlt
        obtain ⟨c0, c1, c2, c3, c4, c5, c6⟩ := hd
        obtain ⟨c0', c1', c2', c3', c4', c5', c6'⟩ := hd'
        have hsz := Tm.size_at l j _ g
        have G := Lib.hid g
        have G' := Lib.hid g'
        have cQ := quiet_ext (w := wr) fun w1 h1 => IH.out (.mk y k) (.mk y' k') w1 (tval y ak lenk capk) (tval y' ak' lenk' capk') (by omega) ((IsTmA.mk_ pl p1 p2 hfy).ext h1) ((IsTmA.mk_ pl' p1' p2' hfy').ext h1)
        have d0 := cells_regrown c0
        have d0' := cells_regrown c0'
        have d1 := cells_regrown c1
        have d1' := cells_regrown c1'
        have d2 := cells_regrown c2
        have d2' := cells_regrown c2'
        have d3 := cells_regrown c3
        have d3' := cells_regrown c3'
        have d4 := cells_regrown c4
        have d4' := cells_regrown c4'
        have d5 := cells_regrown c5
        have d5' := cells_regrown c5'
        have d6 := cells_regrown c6
        have d6' := cells_regrown c6'
        have d7 := cells_regrown hq
        have d7' := cells_regrown hq'
        have e7 := cells_regrown hc1
        have e7' := cells_regrown hc2
        clear g g' pl pl' hfy hfy'
        cases hr : (Tm.mk y k).same (.mk y' k')
        all_goals
          rw [hr] at cQ
          have HR := Lib.hid hr
          clear hr
          go_wp2_with fail
          refine wp_region_quiet_below (by kernel_rfl) (by kernel_rfl) ?_
          repeat (go_big_quiet_step (exact cQ _ _))
          refine wpQuiet_nil ?_
          intro w1 hq_w1
          have x1 := ext_of_regrown hq_w1
          clear hq_w1
          go_wp2_with fail
        · go_ret
          exact ⟨ret_bool (by rw [HSM.out, HXS.out, Tm.sames_no l l' j _ _ G.out G'.out HR.out]; simp), hx.trans x1⟩
        · go_roundg (len - (j + 1))
          case rel => exact ⟨j + 1, rfl, by omega, by go_num, Tm.samesTo_succ HT.out G.out G'.out HR.out, hx.trans x1, x1.cell hc1, x1.cell hc2⟩
          case measure => omega
      · obtain rfl : j = len := by omega
        go_wp2_with fail
        go_ret
        exact ⟨ret_bool (by rw [HSM.out, HXS.out, Tm.sames_yes l l' (by rw [← HL.out, ← HL'.out]) (by rw [← HL.out]; exact HT.out)]; simp), hx⟩
end Go.Proofs.YtaioeailgknfjaaGreatDoor

/- The walks of enclaveref04: Great, Depth, Kids, fits, Node. The walks of enclaveref04: Node. The walks of enclaveref04: All, May. -/
namespace Go.Proofs.YtaioeailgknfjaaGreatDoor
open Go Go.RowKit Go.Sort

end Go.Proofs.YtaioeailgknfjaaGreatDoor
namespace Go.Proofs.YtaioeailgknfjaaGreatDoor
open Go Go.RowKit Go.Sort

def bad1 (x : Hd) (len : Nat) : Bool := decide (karity x.k < 0) || (((len : Int) != karity x.k) || decide (x.pos < 0))
def bad2 (x : Hd) : Bool := ((x.k == 9) && (decide (x.op < 1) || decide (5 < x.op))) || ((x.k != 9) && (x.op != 0))
def bad3 (x : Hd) : Bool := decide (x.n < 0) || (decide (2147483647 < x.n) || ((x.k != 1) && (x.n != 0)))
end Go.Proofs.YtaioeailgknfjaaGreatDoor
namespace Go.Proofs.YtaioeailgknfjaaGreatDoor
open Go Go.RowKit Go.Sort

/-- Terms' cells, one behind the other; their kids in memory. -/
def FlatTms (w : World) : List Tm → List Value → Prop
  | [], xs => xs = []
  | t :: l, xs => ∃ a len cap rest, xs = (tcells t.head a len cap).toList ++ rest ∧ t.head.Fits ∧ len ≤ cap ∧ cap ≤ maxLen ∧ IsTms w t.kids a len ∧ FlatTms w l rest
theorem FlatTms.append {w : World} {l l' : List Tm} {xs ys : List Value} (h : FlatTms w l xs) (h' : FlatTms w l' ys) : FlatTms w (l ++ l') (xs ++ ys) := by
  induction l generalizing xs with
  | nil => simp only [FlatTms] at h; subst h; simpa using h'
  | cons t l ih =>
    simp only [FlatTms, List.cons_append] at h ⊢
    obtain ⟨a, len, cap, rest, rfl, hf, h1, h2, hk, hr⟩ := h
    exact ⟨a, len, cap, rest ++ ys, by simp, hf, h1, h2, hk, ih hr⟩
theorem FlatTms.length {w : World} {l : List Tm} {xs : List Value} (h : FlatTms w l xs) : xs.length = l.length * 8 := by
  induction l generalizing xs with
  | nil => simp only [FlatTms] at h; subst h; rfl
  | cons t l ih =>
    simp only [FlatTms] at h
    obtain ⟨a, len, cap, rest, rfl, hf, h1, h2, hk, hr⟩ := h
    rw [List.length_append, ih hr]
    simp [tcells]
    omega
theorem FlatTms.one {w : World} {l : List Tm} {xs : List Value} (h : FlatTms w l xs) : ∀ u ∈ xs, u.oneCell' = true := by
  induction l generalizing xs with
  | nil => simp only [FlatTms] at h; subst h; simp
  | cons t l ih =>
    simp only [FlatTms] at h
    obtain ⟨a, len, cap, rest, rfl, hf, h1, h2, hk, hr⟩ := h
    intro u hu
    rcases List.mem_append.1 hu with hu | hu
    · simp [tcells] at hu
      rcases hu with rfl | rfl | rfl | rfl | rfl | rfl | rfl | rfl <;> rfl
    · exact ih hr u hu
theorem FlatTms.ext {w w' : World} (hx : Ext w w') {l : List Tm} {xs : List Value} (h : FlatTms w l xs) : FlatTms w' l xs := by
  induction l generalizing xs with
  | nil => simpa only [FlatTms] using h
  | cons t l ih =>
    simp only [FlatTms] at h ⊢
    obtain ⟨a, len, cap, rest, rfl, hf, h1, h2, hk, hr⟩ := h
    exact ⟨a, len, cap, rest, rfl, hf, h1, h2, hk.ext hx, ih hr⟩
/-- Such cells in memory are a row of terms. -/
theorem FlatTms.tms {w : World} {l : List Tm} {xs : List Value} (h : FlatTms w l xs) (b o : Nat) (hc : ∀ (j : Nat) u, xs[j]? = some u → w.cell? ⟨b, o + j, none⟩ = some u) : IsTms w l (some ⟨b, o, none⟩) l.length := by
  induction l generalizing xs o with
  | nil => exact IsTmsA.nil _
  | cons t l ih =>
    simp only [FlatTms] at h
    obtain ⟨a, len, cap, rest, rfl, hf, h1, h2, hk, hr⟩ := h
    obtain ⟨x, k⟩ := t
    have hrest := ih hr (o + 8) fun j u hu => by
      have := hc (8 + j) u (by
        rw [List.getElem?_append_right (by simp [tcells])]
        simpa [tcells] using hu)
      rw [show o + 8 + j = o + (8 + j) from by omega]
      exact this
    unfold IsTms IsTmsA
    refine ⟨by simp, b, o, rfl, fun h => h, ?_, by simpa using hrest⟩
    simp only [TmAt]
    exact ⟨⟨hc 0 _ rfl, hc 1 _ rfl, hc 2 _ rfl, hc 3 _ rfl, hc 4 _ rfl, hc 5 _ rfl, hc 6 _ rfl⟩, hf, a, len, cap, hc 7 _ rfl, h1, h2, hk⟩

/-- A call hands back a row of terms of its own. -/
def RetRow (w0 w : World) (l : List Tm) (e : Ending) (w' : World) : Prop := ∃ v xs, e = .returned v ∧ w'.ownsRow w.heap.size 28 8 v l.length xs ∧ FlatTms w0 l xs ∧ Ext w w'
theorem infoTm : (Tryz.prog.info? 28).map (fun i => (i.zero, i.size, i.bytes)) = some (some (.agg #[.int .u8 0, .int .u8 0, .int .i64 0, .int .i64 0, .string ByteArray.empty, .string ByteArray.empty, .string ByteArray.empty, .slice none 0 0]), 8, 96) := by kernel_rfl

set_option maxRecDepth 8000 in
set_option maxHeartbeats 1000000 in
theorem ref4_all (m : Nat) : ∀ (t : Tm) (w0 w : World) (v : Value), t.size ≤ m → t.size ≤ 1000000 → Ext w0 w → IsTm w0 t v → Calls Tryz.prog 13 #[v] w (RetRow w0 w t.all) := by
  induction m with
  | zero => intro t w0 w v h; have := t.size_pos; omega
  | succ m ih =>
    intro t w0 w v hm hs h0 ht
    obtain ⟨x, l⟩ := t
    obtain ⟨a, len, cap, rfl, h1, h2, hf, hl⟩ := ht.open_
    simp only [Tm.size] at hm hs
    have HL := Lib.hid hl.length
    have IH := Lib.hid ih
    have HTL := Lib.hid hl
    have HF := Lib.hid hf
    have H0 := Lib.hid h0
    obtain ⟨i0, hi, hz0, hz1, hz2⟩ := info_parts infoTm
    have HI := Lib.hid (And.intro hi (And.intro hz0 (And.intro hz1 hz2)))
    clear ih ht hf hl h0 hi hz0 hz1 hz2
    go_enter Tryz.func13, Tryz.ntmps13
    go_wp2_with fail
    go_loopg [3, 10] len (fun g vo i wr => ∃ (j : Nat) (xs : List Value), g = len - j ∧ j ≤ len ∧ i = .int .i64 j ∧ wr.ownsRow (w.heap.size + 1) 28 8 vo (1 + Tm.sizes (l.take j)) xs ∧ FlatTms w0 (.mk x l :: Tm.alls (l.take j)) xs ∧ Ext w wr ∧ wr.cell? ⟨w.heap.size, 7, none⟩ = some (.slice a len cap))
    case atStart =>
      refine ⟨0, (tcells x a len cap).toList, by omega, by omega, rfl, ?_, ?_, ((Ext.refl _).alloc _).alloc _, by simp [go_sem]⟩
      · have h := owns_new (w.alloc (.cells #[.int .u8 x.k, .int .u8 x.op, .int .i64 x.pos, .int .i64 x.n, .string x.name, .string x.arg, .string x.exn, .slice a len cap] 28)) (w.heap.size + 1) 28 8 1 (tcells x a len cap).toList (by simp) (by unfold maxLen; omega) rfl
        rw [World.size_alloc] at h
        exact h
      · simp only [List.take_zero, Tm.alls, FlatTms]
        exact ⟨a, len, cap, [], by simp [Tm.head], HF.out, h1, h2, HTL.out, rfl⟩
    case round =>
      obtain ⟨j, xs, rfl, hj, rfl, hown, hflat, hx, hc⟩ := hrel
      have HOWN := Lib.hid hown
      have HFLAT := Lib.hid hflat
      clear hown hflat
      by_cases hlt : j < len
      · obtain ⟨y, k, b, o, ak, lenk, capk, g, rfl, hbo, hd, hq, hfy, p1, p2, pl⟩ := HTL.out.at8 (Ext.refl w0) hlt
        obtain ⟨c0, c1, c2, c3, c4, c5, c6⟩ := hd.move fun i v q => (H0.out.trans hx).cell q
        have c7 := (H0.out.trans hx).cell hq
        have hsz := Tm.size_at l j _ g
        have HSS := Lib.hid (Tm.sizes_take_succ l j _ g)
        have HAS := Lib.hid (Tm.alls_take_succ l j _ g)
        have hle := Tm.sizes_take_le l (j + 1)
        have hss := HSS.out
        have hbound : 1 + Tm.sizes (l.take j) + (Tm.mk y k).size ≤ 1000001 := by omega
        have K := Lib.hid (IH.out (.mk y k) w0 wr (tval y ak lenk capk) (by omega) (by omega) (H0.out.trans hx) (IsTmA.mk_ pl p1 p2 hfy))
        have hposk := (Tm.mk y k).size_pos
        have hal := (Tm.mk y k).all_length
        have HAL := Lib.hid hal
        clear g pl hfy hd hq hss hle hal
        go_wp2_with (first | (at_builtin; refine wpList_append_own _ rfl (.tmp 13) (.tmp 19) 26 rfl (w.heap.size + 1) 28 i0 (.agg #[.int .u8 0, .int .u8 0, .int .i64 0, .int .i64 0, .string ByteArray.empty, .string ByteArray.empty, .string ByteArray.empty, .slice none 0 0]) 8 96 Tryz.underlying26 HI.out.1 HI.out.2.1 HI.out.2.2.1 HI.out.2.2.2 rfl (by decide) _ (1 + Tm.sizes (l.take j)) xs rfl (owns_ext x1 HOWN.out) ⟨g2, 0, none⟩ _ cap2 ys rfl ?c0 ?c1 ?c2 ?c3 ?c4 ?c5 ?_) | (go_at_call 13; refine (K.out).mono ?_; rintro e w1 ⟨v2, ys, rfl, ho2, hf2, x1⟩; rw [HAL.out] at ho2; obtain ⟨g2, cap2, rfl, hg2, hl2, hn2, hm2, hcells⟩ := owns_open ho2 hposk; have HF2 := Lib.hid hf2; have HC2 := Lib.hid hcells; clear ho2 hf2 hcells))
        case c0 => exact HF2.out.length.trans (by rw [HAL.out])
        case c1 =>
          intro i u hu
          rw [Addr.add_lit]
          simpa using HC2.out i u hu
        case c2 => exact HF2.out.one
        case c3 => unfold maxLen; omega
        case c4 => omega
        case c5 => have := x1.size; have := hx.size; have := block_lt_of_cell hc; simp at this; omega
        · intro v3 w3 hown3 hgrow _
          have hbase : ∀ k, Value.ownBlock _ = some k → w.heap.size ≤ k := fun k hk => Nat.le_trans (Nat.le_succ _) (HOWN.out.lt k hk).1
          have hx3 := ext_grown hgrow (hx.trans x1) hbase
          have hc3 := hgrow.cell (a := ⟨w.heap.size, 7, none⟩) (x1.cell hc) (fun e => by have := (HOWN.out.lt _ e.symm).1; simp at this; omega)
          have HO3 := Lib.hid hown3
          have HF3 := Lib.hid (HFLAT.out.append HF2.out)
          clear hown3 hgrow hbase
          go_wp2_with fail
          go_roundg (len - (j + 1))
          case rel =>
            refine ⟨j + 1, xs ++ ys, rfl, by omega, by go_num, ?_, ?_, hx3, hc3⟩
            · rw [HSS.out, ← Nat.add_assoc]; exact HO3.out
            · rw [HAS.out, ← List.cons_append]; exact HF3.out
          case measure => omega
      · obtain rfl : j = len := by omega
        have hall : l.take j = l := List.take_of_length_le (by rw [← HL.out]; omega)
        rw [hall] at HOWN HFLAT
        go_wp2_with fail
        refine bodyPost_ret (v := _) (by simp [results, Tryz.results13, go_sem]; rfl) rfl ⟨_, xs, rfl, ?_, HFLAT.out, hx⟩
        have := owns_base (Nat.le_succ _) HOWN.out
        rw [Tm.all_length]
        exact this

end Go.Proofs.YtaioeailgknfjaaGreatDoor

/- The walks of enclaveref05.Equal and Same, of a tree and itself, wherever it stands. -/
namespace Go.Proofs.YtaioeailgknfjaaGreatDoor
open Go Go.RowKit Go.Sort

theorem Tm.same_self (t : Tm) : t.same t = true := by
  induction t using Tm.ind with
  | h x l ih =>
    rw [Tm.same]
    have h1 : x.same x = true := by simp [Hd.same]
    rw [h1, Bool.true_and]
    induction l with
    | nil => simp [Tm.sames]
    | cons t l ihl =>
      simp only [Tm.sames]
      rw [ih t (by simp), ihl (fun t ht => ih t (by simp [ht]))]
      rfl
theorem owns_tms6 {w : World} {base n : Nat} {v : Value} {xs : List Value} {l : List Tm} (h : w.ownsRow base 28 8 v n xs) (hf : FlatTms w l xs) (hn : n = l.length) : ∃ a cap, v = .slice a n cap ∧ n ≤ cap ∧ cap ≤ 9223372036854775807 ∧ IsTms w l a n := by
  subst hn
  rcases Nat.eq_zero_or_pos l.length with h0 | h0
  · obtain rfl := List.eq_nil_of_length_eq_zero h0
    rcases h.2 with ⟨rfl, _⟩ | ⟨g, cap, cur, rfl, hg, hh, h1, h2, h3, h4⟩
    · exact ⟨none, 0, rfl, Nat.le_refl _, by omega, IsTmsA.nil _⟩
    · exact ⟨_, cap, rfl, h1, h2, IsTmsA.nil _⟩
  · obtain ⟨g, cap, rfl, hg, hl, h1, h2, hc⟩ := owns_open h h0
    exact ⟨_, cap, rfl, h1, h2, hf.tms g 0 fun j u hu => by simpa using hc j u hu⟩
theorem blk_top1q {w w1 : World} {cs : Array Value} {T : TypeId} {o : Obj} (x : Ext ((w.alloc o).alloc (.cells cs T)) w1) : Blk w1 (w.heap.size + 1) T cs := by
  have h := Blk.new (w.alloc o) T cs
  rw [World.size_alloc] at h
  exact h.ext x
theorem blk_under1q {w w1 : World} {cs : Array Value} {T : TypeId} {o : Obj} (x : Ext ((w.alloc (.cells cs T)).alloc o) w1) : Blk w1 w.heap.size T cs := ((Blk.new w T cs).alloc o).ext x
set_option maxRecDepth 60000 in
set_option maxHeartbeats 8000000 in
theorem ref5_equal (x : Hd) (ks : List Tm) (hs : (Tm.mk x ks).size ≤ 1000000) (w : World) (a a' : Option Addr) (n c n' c' : Nat) (hT : IsTm w (.mk x ks) (.agg #[.int .u8 x.k, .int .u8 x.op, .int .i64 x.pos, .int .i64 x.n, .string x.name, .string x.arg, .string x.exn, .slice a n c])) (hT' : IsTm w (.mk x ks) (.agg #[.int .u8 x.k, .int .u8 x.op, .int .i64 x.pos, .int .i64 x.n, .string x.name, .string x.arg, .string x.exn, .slice a' n' c'])) :
    Calls Tryz.prog 19 #[.agg #[.int .u8 x.k, .int .u8 x.op, .int .i64 x.pos, .int .i64 x.n, .string x.name, .string x.arg, .string x.exn, .slice a n c], .agg #[.int .u8 x.k, .int .u8 x.op, .int .i64 x.pos, .int .i64 x.n, .string x.name, .string x.arg, .string x.exn, .slice a' n' c']] w fun e w' => e = .returned (.bool true) ∧ Ext w w' := by
  have KS := Lib.hid fun W (h : Ext w W) => ref4_same (Tm.mk x ks).size (.mk x ks) (.mk x ks) W _ _ (Nat.le_refl _) (hT.ext h) (hT'.ext h)
  rw [Tm.same_self] at KS
  have KA := Lib.hid fun W (h : Ext w W) => ref4_all (Tm.mk x ks).size (.mk x ks) W W (.agg #[.int .u8 x.k, .int .u8 x.op, .int .i64 x.pos, .int .i64 x.n, .string x.name, .string x.arg, .string x.exn, .slice a n c]) (Nat.le_refl _) hs (Ext.refl _) (hT.ext h)
  have KB := Lib.hid fun W (h : Ext w W) => ref4_all (Tm.mk x ks).size (.mk x ks) W W (.agg #[.int .u8 x.k, .int .u8 x.op, .int .i64 x.pos, .int .i64 x.n, .string x.name, .string x.arg, .string x.exn, .slice a' n' c']) (Nat.le_refl _) hs (Ext.refl _) (hT'.ext h)
  have hN : (Tm.mk x ks).all.length ≤ 1000000 := by rw [Tm.all_length]; exact hs
  obtain ⟨al, hal⟩ : ∃ al, al = (Tm.mk x ks).all := ⟨_, rfl⟩
  rw [← hal] at KA KB hN
  clear hT hT' hs hal
  go_enter Tryz.func19, Tryz.ntmps19
  go_upto_region 3 with (go_at_call 25; refine (KS.out _ (by (exact eX))).mono ?_; rintro e w1 ⟨rfl, x1⟩)
  have hB1 := blk_under1q x1
  have hB2 := blk_top1q x1
  have y1 : Ext w w1 := by (exact eX)
  have HY1 := Lib.hid y1
  have na0 := fun W (h : Ext w1 W) => h.cell (hB1.cell 0)
  have nb0 := fun W (h : Ext w1 W) => h.cell (hB2.cell 0)
  have na1 := fun W (h : Ext w1 W) => h.cell (hB1.cell 1)
  have nb1 := fun W (h : Ext w1 W) => h.cell (hB2.cell 1)
  have na2 := fun W (h : Ext w1 W) => h.cell (hB1.cell 2)
  have nb2 := fun W (h : Ext w1 W) => h.cell (hB2.cell 2)
  have na3 := fun W (h : Ext w1 W) => h.cell (hB1.cell 3)
  have nb3 := fun W (h : Ext w1 W) => h.cell (hB2.cell 3)
  have na4 := fun W (h : Ext w1 W) => h.cell (hB1.cell 4)
  have nb4 := fun W (h : Ext w1 W) => h.cell (hB2.cell 4)
  have na5 := fun W (h : Ext w1 W) => h.cell (hB1.cell 5)
  have nb5 := fun W (h : Ext w1 W) => h.cell (hB2.cell 5)
  have na6 := fun W (h : Ext w1 W) => h.cell (hB1.cell 6)
  have nb6 := fun W (h : Ext w1 W) => h.cell (hB2.cell 6)
  have na7 := fun W (h : Ext w1 W) => h.cell (hB1.cell 7)
  have nb7 := fun W (h : Ext w1 W) => h.cell (hB2.cell 7)
  simp at na0 nb0 na1 nb1 na2 nb2 na3 nb3 na4 nb4 na5 nb5 na6 nb6 na7 nb7
  have tok1 : True := trivial
  clear x1 y1 hB1 hB2
  refine wp_region_held_drew (S := fun w' => Ext w1 w') (by kernel_rfl) (by (try dsimp only); (exact eX)) (fun hHeld => ?_)
  refine tK 0 (v := ?_) ?_ ?_;rotate_left;(focus (intro w hSw;(try dsimp only at hSw);go_simp;(try with_reducible rfl)));try simp only [Act.put,pA,pB,pC]
  refine tK 2 (v := ?_) ?_ ?_;rotate_left;(focus (intro w hSw;(try dsimp only at hSw);go_simp;(try with_reducible rfl)));try simp only [Act.put,pA,pB,pC]
  refine held_do 1 rfl (by kernel_rfl) (by rfl) (fun K hK => ?_); go_simp; (first | (have _t := tok1; go_at_call 13; refine (KA.out _ (HY1.out.trans (by (exact eX)))).mono ?_; rintro e w3 ⟨v3, xs, rfl, ho3, hfl, x3⟩; obtain ⟨av, cv, hve, hv1, hv2, hTms⟩ := owns_tms6 ho3 (hfl.ext x3) rfl; subst hve; have HTA := Lib.hid hTms; clear tok1 ho3 hfl hTms) | (go_at_call 13; refine (KB.out _ (HY1.out.trans (by (exact eX)))).mono ?_; rintro e w4 ⟨v4, ys, rfl, ho4, hfl4, x4⟩; obtain ⟨bv, dv, hve4, hv3, hv4, hTms4⟩ := owns_tms6 ho4 (hfl4.ext x4) rfl; subst hve4; have HTB := Lib.hid hTms4; clear ho4 hfl4 hTms4)); (try (focus (go_wp2_with fail))); refine hK.out _ _ (by (try dsimp only); (exact eX)) (fun hHeld => ?_); clear hK K; try simp only [Act.put,pA,pB,pC]
  refine held_do 3 rfl (by kernel_rfl) (by rfl) (fun K hK => ?_); go_simp; (first | (have _t := tok1; go_at_call 13; refine (KA.out _ (HY1.out.trans (by (exact eX)))).mono ?_; rintro e w3 ⟨v3, xs, rfl, ho3, hfl, x3⟩; obtain ⟨av, cv, hve, hv1, hv2, hTms⟩ := owns_tms6 ho3 (hfl.ext x3) rfl; subst hve; have HTA := Lib.hid hTms; clear tok1 ho3 hfl hTms) | (go_at_call 13; refine (KB.out _ (HY1.out.trans (by (exact eX)))).mono ?_; rintro e w4 ⟨v4, ys, rfl, ho4, hfl4, x4⟩; obtain ⟨bv, dv, hve4, hv3, hv4, hTms4⟩ := owns_tms6 ho4 (hfl4.ext x4) rfl; subst hve4; have HTB := Lib.hid hTms4; clear ho4 hfl4 hTms4)); (try (focus (go_wp2_with fail))); refine hK.out _ _ (by (try dsimp only); (exact eX)) (fun hHeld => ?_); clear hK K; try simp only [Act.put,pA,pB,pC]
  refine tK 4 (v := ?_) ?_ ?_;rotate_left;(focus (intro w hSw;(try dsimp only at hSw);go_simp;(try with_reducible rfl)));try simp only [Act.put,pA,pB,pC]
  refine tK 5 (v := ?_) ?_ ?_;rotate_left;(focus (intro w hSw;(try dsimp only at hSw);go_simp;(try with_reducible rfl)));try simp only [Act.put,pA,pB,pC]
  refine wpAnyH_done (by kernel_rfl) ?_ _
  have y34 : Ext w3 w4 := by first | exact x4 | exact Ext.trans ((Ext.refl _).drew) x4
  have HTA4 := Lib.hid (HTA.out.ext y34)
  have HY4 := Lib.hid (HY1.out.trans hHeld)
  clear na0 na1 na2 na3 na4 na5 na6 na7 nb0 nb1 nb2 nb3 nb4 nb5 nb6 nb7 x3 x4 hHeld y34 HTA KA KB KS
  repeat (first | go_values | go_skip | go_guarded | go_step | go_upon)
  go_loopg [18] (al.length) (fun g ix wr => ∃ j : Nat, g = al.length - j ∧ ix = .int .i64 j ∧ j ≤ al.length ∧ Ext w4 wr)
  case atStart => exact ⟨0, rfl, rfl, Nat.zero_le _, Ext.refl _⟩
  case round =>
    obtain ⟨j, rfl, rfl, hj, hx⟩ := hrel
    by_cases hlt : j < al.length
    · obtain ⟨y, k, b, bo, ak, lenk, capk, g, rfl, -, hd, -, -, -, -, -⟩ := HTA4.out.at8 hx hlt
      obtain ⟨y', k', b', bo', ak', lenk', capk', g', rfl, -, hd', -, -, -, -, -⟩ := HTB.out.at8 hx hlt
      rw [g] at g'
      cases g'
      have c2 := hd.c2
      have c2' := hd'.c2
      have m1 := fun W (h : Ext wr W) => h.cell c2
      have m2 := fun W (h : Ext wr W) => h.cell c2'
      have hz : (j : Int) < (al.length : Int) := by omega
      have HX := Lib.hid hx
      clear hd hd' g c2 c2' hx
      go_upto_region 7 with fail
      refine wp_region_held_drew (S := fun w' => Ext wr w') (by kernel_rfl) (by (try dsimp only); (exact eX)) (fun hHeld => ?_)
      refine tK 0 (v := ?_) ?_ ?_;rotate_left;(focus (intro w hSw;(try dsimp only at hSw);go_simp;(try with_reducible rfl)));try simp only [Act.put,pA,pB,pC]
      refine tK 1 (v := ?_) ?_ ?_;rotate_left;(focus (intro w hSw;(try dsimp only at hSw);go_simp;(try with_reducible rfl)));try simp only [Act.put,pA,pB,pC]
      refine tK 2 (v := ?_) ?_ ?_;rotate_left;(focus (intro w hSw;(try dsimp only at hSw);go_simp;(try with_reducible rfl)));try simp only [Act.put,pA,pB,pC]
      refine tK 3 (v := ?_) ?_ ?_;rotate_left;(focus (intro w hSw;(try dsimp only at hSw);go_simp;(try with_reducible rfl)));try simp only [Act.put,pA,pB,pC]
      refine tK 4 (v := ?_) ?_ ?_;rotate_left;(focus (intro w hSw;(try dsimp only at hSw);go_simp;(try with_reducible rfl)));try simp only [Act.put,pA,pB,pC]
      refine tK 5 (v := ?_) ?_ ?_;rotate_left;(focus (intro w hSw;(try dsimp only at hSw);go_simp;(try with_reducible rfl)));try simp only [Act.put,pA,pB,pC]
      refine tK 6 (v := ?_) ?_ ?_;rotate_left;(focus (intro w hSw;(try dsimp only at hSw);go_simp;(try with_reducible rfl)));try simp only [Act.put,pA,pB,pC]
      refine tK 7 (v := ?_) ?_ ?_;rotate_left;(focus (intro w hSw;(try dsimp only at hSw);go_simp;(try with_reducible rfl)));try simp only [Act.put,pA,pB,pC]
      refine tK 8 (v := ?_) ?_ ?_;rotate_left;(focus (intro w hSw;(try dsimp only at hSw);go_simp;(try with_reducible rfl)));try simp only [Act.put,pA,pB,pC]
      refine tK 9 (v := ?_) ?_ ?_;rotate_left;(focus (intro w hSw;(try dsimp only at hSw);go_simp;(try with_reducible rfl)));try simp only [Act.put,pA,pB,pC]
      refine tK 10 (v := ?_) ?_ ?_;rotate_left;(focus (intro w hSw;(try dsimp only at hSw);go_simp;(try with_reducible rfl)));try simp only [Act.put,pA,pB,pC]
      refine tK 11 (v := ?_) ?_ ?_;rotate_left;(focus (intro w hSw;(try dsimp only at hSw);go_simp;(try with_reducible rfl)));try simp only [Act.put,pA,pB,pC]
      refine tK 12 (v := ?_) ?_ ?_;rotate_left;(focus (intro w hSw;(try dsimp only at hSw);go_simp;(try with_reducible rfl)));try simp only [Act.put,pA,pB,pC]
      refine wpAnyH_done (by kernel_rfl) ?_ _
      have HH := Lib.hid (HX.out.trans hHeld)
      clear m1 m2 hHeld
      go_wp2_with fail
      go_roundg (al.length - (j + 1))
      case rel => exact ⟨j + 1, rfl, by go_num, by omega, HH.out⟩
      case measure => omega
    · obtain rfl : j = al.length := by omega
      have HX := Lib.hid (HY4.out.trans hx)
      clear hx
      repeat (first | go_values | go_skip | go_guarded | go_step | go_upon)
      go_ret
      exact ⟨rfl, HX.out⟩
set_option maxRecDepth 60000 in
set_option maxHeartbeats 8000000 in
theorem ref5_same (es : List Tk) (x : Hd) (ks : List Tm) (hs : (Tm.mk x ks).size ≤ 1000000) (w : World) (a a' ea ea' : Option Addr) (n c n' c' en ec en' ec' : Nat) (h1 : en ≤ ec) (h2 : ec ≤ 9223372036854775807) (h1' : en' ≤ ec') (h2' : ec' ≤ 9223372036854775807) (hk : IsToks w es ea en) (hk' : IsToks w es ea' en') (hT : IsTm w (.mk x ks) (.agg #[.int .u8 x.k, .int .u8 x.op, .int .i64 x.pos, .int .i64 x.n, .string x.name, .string x.arg, .string x.exn, .slice a n c])) (hT' : IsTm w (.mk x ks) (.agg #[.int .u8 x.k, .int .u8 x.op, .int .i64 x.pos, .int .i64 x.n, .string x.name, .string x.arg, .string x.exn, .slice a' n' c'])) :
    Calls Tryz.prog 18 #[.agg #[.slice ea en ec, .int .u8 x.k, .int .u8 x.op, .int .i64 x.pos, .int .i64 x.n, .string x.name, .string x.arg, .string x.exn, .slice a n c], .agg #[.slice ea' en' ec', .int .u8 x.k, .int .u8 x.op, .int .i64 x.pos, .int .i64 x.n, .string x.name, .string x.arg, .string x.exn, .slice a' n' c']] w fun e w' => e = .returned (.bool true) ∧ Ext w w' := by
  have K3 := Lib.hid fun W (h : Ext w W) => ref03_same es W ea ea' en en' ec ec' h1 h2 h1' h2' (hk.ext h) (hk'.ext h)
  have KE := Lib.hid fun W (h : Ext w W) => ref5_equal x ks hs W a a' n c n' c' (hT.ext h) (hT'.ext h)
  clear hk hk' hT hT'
  go_enter Tryz.func18, Tryz.ntmps18
  go_wp2_with (go_at_call 45; refine (K3.out _ (by (exact eX))).mono ?_; rintro e w1 ⟨rfl, x1⟩; refine Hid.out ?_)
  refine Lib.hid ?_
  have hB1 := blk_under1q x1
  have hB2 := blk_top1q x1
  have y1 : Ext w w1 := by (exact eX)
  have na0 := hB1.cell 0
  have nb0 := hB2.cell 0
  have na1 := hB1.cell 1
  have nb1 := hB2.cell 1
  have na2 := hB1.cell 2
  have nb2 := hB2.cell 2
  have na3 := hB1.cell 3
  have nb3 := hB2.cell 3
  have na4 := hB1.cell 4
  have nb4 := hB2.cell 4
  have na5 := hB1.cell 5
  have nb5 := hB2.cell 5
  have na6 := hB1.cell 6
  have nb6 := hB2.cell 6
  have na7 := hB1.cell 7
  have nb7 := hB2.cell 7
  have na8 := hB1.cell 8
  have nb8 := hB2.cell 8
  simp at na0 nb0 na1 nb1 na2 nb2 na3 nb3 na4 nb4 na5 nb5 na6 nb6 na7 nb7 na8 nb8
  clear hB1 hB2 x1
  go_wp2_with (go_at_call 19; refine (KE.out _ y1).mono ?_; rintro e w2 ⟨rfl, x2⟩)
  go_ret
  exact ⟨rfl, y1.trans x2⟩
end Go.Proofs.YtaioeailgknfjaaGreatDoor

/- The walk of the document's example of layer 5. -/
namespace Go.Proofs.YtaioeailgknfjaaGreatDoor
open Go Go.RowKit Go.Sort

def Yes5 (w : World) (e : Ending) (w' : World) : Prop := e = .returned (.bool true) ∧ Ext w w'
def t5a : Tm := .mk (hd0 10 0) [.mk ⟨2, 0, 0, 0, ⟨#[102]⟩, ByteArray.empty, ByteArray.empty⟩ [], .mk ⟨2, 0, 2, 0, ⟨#[120]⟩, ByteArray.empty, ByteArray.empty⟩ []]
def t5b : Tm := .mk ⟨1, 0, 6, 1, ByteArray.empty, ByteArray.empty, ByteArray.empty⟩ []
theorem termR5 : termR [102, 32, 120, 32, 43, 32, 49] = .ok (.mk ⟨9, 1, 0, 0, ByteArray.empty, ByteArray.empty, ByteArray.empty⟩ [t5a, t5b]) := by kernel_rfl
theorem bytes5 (w : World) (t : TypeId) : IsBytes (w.alloc (.cells #[.int .u8 102, .int .u8 32, .int .u8 120, .int .u8 32, .int .u8 43, .int .u8 32, .int .u8 49] t (7, 8))) [102, 32, 120, 32, 43, 32, 49] (some ⟨w.heap.size, 0, none⟩) 7 := ⟨rfl, fun i v hi => ⟨w.heap.size, 0, rfl, by
  rw [Nat.zero_add]
  rw [World.cell?_alloc_mark]
  have e : vby (il (bs [102, 32, 120, 32, 43, 32, 49])) = [.int .u8 102, .int .u8 32, .int .u8 120, .int .u8 32, .int .u8 43, .int .u8 32, .int .u8 49] := rfl
  rw [e] at hi
  simpa using hi⟩⟩
theorem term5 (W : World) (c : Nat) (h1 : 7 ≤ c) (h2 : c ≤ 9223372036854775807) (hk : Knob W) (t : TypeId) : Calls Tryz.prog 11 #[.slice (some ⟨W.heap.size, 0, none⟩) 7 c] (W.alloc (.cells #[.int .u8 102, .int .u8 32, .int .u8 120, .int .u8 32, .int .u8 43, .int .u8 32, .int .u8 49] t (7, 8))) fun e w' =>
    ∃ b o c, e = .returned (.tuple #[.agg #[.int .u8 9, .int .u8 1, .int .i64 0, .int .i64 0, .string ByteArray.empty, .string ByteArray.empty, .string ByteArray.empty, .slice (some ⟨b, o, none⟩) 2 c], .int .i64 0, .int .i64 0]) ∧ 2 ≤ c ∧ c ≤ 9223372036854775807 ∧ w'.cell? ⟨b, o, none⟩ = some (.int .u8 10) ∧ w'.cell? ⟨b, o + 2, none⟩ = some (.int .i64 0) ∧ w'.cell? ⟨b, o + 8 + 2, none⟩ = some (.int .i64 6) ∧ Ext W w' := by
  refine (parse_term _ _ _ 7 c h1 h2 (bytes5 W _) (hk.ext ((Ext.refl _).alloc _))).mono ?_
  rintro e w' ⟨hx, hh⟩
  rw [termR5] at hh
  obtain ⟨v, rfl, a, n, c', rfl, hf, g1, g2, hT⟩ := hh
  have hl := hT.length
  obtain rfl : n = 2 := hl
  obtain ⟨b, o, rfl, -, hA⟩ := hT.place (i := 0) (t := t5a) rfl
  obtain ⟨b', o', e', -, hB⟩ := hT.place (i := 1) (t := t5b) rfl
  cases e'
  unfold t5a at hA
  unfold t5b at hB
  obtain ⟨_, _, _, dA, -⟩ := hA.val
  obtain ⟨_, _, _, dB, -⟩ := hB.val
  refine ⟨b, o, c', rfl, g1, g2, ?_, ?_, ?_, ((Ext.refl _).alloc _).trans hx⟩
  · have := dA.c0; simpa [hd0] using this
  · have := dA.c2; simpa [hd0] using this
  · have := dB.c2; simpa using this
set_option maxRecDepth 8000 in
set_option maxHeartbeats 2000000 in
theorem law05_awake (w : World) (hk : Knob w) : Calls Tryz.prog 10 #[] w (Yes5 w) := by
  have KT := Lib.hid (term5 w 7 (by omega) (by omega) hk 5)
  clear hk
  have kc := fun (w : World) (C : Array Value) (n c : Nat) => Lib.run_convert_bytes_const (P := Tryz.prog) w 22 5 C n c Tryz.underlying22 Tryz.underlying5
  go_enter Tryz.func10, Tryz.ntmps10
  go_wp2_with (go_at_call 11; refine (KT.out).mono ?_; rintro e w1 ⟨b, o, c, rfl, h1, h2, q0, q1, q2, x1⟩; have hb := World.block_lt_of_cell? _ _ q0)
  go_ret
  exact ⟨rfl, by (exact eX)⟩
end Go.Proofs.YtaioeailgknfjaaGreatDoor

/- What parse.Term answers, by the laws on texts. What parse.Term answers to a long row of operands. -/
namespace Go.Proofs.YtaioeailgknfjaaGreatDoor
open Go Go.RowKit Go.Sort

theorem ended_one : ∀ {l : List Tk}, Ended l → kindT l = 6 → ∃ e, l = [e] ∧ e.k = 6
  | [e], _, h => ⟨e, rfl, h⟩
  | e :: u :: l, h, hk => absurd hk h.1
theorem lexR_inv {B : List UInt8} (h : (lexR B).2.2 = 0) : ¬ 65536 < B.length ∧ ∃ o, lexL 0 B = .ok o ∧ (lexR B).1 = o.map Tok.tk := by
  unfold lexR at h ⊢
  split at h
  · simp at h
  rename_i hn
  rw [if_neg hn]
  refine ⟨hn, ?_⟩
  cases e : lexL 0 B with
  | error p => rw [e] at h; simp at h
  | ok o => exact ⟨o, rfl, rfl⟩
theorem termR_inv {B : List UInt8} {t : Tm} (h : termR B = .ok t) : Parses B t := by
  unfold termR runR at h
  split at h
  · cases h
  rename_i hf
  have hf : (lexR B).2.2 = 0 := Classical.byContradiction hf
  split at h
  · cases h
  obtain ⟨-, o, hl, ho⟩ := lexR_inv hf
  have hE := lexR_ended hf
  obtain ⟨f, hp, hT⟩ := parseL_some (nt := .expr) hE
  cases hr : parseL .expr (lexR B).1 with
  | error l => rw [hr] at h; cases h
  | ok q =>
    obtain ⟨a, l⟩ := q
    rw [hr] at h hp hT
    simp only at h
    split at h
    · rename_i hk
      cases h
      obtain ⟨e, rfl, he⟩ := ended_one (hT.1) hk
      rw [ho] at hp
      exact ⟨o, e, f, hl, hp, he⟩
    · cases h
end Go.Proofs.YtaioeailgknfjaaGreatDoor
namespace Go.Proofs.YtaioeailgknfjaaGreatDoor
open Go Go.RowKit Go.Sort

end Go.Proofs.YtaioeailgknfjaaGreatDoor

/- What comes of a text may be, and begins at its tokens; no program in sight. -/
namespace Go.Proofs.YtaioeailgknfjaaGreatDoor
open Go

theorem tokAt_ok {c : UInt8} {r : List UInt8} {n : Nat} {k : Int} (h : tokAt (c :: r) = some (n, k)) : (k = 1 → numB (bs ((c :: r).take n)) = true) ∧ (k = 2 → isName (bs ((c :: r).take n)) = true) ∧ (k = 3 → isExn (bs ((c :: r).take n)) = true) := by
  unfold tokAt at h
  simp only at h
  split at h
  · split at h
    · rename_i hn
      cases h
      exact ⟨fun _ => hn, fun h => absurd h (by omega), fun h => absurd h (by omega)⟩
    · cases h
  split at h
  · split at h
    · cases h
      exact ⟨fun h => absurd h (by omega), fun h => absurd h (by omega), fun h => absurd h (by omega)⟩
    split at h
    · rename_i hn
      cases h
      exact ⟨fun h => absurd h (by omega), fun _ => hn, fun h => absurd h (by omega)⟩
    split at h
    · rename_i hn
      cases h
      exact ⟨fun h => absurd h (by omega), fun h => absurd h (by omega), fun _ => hn⟩
    · cases h
  split at h
  · split at h
    · cases h
    · cases h
      exact ⟨fun h => absurd h (by omega), fun h => absurd h (by omega), fun h => absurd h (by omega)⟩
  · cases h
theorem lexL_ok (p : Nat) (l : List UInt8) : ∀ o, lexL p l = .ok o → ∀ t, t ∈ o → TkOk t.tk := by
  refine lex_ind (P := fun p l => ∀ o, lexL p l = .ok o → ∀ t, t ∈ o → TkOk t.tk) ?_ ?_ ?_ ?_ l.length p l (Nat.le_refl _)
  · intro p o h t ht
    rw [lexL_nil] at h
    cases h
    simp at ht
    subst ht
    exact ⟨Int.natCast_nonneg _, fun h => absurd h (by show ¬ (6 : Int) = 1; omega), fun h => absurd h (by show ¬ (6 : Int) = 2; omega), fun h => absurd h (by show ¬ (6 : Int) = 3; omega)⟩
  · intro p c r hc ih o h
    rw [lexL_blank hc] at h
    exact ih o h
  · intro p c r hc ht o h
    rw [lexL_none hc _ ht] at h
    cases h
  · intro p c r n k hc ht ih o h t htm
    have hok := tokAt_ok ht
    rw [lexL_tok hc _ ht] at h
    cases e1 : lexL (p + n) ((c :: r).drop n) with
    | error x => rw [e1] at h; cases h
    | ok o1 =>
      rw [e1] at h
      have h : Except.ok (⟨k, bs ((c :: r).take n), p⟩ :: o1) = Except.ok (ε := Nat) o := h
      cases h
      rcases List.mem_cons.1 htm with rfl | htm
      · exact ⟨Int.natCast_nonneg _, hok.1, hok.2.1, hok.2.2⟩
      · exact ih o1 e1 t htm
/-- A term that comes of a text. -/
theorem Parses.mays {B : List UInt8} {t : Tm} (h : Parses B t) (hB : B.length ≤ 2000) : t.may = true ∧ t.size ≤ 4000 ∧ ∃ o, lexL 0 B = .ok o ∧ ∀ u, u ∈ t.all → ∃ k, k ∈ o.map Tok.tk ∧ k.k ≠ 6 ∧ k.pos = u.head.pos := by
  obtain ⟨o, e, f, hl, hp, he⟩ := h
  have hok := lexL_ok 0 B o hl
  have hc := lexL_count 0 B o hl
  have hS := parse_sound (o.map Tok.tk) (fun x hx => by
    obtain ⟨t, ht, rfl⟩ := List.mem_map.1 hx
    exact hok t ht) f .expr _ _ _ (fun x hx => hx) trivial hp
  have hfew := hS.few
  simp only [NT.size0, List.length_map, List.length_cons, List.length_nil] at hfew
  have hsz : t.size ≤ 4000 := by omega
  refine ⟨?_, hsz, o, hl, fun u hu => (hS.good u hu).2⟩
  unfold Tm.may
  rw [Bool.and_eq_true]
  exact ⟨by simpa using hsz, List.all_eq_true.2 fun u hu => (hS.good u hu).1⟩
end Go.Proofs.YtaioeailgknfjaaGreatDoor

/- The walk of law05.ParseIs. -/
namespace Go.Proofs.YtaioeailgknfjaaGreatDoor
open Go Go.RowKit Go.Sort

theorem exnsG_sub (l : List Tk) : ∀ acc es l', exnsG acc l = .ok (es, l') → l' <:+ l := by
  intro acc es l' h
  induction acc, l using exnsG.induct with
  | case1 acc t u v l h1 h2 h3 ih =>
    rw [exnsG, if_pos h1, if_pos h2, if_pos h3] at h
    exact (ih h).trans ((List.suffix_cons v l).trans ((List.suffix_cons u _).trans (List.suffix_cons t _)))
  | case2 acc t u v l h1 h2 h3 => rw [exnsG, if_pos h1, if_pos h2, if_neg h3] at h; cases h
  | case3 acc t u v l h1 h2 => rw [exnsG, if_pos h1, if_neg h2] at h; cases h
  | case4 acc t u v l h1 => rw [exnsG, if_neg h1] at h; cases h; exact List.suffix_refl _
  | case5 acc t u h1 => rw [exnsG, if_pos h1] at h; cases h
  | case6 acc t u h1 => rw [exnsG, if_neg h1] at h; cases h; exact List.suffix_refl _
  | case7 acc l h1 h2 => rw [exnsG] at h; cases h; exact List.suffix_refl _; exact h1; exact h2
theorem expr_size {B : List UInt8} (hB : B.length ≤ 2000) {l : List Tk} (hl : l <:+ (lexR B).1) (h0 : (lexR B).2.2 = 0) {t : Tm} {l' : List Tk} (h : parseL .expr l = .ok (t, l')) : t.size ≤ 1000000 := by
  have hlen : B.length ≤ 65536 := by omega
  unfold lexR at h0 hl
  rw [if_neg (by omega)] at h0 hl
  cases e : lexL 0 B with
  | error p => rw [e] at h0; simp at h0
  | ok o =>
    rw [e] at hl
    have hl : l <:+ o.map Tok.tk := hl
    have hok := lexL_ok 0 B o e
    have hc := lexL_count 0 B o e
    obtain ⟨f, hf⟩ : ∃ f, parseF f .expr l = some (.ok (t, l')) := by
      unfold parseL at h
      cases hp : parseF (8 * l.length + NT.expr.rk) .expr l with
      | none => rw [hp] at h; cases h
      | some y => rw [hp] at h; exact ⟨_, hp.trans (congrArg some h)⟩
    have hS := parse_sound (o.map Tok.tk) (fun x hx => by
      obtain ⟨t, ht, rfl⟩ := List.mem_map.1 hx
      exact hok t ht) f .expr _ _ _ (fun x hx => hl.mem hx) trivial hf
    have hfew := hS.few
    have := hl.length_le
    simp only [NT.size0, List.length_map] at hfew this
    omega
/-- What a run of the parser hands back: a program, or an empty one; a place; an error's number. -/
def ProgOut (w : World) (es : List Tk) (x : Hd) (ks : List Tm) (p f : Int) (e : Ending) (w' : World) : Prop :=
  ∃ (ea : Option Addr) (en ec : Nat) (a : Option Addr) (n c : Nat), e = .returned (.tuple #[.agg #[.slice ea en ec, .int .u8 x.k, .int .u8 x.op, .int .i64 x.pos, .int .i64 x.n, .string x.name, .string x.arg, .string x.exn, .slice a n c], .int .i64 p, .int .i64 f]) ∧ Ext w w' ∧ en ≤ ec ∧ ec ≤ 9223372036854775807 ∧ IsToks w' es ea en ∧ IsTm w' (.mk x ks) (.agg #[.int .u8 x.k, .int .u8 x.op, .int .i64 x.pos, .int .i64 x.n, .string x.name, .string x.arg, .string x.exn, .slice a n c])
def TermOut (w : World) (x : Hd) (ks : List Tm) (p f : Int) (e : Ending) (w' : World) : Prop :=
  ∃ (a : Option Addr) (n c : Nat), e = .returned (.tuple #[.agg #[.int .u8 x.k, .int .u8 x.op, .int .i64 x.pos, .int .i64 x.n, .string x.name, .string x.arg, .string x.exn, .slice a n c], .int .i64 p, .int .i64 f]) ∧ Ext w w' ∧ IsTm w' (.mk x ks) (.agg #[.int .u8 x.k, .int .u8 x.op, .int .i64 x.pos, .int .i64 x.n, .string x.name, .string x.arg, .string x.exn, .slice a n c])
def zeroX : Hd := ⟨0, 0, 0, 0, ⟨#[]⟩, ⟨#[]⟩, ⟨#[]⟩⟩
theorem zeroX_tm (w : World) : IsTm w (.mk zeroX []) (.agg #[.int .u8 0, .int .u8 0, .int .i64 0, .int .i64 0, .string ⟨#[]⟩, .string ⟨#[]⟩, .string ⟨#[]⟩, .slice none 0 0]) :=
  IsTmA.mk_ (h := zeroX) (l := []) (a := none) (len := 0) (cap := 0) (IsTmsA.nil _) (by omega) (by omega) ⟨by decide, by decide, by decide, by decide, by decide, by decide, by decide, by decide, by decide, by decide, by decide⟩
theorem term_out (B : List UInt8) (hB : B.length ≤ 2000) : ∃ x ks p f, (Tm.mk x ks).size ≤ 1000000 ∧ ∀ w e w', RetTerm w (termR B) e w' → TermOut w x ks p f e w' := by
  cases hT : termR B with
  | error q =>
    obtain ⟨p, f⟩ := q
    refine ⟨zeroX, [], p, f, by simp [Tm.size, Tm.sizes], fun w e w' ⟨hx, he⟩ => ?_⟩
    exact ⟨none, 0, 0, he, hx, zeroX_tm w'⟩
  | ok t =>
    obtain ⟨-, hsz, -⟩ := (termR_inv hT).mays hB
    obtain ⟨x, ks⟩ := t
    refine ⟨x, ks, 0, 0, by omega, fun w e w' ⟨hx, v, e1, hv⟩ => ?_⟩
    obtain ⟨a', n', c', rfl, q1, q2, q3, q4⟩ := hv.open_
    exact ⟨a', n', c', e1, hx, hv⟩
theorem prog_out (B : List UInt8) (hB : B.length ≤ 2000) : ∃ es x ks p f, (Tm.mk x ks).size ≤ 1000000 ∧ ∀ w e w', RetProg w (progR B) e w' → ProgOut w es x ks p f e w' := by
  cases hT : progR B with
  | error q =>
    obtain ⟨p, f⟩ := q
    refine ⟨[], zeroX, [], p, f, by simp [Tm.size, Tm.sizes], fun w e w' ⟨hx, he⟩ => ?_⟩
    exact ⟨none, 0, 0, none, 0, 0, he, hx, by omega, by omega, ⟨⟨rfl, by simp, by simp⟩, by simp⟩, zeroX_tm w'⟩
  | ok q =>
    obtain ⟨es, x, ks⟩ := q
    have hsz : (Tm.mk x ks).size ≤ 1000000 := by
      unfold progR runR at hT
      split at hT
      · cases hT
      · rename_i h0
        split at hT
        · cases hT
        · unfold progL progG at hT
          cases he : exnsG [] (lexR B).1 with
          | error l => rw [he] at hT; cases hT
          | ok q =>
            obtain ⟨es', l'⟩ := q
            rw [he] at hT
            simp only at hT
            unfold bodyG at hT
            have hs := exnsG_sub _ _ _ _ he
            cases hp : parseL .expr l' with
            | error l => rw [hp] at hT; cases hT
            | ok q =>
              obtain ⟨t, l''⟩ := q
              rw [hp] at hT
              simp only at hT
              split at hT
              · cases hT
                exact expr_size hB hs (by simpa using h0) hp
              · cases hT
    refine ⟨es, x, ks, 0, 0, hsz, fun w e w' h => ?_⟩
    obtain ⟨hx, v, e1, ea, en, ec, a, n, c, rfl, k1, k2, k3, k4, k5, k6, k7⟩ := h
    exact ⟨ea, en, ec, a, n, c, e1, hx, k1, k2, k3, IsTmA.mk_ k7 k5 k6 k4⟩
set_option maxRecDepth 60000 in
set_option maxHeartbeats 8000000 in
theorem law_parseIs (B : List UInt8) (w : World) (a : Option Addr) (len cap : Nat) (h1 : len ≤ cap) (h2 : cap ≤ 9223372036854775807) (hr : IsBytes w B a len) (hk : Knob w) : Calls Tryz.prog 4 #[.slice a len cap] w (Yes5 w) := by
  have hln := hr.length
  have KA := Lib.hid fun (W : World) (h : Ext w W) => law05_awake W (hk.ext h)
  by_cases hlong : 2000 < len
  · have hz : (2000 : Int) < (len : Int) := by omega
    clear hln hlong hr hk
    go_enter Tryz.func4, Tryz.ntmps4
    go_wp2_with (go_at_call 10; refine (KA.out _ (by (exact eX))).mono ?_; rintro e w7 ⟨rfl, x7⟩)
    go_ret
    exact ⟨rfl, by (exact eX)⟩
  have hz : ¬ (2000 : Int) < (len : Int) := by omega
  obtain ⟨es, x, ks, p, f, hs1, HP⟩ := prog_out B (by omega)
  obtain ⟨y, kt, q, g, hs2, HT⟩ := term_out B (by omega)
  have K1 := Lib.hid fun W (h : Ext w W) => (parse_prog B W a len cap h1 h2 (hr.ext h) (hk.ext h)).mono (HP W)
  have K2 := Lib.hid fun W (h : Ext w W) => (ref5_prog B W a len cap h1 h2 (hr.ext h)).mono (HP W)
  have K3 := Lib.hid fun W (h : Ext w W) => (parse_term B W a len cap h1 h2 (hr.ext h) (hk.ext h)).mono (HT W)
  have K4 := Lib.hid fun W (h : Ext w W) => (ref5_term_whole B W a len cap h1 h2 (hr.ext h)).mono (HT W)
  have HS1 := Lib.hid hs1
  have HS2 := Lib.hid hs2
  clear HP HT hlong hln hr hk hs1 hs2
  go_enter Tryz.func4, Tryz.ntmps4
  go_upto_region 4 with (go_at_call 15; refine (K1.out _ (Ext.refl _)).mono ?_; rintro e w1 ⟨ea1, en1, ec1, a1, n1, c1, rfl, x1, g1, g2, k1, t1⟩)
  have B1 := Blk.new w1 41 #[.slice ea1 en1 ec1, .int .u8 x.k, .int .u8 x.op, .int .i64 x.pos, .int .i64 x.n, .string x.name, .string x.arg, .string x.exn, .slice a1 n1 c1]
  have Y1 := x1.alloc (.cells #[.slice ea1 en1 ec1, .int .u8 x.k, .int .u8 x.op, .int .i64 x.pos, .int .i64 x.n, .string x.name, .string x.arg, .string x.exn, .slice a1 n1 c1] 41)
  have k1 := k1.ext ((Ext.refl w1).alloc (.cells #[.slice ea1 en1 ec1, .int .u8 x.k, .int .u8 x.op, .int .i64 x.pos, .int .i64 x.n, .string x.name, .string x.arg, .string x.exn, .slice a1 n1 c1] 41))
  have t1 := t1.ext ((Ext.refl w1).alloc (.cells #[.slice ea1 en1 ec1, .int .u8 x.k, .int .u8 x.op, .int .i64 x.pos, .int .i64 x.n, .string x.name, .string x.arg, .string x.exn, .slice a1 n1 c1] 41))
  have HB1 := Lib.hid B1
  have HY1 := Lib.hid Y1
  have HK1 := Lib.hid k1
  have HT1 := Lib.hid t1
  clear B1 Y1 k1 t1 x1 K1
  generalize w1.alloc (.cells #[.slice ea1 en1 ec1, .int .u8 x.k, .int .u8 x.op, .int .i64 x.pos, .int .i64 x.n, .string x.name, .string x.arg, .string x.exn, .slice a1 n1 c1] 41) = W1 at *
  generalize w1.heap.size = b1 at *
  go_upto_region 5 with (go_at_call 16; refine (K2.out _ HY1.out).mono ?_; rintro e w2 ⟨ea2, en2, ec2, a2, n2, c2, rfl, x2, g3, g4, k2, t2⟩)
  have B2 := Blk.new w2 41 #[.slice ea2 en2 ec2, .int .u8 x.k, .int .u8 x.op, .int .i64 x.pos, .int .i64 x.n, .string x.name, .string x.arg, .string x.exn, .slice a2 n2 c2]
  have Y2 := x2.alloc (.cells #[.slice ea2 en2 ec2, .int .u8 x.k, .int .u8 x.op, .int .i64 x.pos, .int .i64 x.n, .string x.name, .string x.arg, .string x.exn, .slice a2 n2 c2] 41)
  have k2 := k2.ext ((Ext.refl w2).alloc (.cells #[.slice ea2 en2 ec2, .int .u8 x.k, .int .u8 x.op, .int .i64 x.pos, .int .i64 x.n, .string x.name, .string x.arg, .string x.exn, .slice a2 n2 c2] 41))
  have t2 := t2.ext ((Ext.refl w2).alloc (.cells #[.slice ea2 en2 ec2, .int .u8 x.k, .int .u8 x.op, .int .i64 x.pos, .int .i64 x.n, .string x.name, .string x.arg, .string x.exn, .slice a2 n2 c2] 41))
  have HB2 := Lib.hid B2
  have HY2 := Lib.hid Y2
  have HK2 := Lib.hid k2
  have HT2 := Lib.hid t2
  clear B2 Y2 k2 t2 x2 K2
  generalize w2.alloc (.cells #[.slice ea2 en2 ec2, .int .u8 x.k, .int .u8 x.op, .int .i64 x.pos, .int .i64 x.n, .string x.name, .string x.arg, .string x.exn, .slice a2 n2 c2] 41) = W2 at *
  generalize w2.heap.size = b2 at *
  go_upto_region 6 with (go_at_call 11; refine (K3.out _ (HY1.out.trans HY2.out)).mono ?_; rintro e w3 ⟨a3, n3, c3, rfl, x3, t3⟩)
  have B3 := Blk.new w3 28 #[.int .u8 y.k, .int .u8 y.op, .int .i64 y.pos, .int .i64 y.n, .string y.name, .string y.arg, .string y.exn, .slice a3 n3 c3]
  have Y3 := x3.alloc (.cells #[.int .u8 y.k, .int .u8 y.op, .int .i64 y.pos, .int .i64 y.n, .string y.name, .string y.arg, .string y.exn, .slice a3 n3 c3] 28)
  have t3 := t3.ext ((Ext.refl w3).alloc (.cells #[.int .u8 y.k, .int .u8 y.op, .int .i64 y.pos, .int .i64 y.n, .string y.name, .string y.arg, .string y.exn, .slice a3 n3 c3] 28))
  have HB3 := Lib.hid B3
  have HY3 := Lib.hid Y3
  have HT3 := Lib.hid t3
  clear B3 Y3 t3 x3 K3
  generalize w3.alloc (.cells #[.int .u8 y.k, .int .u8 y.op, .int .i64 y.pos, .int .i64 y.n, .string y.name, .string y.arg, .string y.exn, .slice a3 n3 c3] 28) = W3 at *
  generalize w3.heap.size = b3 at *
  go_upto_region 7 with (go_at_call 17; refine (K4.out _ ((HY1.out.trans HY2.out).trans HY3.out)).mono ?_; rintro e w4 ⟨a4, n4, c4, rfl, x4, t4⟩)
  have B4 := Blk.new w4 28 #[.int .u8 y.k, .int .u8 y.op, .int .i64 y.pos, .int .i64 y.n, .string y.name, .string y.arg, .string y.exn, .slice a4 n4 c4]
  have Y4 := x4.alloc (.cells #[.int .u8 y.k, .int .u8 y.op, .int .i64 y.pos, .int .i64 y.n, .string y.name, .string y.arg, .string y.exn, .slice a4 n4 c4] 28)
  have t4 := t4.ext ((Ext.refl w4).alloc (.cells #[.int .u8 y.k, .int .u8 y.op, .int .i64 y.pos, .int .i64 y.n, .string y.name, .string y.arg, .string y.exn, .slice a4 n4 c4] 28))
  have HB4 := Lib.hid B4
  have HY4 := Lib.hid Y4
  have HT4 := Lib.hid t4
  clear B4 Y4 t4 x4 K4
  generalize w4.alloc (.cells #[.int .u8 y.k, .int .u8 y.op, .int .i64 y.pos, .int .i64 y.n, .string y.name, .string y.arg, .string y.exn, .slice a4 n4 c4] 28) = W4 at *
  generalize w4.heap.size = b4 at *
  have Y24 := HY3.out.trans HY4.out
  have Y14 := HY2.out.trans Y24
  have HYW := Lib.hid (HY1.out.trans Y14)
  have KS := Lib.hid (ref5_same es x ks HS1.out W4 a1 a2 ea1 ea2 n1 c1 n2 c2 en1 ec1 en2 ec2 g1 g2 g3 g4 (HK1.out.ext Y14) (HK2.out.ext Y24) (HT1.out.ext Y14) (HT2.out.ext Y24))
  have KE := Lib.hid fun W (h : Ext W4 W) => ref5_equal y kt HS2.out W a3 a4 n3 c3 n4 c4 ((HT3.out.ext HY4.out).ext h) (HT4.out.ext h)
  have B1' := HB1.out.ext Y14
  have B2' := HB2.out.ext Y24
  have B3' := HB3.out.ext HY4.out
  obtain ⟨o0, o1, o2, o3, o4, o5, o6, o7, o8⟩ := B1'.nine
  obtain ⟨d0, d1, d2, d3, d4, d5, d6, d7, d8⟩ := B2'.nine
  clear B1' B2' Y14 Y24
  go_wp2_with (go_at_call 18; refine (KS.out).mono ?_; rintro e w5 ⟨rfl, x5⟩; refine Hid.out ?_)
  refine Lib.hid ?_
  obtain ⟨o0, o1, o2, o3, o4, o5, o6, o7⟩ := (B3'.ext x5).eight
  obtain ⟨d0, d1, d2, d3, d4, d5, d6, d7⟩ := (HB4.out.ext x5).eight
  go_wp2_with (go_at_call 19; refine (KE.out _ x5).mono ?_; rintro e w6 ⟨rfl, x6⟩; refine Hid.out ?_)
  refine Lib.hid ?_
  go_wp2_with (go_at_call 10; refine (KA.out _ ((HYW.out.trans x5).trans x6)).mono ?_; rintro e w7 ⟨rfl, x7⟩)
  go_ret
  exact ⟨rfl, ((HYW.out.trans x5).trans x6).trans x7⟩
end Go.Proofs.YtaioeailgknfjaaGreatDoor



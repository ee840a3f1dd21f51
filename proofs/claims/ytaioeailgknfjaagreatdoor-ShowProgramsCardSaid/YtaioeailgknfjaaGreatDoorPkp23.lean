/- Part 23 of the proof: Parse19; no condition of ours. -/
import Derived.Test.YtaioeailgknfjaaGreatDoorPkp22
set_option linter.unusedVariables false
set_option linter.unusedSimpArgs false
namespace Go.Proofs.YtaioeailgknfjaaGreatDoor
open Go.Lib (hid)
open Go Go.RowKit Go.Sort
def runR {α : Type} (res : List Tk → Res α) (B : List UInt8) : Except (Int × Int) α :=
  if (lexR B).2.2 ≠ 0 then .error ((lexR B).2.1, (lexR B).2.2)
  else if 4001 < (lexR B).1.length then .error ((((lexR B).1[4000]?).map Tk.pos).getD 0, 3)
  else match res (lexR B).1 with
    | .error l => .error (posT l, 2)
    | .ok (a, l) => if kindT l = 6 then .ok a else .error (posT l, 2)
def runE {α : Type} (r : Except (Int × Int) α) : Int × Int := match r with
  | .error p => p
  | .ok _ => (0, 0)
theorem lexR_ended {B : List UInt8} (h : (lexR B).2.2 = 0) : Ended (lexR B).1 := by
  unfold lexR at h ⊢
  split at h
  · simp at h
  rename_i hn
  rw [if_neg hn]
  cases e : lexL 0 B with
  | error p => rw [e] at h; simp at h
  | ok o =>
    obtain ⟨o', rfl, ho⟩ := lexL_last e
    simp only [List.map_append, List.map_cons, List.map_nil]
    clear e h hn
    induction o' with
    | nil => exact rfl
    | cons t o' ih =>
      have ht := ho t (by simp)
      have := ih fun t h => ho t (by simp [h])
      cases o' with
      | nil => exact ⟨ht, this⟩
      | cons u o' => exact ⟨ht, this⟩
structure Whole {α : Type} (K ob : Nat) (res : List Tk → Res α) (O : World → Prop) (V : Nat → World → α → Prop) : Prop where
  call : ∀ (pb : Nat) (W : World) (l : List Tk), Prs W pb l → Ended l → l.length ≤ 4001 → ob < pb → O W → Calls Tryz.prog K #[.pointer (some ⟨pb, 0, none⟩), .pointer (some ⟨ob, 0, none⟩)] W fun e w' => ExtX (fun b => b = pb ∨ b = ob) W w' ∧ match res l with
    | .error l' => e = thrown l'
    | .ok (a, l') => e = .returned (.tuple #[]) ∧ Prs w' pb l' ∧ Ended l' ∧ V W.heap.size w' a
  keep : ∀ (B : Nat) (w w' : World) (a : α), V B w a → ExtX (fun b => b < B ∧ b ≠ ob) w w' → V B w' a
  start : ∀ (w w' : World), O w → Ext w w' → O w'
theorem ExtX.over {A : Nat → Prop} {ob : Nat} {w W W' : World} (h : ExtX (· = ob) w W) (k : ExtX A W W') (hA : ∀ b, A b → w.heap.size ≤ b) : ExtX (· = ob) w W' :=
  ⟨k.os.trans h.os, k.tape.trans h.tape, k.output.trans h.output, Nat.le_trans h.size k.size, fun i hi ha => (k.block i (Nat.lt_of_lt_of_le hi h.size) (fun e => by have := hA i e; omega)).trans (h.block i hi ha)⟩
def RetRun {α : Type} (ob : Nat) (V : Nat → World → α → Prop) (w : World) (r : Except (Int × Int) α) (e : Ending) (w' : World) : Prop :=
  e = .returned (.tuple #[.int .i64 (runE r).1, .int .i64 (runE r).2]) ∧ ExtX (· = ob) w w' ∧ ∀ a, r = .ok a → ∃ B, w.heap.size ≤ B ∧ V B w' a
set_option maxRecDepth 8000 in
set_option maxHeartbeats 8000000 in
theorem parse_run {α : Type} (K ob : Nat) (eK : ∀ args w, (callFunc K args).run Tryz.prog w = .ok (.enter K args) w) (res : List Tk → Res α) (O : World → Prop) (V : Nat → World → α → Prop) (hW : Whole K ob res O V) (B : List UInt8) (w : World) (a : Option Addr) (len cap : Nat) (h1 : len ≤ cap) (h2 : cap ≤ 9223372036854775807) (hr : IsBytes w B a len) (hk : Knob w) (hO : O w) (hob : ob < w.heap.size) (hcls : ∀ t, t ∈ (lexR B).1 → Cls t) :
    Calls Tryz.prog 29 #[.slice a len cap, .func (.func K) #[] #[.pointer (some ⟨ob, 0, none⟩)]] w (RetRun ob V w (runR res B)) := by
  have KL : Hid (∀ W, Ext w W → Calls Tryz.prog 55 #[.slice a len cap] W fun e w' => ∃ a n c, e = .returned (.tuple #[.slice a n c, .int .i64 (lexR B).2.1, .int .i64 (lexR B).2.2]) ∧ n ≤ c ∧ c ≤ 9223372036854775807 ∧ IsToks w' (lexR B).1 a n ∧ Ext W w') := hid fun W h => token_lex B W a len cap h1 h2 (hr.ext h) (hk.ext h)
  have HCLS := hid hcls
  clear hcls
  have HRUN := hid (show runR res B = _ from rfl)
  have HEN := hid (lexR_ended (B := B))
  have hres : runR res B = if (lexR B).2.2 ≠ 0 then .error ((lexR B).2.1, (lexR B).2.2) else if 4001 < (lexR B).1.length then .error ((((lexR B).1[4000]?).map Tk.pos).getD 0, 3) else match res (lexR B).1 with
    | .error l => .error (posT l, 2)
    | .ok (a, l) => if kindT l = 6 then .ok a else .error (posT l, 2) := rfl
  generalize runR res B = R at *
  have HRES := hid hres
  generalize lexR B = LR at *
  obtain ⟨L, p, f⟩ := LR
  have HW := hid hW
  have HO := hid hO
  have hmf : ∀ (fn : Fn) (first cap : Array Value) (w : World), (Instr.makeFunc fn first cap).run Tryz.prog w = .ok (.func fn first cap) w := fun _ _ _ _ => rfl
  clear hr hk hres hW hO HRUN
  go_enter_defers Tryz.func29, Tryz.ntmps29
  go_wp2_with fail
  refine (KL.out _ (by (exact eX))).mono ?_
  rintro e w1 ⟨ra, rn, rc, rfl, hn1, hn2, hT, x1⟩
  have hA1 := blk_under x1
  have hE1 := blk_top x1
  rw [World.size_alloc] at hE1
  have y1 : Ext w w1 := by (exact eX)
  have c1 := hA1.cell 0
  have g1 := hA1.frozen 0
  have l1 := hA1.lt
  have c2 := hE1.cell 0
  have g2 := hE1.frozen 0
  have l2 := hE1.lt
  simp at c1 c2
  have HT := hid hT
  have hrn := hT.length
  have HRN := hid hrn
  have HA1 := hid hA1
  have HE1 := hid hE1
  have Y1 := hid y1
  clear hT hrn hA1 hE1 x1 y1
  by_cases hf : f = 0
  case neg =>
    have hfb : (f != 0) = true := by simpa using hf
    have HR2 : Hid (R = .error (p, f)) := hid (by rw [HRES.out, if_pos hf])
    clear hf
    go_wp2_with fail
    have hA2 := (HA1.out.set_ 0 (.int .i64 p)).far (p := ⟨w.heap.size + 1, 0, none⟩) (by show w.heap.size ≠ w.heap.size + 1; omega) (.int .i64 f)
    have hE2 := (HE1.out.far (p := ⟨w.heap.size, 0, none⟩) (by show w.heap.size + 1 ≠ w.heap.size; omega) (.int .i64 p)).set_ 0 (.int .i64 f)
    simp only [List.setIfInBounds_toArray, List.set_cons_zero] at hA2 hE2
    have Y2 := (Y1.out.setCell (p := ⟨w.heap.size, 0, none⟩) (Nat.le_refl _) (.int .i64 p)).setCell (p := ⟨w.heap.size + 1, 0, none⟩) (Nat.le_succ _) (.int .i64 f)
    obtain ⟨W2, hW2⟩ : ∃ W2, W2 = (w1.setCell ⟨w.heap.size, 0, none⟩ (.int .i64 p)).setCell ⟨w.heap.size + 1, 0, none⟩ (.int .i64 f) := ⟨_, rfl⟩
    rw [← hW2] at hA2 hE2 Y2
    rw [← hW2]
    clear c1 g1 l1 c2 g2 l2 hW2
    have c1 := hA2.cell 0
    have g1 := hA2.frozen 0
    have l1 := hA2.lt
    have c2 := hE2.cell 0
    have g2 := hE2.frozen 0
    have l2 := hE2.lt
    simp at c1 c2
    have HA2 := hid hA2
    have HE2 := hid hE2
    have HY2 := hid Y2
    clear hA2 hE2 Y2
    go_region
    all_goals
      go_wp2_with fail
      have hA3 := ((HA2.out.set_ 0 (.int .i64 p)).far (p := ⟨w.heap.size + 1, 0, none⟩) (by show w.heap.size ≠ w.heap.size + 1; omega) (.int .i64 f)).drew
      have hE3 := ((HE2.out.far (p := ⟨w.heap.size, 0, none⟩) (by show w.heap.size + 1 ≠ w.heap.size; omega) (.int .i64 p)).set_ 0 (.int .i64 f)).drew
      simp only [List.setIfInBounds_toArray, List.set_cons_zero] at hA3 hE3
      have Y3 := ((HY2.out.setCell (p := ⟨w.heap.size, 0, none⟩) (Nat.le_refl _) (.int .i64 p)).setCell (p := ⟨w.heap.size + 1, 0, none⟩) (Nat.le_succ _) (.int .i64 f)).drew
      have r1 := hA3.cell 0
      have r2 := hE3.cell 0
      have HF : Hid (∀ W', W' = _ → RetRun ob V w R (.returned (.tuple #[.int .i64 p, .int .i64 f])) W') := hid fun W' e => ⟨by rw [HR2.out]; rfl, by rw [e]; exact ExtX.of Y3, fun a h => by rw [HR2.out] at h; cases h⟩
      simp at r1 r2
      simp [bodyPostD, Leaves, results, Tryz.results29, go_sem, r1, r2]
      exact HF.out _ rfl
  case pos =>
    subst hf
    have hend : Ended L := HEN.out rfl
    have hln : rn = L.length := HRN.out
    have hpos : 0 < L.length := by
      cases L with
      | nil => exact hend.elim
      | cons t L => simp
    have hw1 : IntKind.i64.wrap ((rn : Int) - 1) = (rn : Int) - 1 := IntWalk.i64_in _ ⟨by omega, by omega⟩
    by_cases hlong : 4001 < L.length
    · have HR2 : Hid (R = .error (((L[4000]?).map Tk.pos).getD 0, 3)) := hid (by rw [HRES.out, if_neg (by simp), if_pos hlong])
      obtain ⟨t, b, o, g, -, rfl, q0, q1, q2⟩ := HT.out.at3 (i := 4000) (by omega)
      rw [g] at HR2
      have hz : (4000 : Int) < (rn : Int) - 1 := by omega
      have hz2 : (4000 : Int) < (rn : Int) := by omega
      have hbl := block_lt_of_cell q2
      simp only at hbl
      have hbA : b ≠ w.heap.size := by
        rintro rfl
        have := HA1.out.cell (o + 4000 * 3)
        rw [q0] at this
        simp at this
      have hbE : b ≠ w.heap.size + 1 := by
        rintro rfl
        have := HE1.out.cell (o + 4000 * 3)
        rw [q0] at this
        simp at this
      have hbA' : w.heap.size ≠ b := fun e => hbA e.symm
      have hbE' : w.heap.size + 1 ≠ b := fun e => hbE e.symm
      have hA2 := (HA1.out.set_ 0 (.int .i64 p)).far (p := ⟨w.heap.size + 1, 0, none⟩) (by show w.heap.size ≠ w.heap.size + 1; omega) (.int .i64 0)
      have hE2 := (HE1.out.far (p := ⟨w.heap.size, 0, none⟩) (by show w.heap.size + 1 ≠ w.heap.size; omega) (.int .i64 p)).set_ 0 (.int .i64 0)
      have hA3 := (hA2.set_ 0 (.int .i64 t.pos)).far (p := ⟨w.heap.size + 1, 0, none⟩) (by show w.heap.size ≠ w.heap.size + 1; omega) (.int .i64 3)
      have hE3 := (hE2.far (p := ⟨w.heap.size, 0, none⟩) (by show w.heap.size + 1 ≠ w.heap.size; omega) (.int .i64 t.pos)).set_ 0 (.int .i64 3)
      simp only [List.setIfInBounds_toArray, List.set_cons_zero] at hA3 hE3
      have Y3 := (((Y1.out.setCell (p := ⟨w.heap.size, 0, none⟩) (Nat.le_refl _) (.int .i64 p)).setCell (p := ⟨w.heap.size + 1, 0, none⟩) (Nat.le_succ _) (.int .i64 0)).setCell (p := ⟨w.heap.size, 0, none⟩) (Nat.le_refl _) (.int .i64 t.pos)).setCell (p := ⟨w.heap.size + 1, 0, none⟩) (Nat.le_succ _) (.int .i64 3)
      have HA3 := hid hA3
      have HE3 := hid hE3
      have HY3 := hid Y3
      clear hA2 hE2 hA3 hE3 Y3 hln hlong hpos hend g
      go_wp2_with fail
      have r1 := HA3.out.cell 0
      have r2 := HE3.out.cell 0
      have HF : Hid (∀ W', W' = _ → RetRun ob V w R (.returned (.tuple #[.int .i64 t.pos, .int .i64 3])) W') := hid fun W' e => ⟨by rw [HR2.out]; rfl, by rw [e]; exact ExtX.of HY3.out, fun a h => by rw [HR2.out] at h; cases h⟩
      simp at r1 r2
      simp [bodyPostD, Leaves, results, Tryz.results29, go_sem, r1, r2]
      exact HF.out _ rfl
    · have HL4 := hid (Nat.le_of_not_lt hlong)
      have HR2 : Hid (R = match res L with
        | .error l => .error (posT l, 2)
        | .ok (a, l) => if kindT l = 6 then .ok a else .error (posT l, 2)) := hid (by rw [HRES.out, if_neg (by simp), if_neg hlong])
      have hz : ¬ (4000 : Int) < (rn : Int) - 1 := by omega
      obtain ⟨t0, b, o, gt, hft, rfl, q0, q1, q2⟩ := HT.out.at3 (i := 0) (by omega)
      have hb1 : b < w1.heap.size := block_lt_of_cell q0
      have hbA : b ≠ w.heap.size := by
        rintro rfl
        have := HA1.out.cell (o + 0 * 3)
        rw [q0] at this
        cases o with
        | zero => simp at this
        | succ o => simp at this
      have hbE : b ≠ w.heap.size + 1 := by
        rintro rfl
        have := HE1.out.cell (o + 0 * 3)
        rw [q0] at this
        cases o with
        | zero => simp at this
        | succ o => simp at this
      have hA2 := (HA1.out.set_ 0 (.int .i64 p)).far (p := ⟨w.heap.size + 1, 0, none⟩) (by show w.heap.size ≠ w.heap.size + 1; omega) (.int .i64 0)
      have hE2 := (HE1.out.far (p := ⟨w.heap.size, 0, none⟩) (by show w.heap.size + 1 ≠ w.heap.size; omega) (.int .i64 p)).set_ 0 (.int .i64 0)
      simp only [List.setIfInBounds_toArray, List.set_cons_zero] at hA2 hE2
      have Y2 := (Y1.out.setCell (p := ⟨w.heap.size, 0, none⟩) (Nat.le_refl _) (.int .i64 p)).setCell (p := ⟨w.heap.size + 1, 0, none⟩) (Nat.le_succ _) (.int .i64 0)
      have hT2 := (HT.out.far (p := ⟨w.heap.size, 0, none⟩) (u := .int .i64 p) hbA).far (p := ⟨w.heap.size + 1, 0, none⟩) (u := .int .i64 0) hbE
      have hPrs : Prs (((w1.setCell ⟨w.heap.size, 0, none⟩ (.int .i64 p)).setCell ⟨w.heap.size + 1, 0, none⟩ (.int .i64 0)).alloc (.cells #[.slice (some ⟨b, o, none⟩) rn rc, .int .i64 0] 96)) w1.heap.size L := by
        have hB := Blk.new ((w1.setCell ⟨w.heap.size, 0, none⟩ (.int .i64 p)).setCell ⟨w.heap.size + 1, 0, none⟩ (.int .i64 0)) 96 #[.slice (some ⟨b, o, none⟩) rn rc, .int .i64 0]
        have hsz : ((w1.setCell ⟨w.heap.size, 0, none⟩ (.int .i64 p)).setCell ⟨w.heap.size + 1, 0, none⟩ (.int .i64 0)).heap.size = w1.heap.size := by simp [World.setCell]
        rw [hsz] at hB
        exact ⟨b, o, rn, rc, 0, L, hB, hn1, hn2, hT2.ext ((Ext.refl _).alloc _), hb1, rfl, by omega, HCLS.out⟩
      have HPRS := hid hPrs
      have HA2 := hid (hA2.alloc (.cells #[.slice (some ⟨b, o, none⟩) rn rc, .int .i64 0] 96))
      have HE2 := hid (hE2.alloc (.cells #[.slice (some ⟨b, o, none⟩) rn rc, .int .i64 0] 96))
      have HY2 := hid (Y2.alloc (.cells #[.slice (some ⟨b, o, none⟩) rn rc, .int .i64 0] 96))
      have HEND := hid hend
      have HLN := hid hln
      clear hlong hpos hA2 hE2 Y2 hT2 hPrs q0 q1 q2 gt hft hend hln
      go_wp2_with fail
      refine (HW.out.call w1.heap.size _ L ?hP HEND.out HL4.out (by omega) (HW.out.start _ _ HO.out ?hY)).mono ?_
      case hP => have := HPRS.out; exact this
      case hY => have := HY2.out; exact this
      intro e w5 hh
      obtain ⟨x5, hh⟩ := hh
      have hpb : w.heap.size + 1 < w1.heap.size := HE1.out.lt
      have HA5 := hid (HA2.out.extx x5 (show ¬ (w.heap.size = w1.heap.size ∨ w.heap.size = ob) by omega))
      have HE5 := hid (HE2.out.extx x5 (show ¬ (w.heap.size + 1 = w1.heap.size ∨ w.heap.size + 1 = ob) by omega))
      have hx5 : ExtX (· = ob) w w5 := ⟨x5.os.trans HY2.out.os, x5.tape.trans HY2.out.tape, x5.output.trans HY2.out.output, Nat.le_trans HY2.out.size x5.size, fun k hk ha => (x5.block k (Nat.lt_of_lt_of_le hk HY2.out.size) (fun e => by rcases e with e | e; omega; exact ha e)).trans (Below.block HY2.out k hk)⟩
      have HX5 := hid hx5
      have hr2 := HR2.out
      -- what is caught
      have KC : Hid (∀ (l' : List Tk) (W : World), R = .error (posT l', 2) → Blk W w.heap.size 3 #[.int .i64 p] → Blk W (w.heap.size + 1) 29 #[.int .i64 0] → ExtX (· = ob) w W →
          CallsD Tryz.prog 56 #[.pointer (some ⟨w.heap.size, 0, none⟩), .pointer (some ⟨w.heap.size + 1, 0, none⟩)] (.panicking [{ v := .iface 94 (.agg #[.int .i64 (posT l')]), recovered := false }]) W fun e u' w' => e = .returned (.tuple #[]) ∧ u' = .panicking [{ v := .iface 94 (.agg #[.int .i64 (posT l')]), recovered := true }] ∧ w'.cell? ⟨w.heap.size, 0, none⟩ = some (.int .i64 (posT l')) ∧ w'.cell? ⟨w.heap.size + 1, 0, none⟩ = some (.int .i64 2) ∧ RetRun ob V w R (.returned (.tuple #[.int .i64 (posT l'), .int .i64 2])) w') := hid fun l' W hR hA hE hX => by
        refine (run_catch w.heap.size (w.heap.size + 1) (posT l') p 0 [] W hA hE (by omega)).mono ?_
        rintro e u' w' ⟨rfl, rfl, hA', hE', hx'⟩
        refine ⟨rfl, rfl, hA'.cell 0, hE'.cell 0, by rw [hR]; rfl, ?_, fun a h => by rw [hR] at h; cases h⟩
        exact ⟨hx'.os.trans hX.os, hx'.tape.trans hX.tape, hx'.output.trans hX.output, Nat.le_trans hX.size hx'.size, fun k hk ha => (hx'.block k (Nat.lt_of_lt_of_le hk hX.size) (fun e => by rcases e with e | e <;> omega)).trans (hX.block k hk ha)⟩
      clear x5 hx5
      cases hrs : res L with
      | error l' =>
        rw [hrs] at hh hr2
        have hh : e = thrown l' := hh
        subst hh
        refine leaves_cons (f := 56) (args := #[.pointer (some ⟨w.heap.size, 0, none⟩), .pointer (some ⟨w.heap.size + 1, 0, none⟩)]) (by simp) (by simp [go_sem]) ?_
        refine (KC.out l' w5 hr2 HA5.out HE5.out HX5.out).mono ?_
        rintro e u' w' ⟨rfl, rfl, r1, r2, hR⟩
        have HRR := hid hR
        clear hR
        simp [Leaves, settle, results, Tryz.results29, go_sem, r1, r2]
        exact HRR.out
      | ok q =>
        obtain ⟨v, l'⟩ := q
        rw [hrs] at hh hr2
        obtain ⟨rfl, hP5, hE5, hV⟩ : e = .returned (.tuple #[]) ∧ Prs w5 w1.heap.size l' ∧ Ended l' ∧ V _ w5 v := hh
        have HV := hid hV
        have HP5 := hid hP5
        cases l' with
        | nil => exact hE5.elim
        | cons t l'' =>
        by_cases hk : t.k = 6
        · have hR9 : Hid (R = .ok v) := hid (by rw [hr2]; simp [kindT, hk])
          have KK := parse_kind_ok w1.heap.size t l'' w5 hP5
          rw [hk] at KK
          have KK := hid KK
          clear hk hr2 hrs hV hP5 hE5
          go_wp2_with fail
          refine KK.out.mono ?_
          rintro e w6 ⟨rfl, x6, -⟩
          have hA6 := HA5.out.nez x6 (by omega)
          have hE6 := HE5.out.nez x6 (by omega)
          have c1 := hA6.cell 0
          have g1 := hA6.frozen 0
          have l1 := hA6.lt
          have c2 := hE6.cell 0
          have g2 := hE6.frozen 0
          have l2 := hE6.lt
          simp at c1 c2
          have HA6 := hid hA6
          have HE6 := hid hE6
          have X6 := hid x6
          clear hA6 hE6 x6
          go_wp2_with fail
          have hA7 := (HA6.out.set_ 0 (.int .i64 0)).far (p := ⟨w.heap.size + 1, 0, none⟩) (by show w.heap.size ≠ w.heap.size + 1; omega) (.int .i64 0)
          have hE7 := (HE6.out.far (p := ⟨w.heap.size, 0, none⟩) (by show w.heap.size + 1 ≠ w.heap.size; omega) (.int .i64 0)).set_ 0 (.int .i64 0)
          simp only [List.setIfInBounds_toArray, List.set_cons_zero] at hA7 hE7
          have X7 := (X6.out.mono (A' := fun b => b < w1.heap.size + 1 ∧ b ≠ ob) (fun b e => by have e : b = w1.heap.size := e; omega))
          have X8 := (X7.setCell (p := ⟨w.heap.size, 0, none⟩) (.inl ⟨by show w.heap.size < w1.heap.size + 1; omega, by show w.heap.size ≠ ob; omega⟩) (.int .i64 0)).setCell (p := ⟨w.heap.size + 1, 0, none⟩) (.inl ⟨by show w.heap.size + 1 < w1.heap.size + 1; omega, by show w.heap.size + 1 ≠ ob; omega⟩) (.int .i64 0)
          have hsz : (((w1.setCell ⟨w.heap.size, 0, none⟩ (.int .i64 p)).setCell ⟨w.heap.size + 1, 0, none⟩ (.int .i64 0)).alloc (.cells #[.slice (some ⟨b, o, none⟩) rn rc, .int .i64 0] 96)).heap.size = w1.heap.size + 1 := by simp [World.setCell]
          have hV5 := HV.out
          rw [hsz] at hV5
          have HV9 := hid (HW.out.keep _ _ _ _ hV5 X8)
          have X9 := HX5.out.over (((X6.out.mono (A' := fun b => w.heap.size ≤ b) (fun b e => by have e : b = w1.heap.size := e; show w.heap.size ≤ b; omega)).setCell (p := ⟨w.heap.size, 0, none⟩) (.inl (Nat.le_refl _)) (.int .i64 0)).setCell (p := ⟨w.heap.size + 1, 0, none⟩) (.inl (Nat.le_succ _)) (.int .i64 0)) (fun b hb => hb)
          refine leaves_cons (f := 56) (args := #[.pointer (some ⟨w.heap.size, 0, none⟩), .pointer (some ⟨w.heap.size + 1, 0, none⟩)]) (by simp) (by simp [go_sem]) ?_
          refine (run_idle _ _ _).mono ?_
          rintro e u' w9 ⟨rfl, rfl, x9⟩
          have r1 := (hA7.ext x9).cell 0
          have r2 := (hE7.ext x9).cell 0
          have HRR : Hid (RetRun ob V w R (.returned (.tuple #[.int .i64 0, .int .i64 0])) w9) := hid ⟨by rw [hR9.out]; rfl, X9.then_ x9, fun a h => by
            rw [hR9.out] at h
            cases h
            exact ⟨w1.heap.size + 1, by omega, HW.out.keep _ _ _ _ HV9.out (.of x9)⟩⟩
          clear X7 X8 X9 hA7 hE7 x9 hV5 hsz
          simp at r1 r2
          simp [Leaves, settle, results, Tryz.results29, go_sem, r1, r2]
          exact HRR.out
        · have hR9 : R = .error (posT (t :: l''), 2) := by rw [hr2]; simp [kindT, hk]
          have KK := hid (parse_kind_no 6 w1.heap.size t l'' w5 hP5 hk)
          clear hk hr2 hrs hV hP5 hE5
          have HR9 := hid hR9
          clear hR9
          go_wp2_with fail
          refine KK.out.mono ?_
          rintro e w6 ⟨rfl, x6⟩
          refine leaves_cons (f := 56) (args := #[.pointer (some ⟨w.heap.size, 0, none⟩), .pointer (some ⟨w.heap.size + 1, 0, none⟩)]) (by simp) (by simp [go_sem]) ?_
          refine (KC.out (t :: l'') w6 HR9.out (HA5.out.ext x6) (HE5.out.ext x6) (HX5.out.then_ x6)).mono ?_
          rintro e u' w' ⟨rfl, rfl, r1, r2, hR⟩
          have HRR := hid hR
          clear hR
          simp [Leaves, settle, results, Tryz.results29, go_sem, r1, r2]
          exact HRR.out
def OutZ (ob : Nat) (w : World) : Prop := Blk w ob 28 #[.int .u8 0, .int .u8 0, .int .i64 0, .int .i64 0, .string ⟨#[]⟩, .string ⟨#[]⟩, .string ⟨#[]⟩, .slice none 0 0]
def OutT (ob B : Nat) (w : World) (t : Tm) : Prop := ∃ a n c, Blk w ob 28 #[.int .u8 t.head.k, .int .u8 t.head.op, .int .i64 t.head.pos, .int .i64 t.head.n, .string t.head.name, .string t.head.arg, .string t.head.exn, .slice a n c] ∧ t.head.Fits ∧ n ≤ c ∧ c ≤ 9223372036854775807 ∧ IsTmsA (fun b => b < B) w t.kids a n
theorem Prs.aside {w w' : World} {pb ob : Nat} {l : List Tk} (h : Prs w pb l) (hO : OutZ ob w) (hx : ExtX (· = ob) w w') (hne : pb ≠ ob) : Prs w' pb l := by
  obtain ⟨b, o, n, c, i, L, hB, h1, h2, hT, hb, hl, hi⟩ := h
  obtain ⟨t, b', o', -, -, e, q0, q1, -⟩ := hT.at3 hi.1
  cases e
  have hbo : b ≠ ob := by
    rintro rfl
    have e0 := hO.cell (o + i * 3)
    have e1 := hO.cell (o + i * 3 + 1)
    rw [q0] at e0
    rw [q1] at e1
    generalize o + i * 3 = k at e0 e1
    match k, e0, e1 with
    | 0, _, e1 => simp at e1
    | 1, _, e1 => simp at e1
    | 2, e0, _ => simp at e0
    | 3, e0, _ => simp at e0
    | 4, e0, _ => simp at e0
    | 5, e0, _ => simp at e0
    | 6, e0, _ => simp at e0
    | 7, e0, _ => simp at e0
    | k + 8, e0, _ => simp at e0
  exact ⟨b, o, n, c, i, L, hB.extx hx hne, h1, h2, hT.extx hx hbo, hb, hl, hi⟩
set_option maxRecDepth 8000 in
set_option maxHeartbeats 4000000 in
theorem term_whole (ob : Nat) : Whole 30 ob (parseL .expr) (OutZ ob) (OutT ob) := by
  refine ⟨fun pb W l hP hE _ hob hO => ?_, ?_, fun w w' h hx => h.ext hx⟩
  · have hlt := hP.lt
    have KE := hid (parse_walk pb W l hP hE)
    obtain ⟨f0, -, hT⟩ := parseL_some (nt := .expr) hE
    have HTO := hid hT
    have HO := hid hO
    generalize parseL .expr l = r at *
    clear hP hE hT hO
    go_enter Tryz.func30, Tryz.ntmps30
    go_wp2_with fail
    refine KE.out.mono ?_
    intro e w1 hh
    cases r with
    | error l' =>
      obtain ⟨rfl, x1⟩ := hh.error
      exact ⟨rfl, x1.mono (fun b hb => .inl hb), rfl⟩
    | ok q =>
      obtain ⟨⟨x, ks⟩, l'⟩ := q
      obtain ⟨v, rfl, ⟨a, n, c, rfl, hf, g1, g2, hT⟩, hP1, x1⟩ := hh.ok
      have hZ1 : OutZ ob w1 := Blk.nez HO.out x1 (by omega)
      have hZ1' : Blk w1 ob 28 _ := hZ1
      obtain ⟨z0, z1, z2, z3, z4, z5, z6, z7⟩ := hZ1'.eight
      obtain ⟨f0', f1, f2, f3, f4, f5, f6, f7⟩ := hZ1'.frozen8
      have hlz := hZ1'.lt
      have X9 := (ExtX.refl (A := (· = ob)) w1).set8 (g := ob) (u0 := .int .u8 x.k) (u1 := .int .u8 x.op) (u2 := .int .i64 x.pos) (u3 := .int .i64 x.n) (u4 := .string x.name) (u5 := .string x.arg) (u6 := .string x.exn) (u7 := .slice a n c) (.inl rfl)
      have P9 := hid (hP1.aside hZ1 X9 (by omega))
      have B9 := hid (hZ1'.lay8 (u0 := .int .u8 x.k) (u1 := .int .u8 x.op) (u2 := .int .i64 x.pos) (u3 := .int .i64 x.n) (u4 := .string x.name) (u5 := .string x.arg) (u6 := .string x.exn) (u7 := .slice a n c))
      have hOW := HO.out.lt
      have T9 := hid (hT.set8 (u0 := .int .u8 x.k) (u1 := .int .u8 x.op) (u2 := .int .i64 x.pos) (u3 := .int .i64 x.n) (u4 := .string x.name) (u5 := .string x.arg) (u6 := .string x.exn) (u7 := .slice a n c) (show ob < W.heap.size from hOW))
      have X10 := hid ((x1.mono (A' := fun b => b = pb ∨ b = ob) (fun b hb => .inl hb)).trans (X9.mono (fun b hb => .inr hb)))
      have HF := hid hf
      clear hh hZ1 hZ1' hT hP1 x1 X9 hf
      go_wp2_with fail
      exact bodyPost_end (v := .tuple #[]) (results_none rfl _ _ _) rfl ⟨X10.out, rfl, P9.out, HTO.out.1, a, n, c, B9.out, HF.out, g1, g2, T9.out⟩
  · rintro B w w' t ⟨a, n, c, hB, hf, h1, h2, hT⟩ hx
    exact ⟨a, n, c, hB.extx hx (by rintro ⟨-, h⟩; exact h rfl), hf, h1, h2, hT.extx hx (fun b hb => hb.1)⟩
theorem ek_term : ∀ args w, (callFunc 30 args).run Tryz.prog w = .ok (.enter 30 args) w := fun args w => by kernel_rfl
def RetTerm (w : World) (r : Except (Int × Int) Tm) (e : Ending) (w' : World) : Prop := Ext w w' ∧ match r with
  | .error (p, f) => e = .returned (.tuple #[.agg #[.int .u8 0, .int .u8 0, .int .i64 0, .int .i64 0, .string ⟨#[]⟩, .string ⟨#[]⟩, .string ⟨#[]⟩, .slice none 0 0], .int .i64 p, .int .i64 f])
  | .ok t => ∃ v, e = .returned (.tuple #[v, .int .i64 0, .int .i64 0]) ∧ IsTm w' t v
def termR (B : List UInt8) : Except (Int × Int) Tm := runR (parseL .expr) B
theorem runR_err {α : Type} {res : List Tk → Res α} {B : List UInt8} {p : Int × Int} (h : runR res B = .error p) : p.2 ≠ 0 := by
  unfold runR at h
  split at h
  · rename_i hf
    cases h
    exact hf
  split at h
  · cases h
    simp
  split at h
  · cases h
    simp
  · split at h
    · cases h
    · cases h
      simp
set_option maxRecDepth 8000 in
set_option maxHeartbeats 4000000 in
theorem parse_term (B : List UInt8) (w : World) (a : Option Addr) (len cap : Nat) (h1 : len ≤ cap) (h2 : cap ≤ 9223372036854775807) (hr : IsBytes w B a len) (hk : Knob w) (hcls : ∀ t, t ∈ (lexR B).1 → Cls t) :
    Calls Tryz.prog 11 #[.slice a len cap] w (RetTerm w (termR B)) := by
  have KR := hid fun (W : World) (ob : Nat) (h : Ext w W) (hO : OutZ ob W) (hob : ob < W.heap.size) => parse_run 30 ob ek_term (parseL .expr) (OutZ ob) (OutT ob) (term_whole ob) B W a len cap h1 h2 (hr.ext h) (hk.ext h) hO hob hcls
  have HRE := hid fun p (h : termR B = .error p) => runR_err h
  have KR : Hid (∀ (W : World) (ob : Nat), Ext w W → OutZ ob W → ob < W.heap.size → Calls Tryz.prog 29 #[.slice a len cap, .func (.func 30) #[] #[.pointer (some ⟨ob, 0, none⟩)]] W (RetRun ob (OutT ob) W (termR B))) := hid fun W ob h hO hob => KR.out W ob h hO hob
  generalize termR B = r at *
  clear hr hk hcls
  have hOO : OutZ (w.heap.size + 1) ((w.alloc (.cells #[.int .u8 0, .int .u8 0, .int .i64 0, .int .i64 0, .string ⟨#[]⟩, .string ⟨#[]⟩, .string ⟨#[]⟩, .slice none 0 0] 28)).alloc (.cells #[.int .u8 0, .int .u8 0, .int .i64 0, .int .i64 0, .string ⟨#[]⟩, .string ⟨#[]⟩, .string ⟨#[]⟩, .slice none 0 0] 28)) := by
    have h := Blk.new (w.alloc (.cells #[.int .u8 0, .int .u8 0, .int .i64 0, .int .i64 0, .string ⟨#[]⟩, .string ⟨#[]⟩, .string ⟨#[]⟩, .slice none 0 0] 28)) 28 #[.int .u8 0, .int .u8 0, .int .i64 0, .int .i64 0, .string ⟨#[]⟩, .string ⟨#[]⟩, .string ⟨#[]⟩, .slice none 0 0]
    rw [World.size_alloc] at h
    exact h
  have hZ0 := (Blk.new w 28 #[.int .u8 0, .int .u8 0, .int .i64 0, .int .i64 0, .string ⟨#[]⟩, .string ⟨#[]⟩, .string ⟨#[]⟩, .slice none 0 0]).alloc (.cells #[.int .u8 0, .int .u8 0, .int .i64 0, .int .i64 0, .string ⟨#[]⟩, .string ⟨#[]⟩, .string ⟨#[]⟩, .slice none 0 0] 28)
  have HOO := hid hOO
  have HZ0 := hid hZ0
  clear hOO hZ0
  go_enter Tryz.func11, Tryz.ntmps11
  go_wp2_with fail
  refine (KR.out _ _ (by (exact eX)) HOO.out (by simp)).mono ?_
  rintro e w1 ⟨rfl, x1, hV⟩
  have hZ1 := HZ0.out.extx x1 (show ¬ w.heap.size = w.heap.size + 1 by omega)
  obtain ⟨z0, z1, z2, z3, z4, z5, z6, z7⟩ := hZ1.eight
  obtain ⟨f0, f1, f2, f3, f4, f5, f6, f7⟩ := hZ1.frozen8
  have hlz := hZ1.lt
  have y1 : Ext w w1 := ExtX.ext (w0 := _) (by (exact eX)) x1 (fun b hb => by have hb : b = w.heap.size + 1 := hb; omega)
  have HZ1 := hid hZ1
  have HY1 := hid y1
  have HV := hid hV
  clear hZ1 y1 hV x1
  cases r with
  | error q =>
    obtain ⟨p, f⟩ := q
    have hf := HRE.out _ rfl
    have hfb : (f != 0) = true := by simpa using hf
    simp only [runE]
    clear hf
    have B9 := hid (HZ1.out.lay8 (u0 := .int .u8 0) (u1 := .int .u8 0) (u2 := .int .i64 0) (u3 := .int .i64 0) (u4 := .string ⟨#[]⟩) (u5 := .string ⟨#[]⟩) (u6 := .string ⟨#[]⟩) (u7 := .slice none 0 0))
    have Y9 := hid (HY1.out.set8 (g := w.heap.size) (u0 := .int .u8 0) (u1 := .int .u8 0) (u2 := .int .i64 0) (u3 := .int .i64 0) (u4 := .string ⟨#[]⟩) (u5 := .string ⟨#[]⟩) (u6 := .string ⟨#[]⟩) (u7 := .slice none 0 0) (Nat.le_refl _))
    go_wp2_with fail
    obtain ⟨r0, r1, r2, r3, r4, r5, r6, r7⟩ := B9.out.eight
    exact bodyPost_ret (v := .tuple #[.agg #[.int .u8 0, .int .u8 0, .int .i64 0, .int .i64 0, .string ⟨#[]⟩, .string ⟨#[]⟩, .string ⟨#[]⟩, .slice none 0 0], .int .i64 p, .int .i64 f]) (by simp [results, Tryz.results11, go_sem, r0, r1, r2, r3, r4, r5, r6, r7]) rfl ⟨Y9.out, rfl⟩
  | ok t =>
    obtain ⟨B0, hB0, ta, tn, tc, hB, hf, g1, g2, hT⟩ := HV.out t rfl
    obtain ⟨x, ks⟩ := t
    simp only [Tm.head, Tm.kids] at hB hf hT
    simp only [runE]
    obtain ⟨c0, c1, c2, c3, c4, c5, c6, c7⟩ := hB.eight
    have hlb := hB.lt
    have B9 := hid (HZ1.out.lay8 (u0 := .int .u8 x.k) (u1 := .int .u8 x.op) (u2 := .int .i64 x.pos) (u3 := .int .i64 x.n) (u4 := .string x.name) (u5 := .string x.arg) (u6 := .string x.exn) (u7 := .slice ta tn tc))
    have Y9 := hid (HY1.out.set8 (g := w.heap.size) (u0 := .int .u8 x.k) (u1 := .int .u8 x.op) (u2 := .int .i64 x.pos) (u3 := .int .i64 x.n) (u4 := .string x.name) (u5 := .string x.arg) (u6 := .string x.exn) (u7 := .slice ta tn tc) (Nat.le_refl _))
    have hB1 : w.heap.size < B0 := by simp at hB0; omega
    have T9 := hid (hT.set8 (g := w.heap.size) (u0 := .int .u8 x.k) (u1 := .int .u8 x.op) (u2 := .int .i64 x.pos) (u3 := .int .i64 x.n) (u4 := .string x.name) (u5 := .string x.arg) (u6 := .string x.exn) (u7 := .slice ta tn tc) hB1)
    have HF := hid hf
    clear hB hf hT
    go_wp2_with fail
    obtain ⟨r0, r1, r2, r3, r4, r5, r6, r7⟩ := B9.out.eight
    exact bodyPost_ret (v := .tuple #[.agg #[.int .u8 x.k, .int .u8 x.op, .int .i64 x.pos, .int .i64 x.n, .string x.name, .string x.arg, .string x.exn, .slice ta tn tc], .int .i64 0, .int .i64 0]) (by simp [results, Tryz.results11, go_sem, r0, r1, r2, r3, r4, r5, r6, r7]) rfl ⟨Y9.out, _, rfl, ta, tn, tc, rfl, HF.out, g1, g2, T9.out.any⟩
end Go.Proofs.YtaioeailgknfjaaGreatDoor

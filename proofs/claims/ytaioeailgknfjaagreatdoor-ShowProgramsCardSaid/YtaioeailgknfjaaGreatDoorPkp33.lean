/- Part 33 of the proof: Term1; no condition of ours. -/
import Derived.Test.YtaioeailgknfjaaGreatDoorPkp5
import Derived.Test.YtaioeailgknfjaaGreatDoorPkp32
set_option linter.unusedVariables false
set_option linter.unusedSimpArgs false
namespace Go.Proofs.YtaioeailgknfjaaGreatDoor
open Go.Lib (hid)
open Go Go.RowKit Go.Sort
theorem Tm.walk_all (p : Tm → Bool) (t : Tm) : t.walk (fun (s : Unit) t => (s, p t)) () = ((), t.all.all p) := by
  induction t using Tm.ind with
  | h x l ih =>
    simp only [Tm.walk, Tm.all, List.all_cons]
    have key : ∀ l' : List Tm, (∀ t, t ∈ l' → t.walk (fun (s : Unit) t => (s, p t)) () = ((), t.all.all p)) → Tm.walks (fun (s : Unit) t => (s, p t)) l' () = ((), (Tm.alls l').all p) := by
      intro l'
      induction l' with
      | nil => intro _; simp [Tm.walks, Tm.alls]
      | cons t l' ihl =>
        intro h
        simp only [Tm.walks, Tm.alls, List.all_append, h t (by simp), ihl (fun t ht => h t (by simp [ht]))]
        cases t.all.all p <;> simp
    rw [key l ih]
    cases p (.mk x l) <;> simp
theorem Tm.walks_all (p : Tm → Bool) (l : List Tm) : Tm.walks (fun (s : Unit) t => (s, p t)) l () = ((), (Tm.alls l).all p) := by
  induction l with
  | nil => simp [Tm.walks, Tm.alls]
  | cons t l ih =>
    simp only [Tm.walks, Tm.alls, List.all_append, Tm.walk_all, ih]
    cases t.all.all p <;> simp
theorem Tm.walk_fold {σ : Type} (g : σ → Tm → σ) (t : Tm) : ∀ s, t.walk (fun s t => (g s t, true)) s = (t.all.foldl g s, true) := by
  induction t using Tm.ind with
  | h x l ih =>
    intro s
    simp only [Tm.walk, Tm.all, List.foldl_cons, if_true]
    generalize g s (.mk x l) = s1
    clear s
    induction l generalizing s1 with
    | nil => simp [Tm.walks, Tm.alls]
    | cons t l ihl =>
      simp only [Tm.walks, Tm.alls, List.foldl_append, ih t (by simp), if_true]
      exact ihl (fun t ht => ih t (by simp [ht])) _
theorem Tm.walks_fold {σ : Type} (g : σ → Tm → σ) (l : List Tm) : ∀ s, Tm.walks (fun s t => (g s t, true)) l s = ((Tm.alls l).foldl g s, true) := by
  induction l with
  | nil => intro s; simp [Tm.walks, Tm.alls]
  | cons t l ih =>
    intro s
    simp only [Tm.walks, Tm.alls, List.foldl_append, Tm.walk_fold, if_true]
    exact ih _
theorem fold_count {α : Type} (l : List α) (n : Nat) : l.foldl (fun n _ => n + 1) n = n + l.length := by
  induction l generalizing n with
  | nil => rfl
  | cons a l ih => simp [ih]; omega
theorem oext_of_x {A : Nat → Prop} {w w' : World} (h : ExtX A w w') : OExt (fun _ => A) w w' := ⟨h.os, h.tape, h.output, h.size, fun k hk ha => ⟨h.block k hk ha, ha⟩⟩
theorem oext_x {A : Nat → Prop} {w w' : World} (h : OExt (fun _ => A) w w') : ExtX A w w' := ⟨h.os, h.tape, h.output, h.size, fun k hk ha => (h.block k hk ha).1⟩
def noOwn : World → Nat → Prop := fun _ _ => False
theorem oext_none {w w' : World} (h : Ext w w') : OExt noOwn w w' := ⟨Below.os h, Below.tape h, Below.output h, h.size, fun k hk ha => ⟨Below.block h k hk, ha⟩⟩
theorem none_oext {w w' : World} (h : OExt noOwn w w') : Ext w w' := ⟨h.os, h.tape, h.output, h.size, fun k hk => (h.block k hk (fun h => h)).1⟩
def gSize (b : Nat) : Gauge Nat where
  R := fun n w => Blk w b 3 #[.int .i64 n]
  own := fun _ k => k = b
  keep := fun _ _ _ h hx => ⟨h.ext hx, fun _ h => h⟩
  lt := fun _ _ _ h hk => by subst hk; exact h.lt
def roomN (n m : Nat) : Prop := n + m ≤ 1000000
set_option maxHeartbeats 400000 in
theorem size_steps (b : Nat) : Steps1 (gSize b) (fun n _ => (n + 1, true)) roomN 99 (.pointer (some ⟨b, 0, none⟩)) := by
  intro n w x l a len cap hR hr hf h1 h2 hl
  have hB : Blk w b 3 #[.int .i64 n] := hR
  have hn : (n : Int) + 1 ≤ 1000001 := by unfold roomN at hr; omega
  have hbl := hB.lt
  have c0 := hB.cell 0
  have f0 := hB.frozen 0
  have HB := hid hB
  clear hB hR hl hf hr
  go_enter Tryz.func99, Tryz.ntmps99
  go_wp2_with fail
  go_ret
  refine ⟨rfl, ?_, oext_of_x (A := fun k => k = b) ((ExtX.setCell (A := fun k => k = b) (p := ⟨b, 0, none⟩) (ExtX.refl w) (.inl rfl) _).alloc _)⟩
  show Blk _ b _ #[.int .i64 ((n + 1 : Nat) : Int)]
  have h := (HB.out.set_ 0 (.int .i64 ((n : Int) + 1))).alloc (.cells #[.int .u8 x.k, .int .u8 x.op, .int .i64 x.pos, .int .i64 x.n, .string x.name, .string x.arg, .string x.exn, .slice a len cap] 28)
  simpa using h
theorem enters_size1 : ∀ args w, (callFunc 99 args).run Tryz.prog w = .ok (.enter 99 args) w := enters_of Tryz.func99 (by kernel_rfl) rfl
set_option maxHeartbeats 400000 in
theorem term_size (l : List Tm) (w : World) (a : Option Addr) (len cap : Nat) (hs : Tm.sizes l ≤ 1000000) (h1 : len ≤ cap) (h2 : cap ≤ 9223372036854775807) (hl : IsTms w l a len) :
    Calls Tryz.prog 73 #[.slice a len cap] w fun e w' => e = .returned (.int .i64 (Tm.sizes l : Nat)) ∧ Ext w w' := by
  have x0 : Ext w (w.alloc (.cells #[.int .i64 0] 3)) := (Ext.refl _).alloc _
  have K := term_each1 (gSize w.heap.size) (fun n _ => (n + 1, true)) roomN (fun s t n h => by unfold roomN at *; omega) (fun s n m h1 h2 => by unfold roomN at *; omega) 99 (.pointer (some ⟨w.heap.size, 0, none⟩)) enters_size1 (size_steps _) _ l 0 _ a len cap (Nat.le_refl _)
    (show Blk (w.alloc (.cells #[.int .i64 0] 3)) w.heap.size 3 #[.int .i64 ((0 : Nat) : Int)] from Blk.new w _ _) (by unfold roomN; omega) h1 h2
    (hl.fresh x0 (A' := fun k => k = w.heap.size) fun k hk => by omega)
  rw [Tm.walks_fold, fold_count, Tm.alls_length] at K
  have HK := hid K
  clear K
  go_enter Tryz.func73, Tryz.ntmps73
  go_wp2_with (go_at_call 74; refine (HK.out).mono ?_; rintro e w1 ⟨rfl, r1, x1⟩; have q1 : w1.cell? ⟨w.heap.size, 0, none⟩ = some (.int .i64 (Tm.sizes l : Nat)) := (by have h := Blk.cell (show Blk w1 w.heap.size 3 _ from r1) 0; simpa using h))
  go_ret
  exact ⟨rfl, ExtX.ext x0 (oext_x (A := fun k => k = w.heap.size) x1) fun k hk => by omega⟩
end Go.Proofs.YtaioeailgknfjaaGreatDoor

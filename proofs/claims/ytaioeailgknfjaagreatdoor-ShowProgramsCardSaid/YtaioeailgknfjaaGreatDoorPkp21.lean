/- Part 21 of the proof: Parse15; no condition of ours. -/
import Derived.Test.YtaioeailgknfjaaGreatDoorPkp20
set_option linter.unusedVariables false
set_option linter.unusedSimpArgs false
namespace Go.Proofs.YtaioeailgknfjaaGreatDoor
open Go Go.RowKit Go.Sort
structure LaidE (pb z0 : Nat) (w w1 : World) (x : Hd) (ks : List Tm) (a : Option Addr) (n c : Nat) (l : List Tk) : Prop where
  z : Blk w1 z0 28 #[.int .u8 0, .int .u8 0, .int .i64 0, .int .i64 0, .string ⟨#[]⟩, .string ⟨#[]⟩, .string ⟨#[]⟩, .slice none 0 0]
  fits : x.Fits
  le : n ≤ c
  cap : c ≤ 9223372036854775807
  tms : IsTmsA (fun b => b ≤ z0) w1 ks a n
  prs : Prs w1 pb l
  ext : ExtX (· = pb) w w1
  lt : pb < z0
  up : w.heap.size ≤ z0
theorem LaidE.ret {pb z0 : Nat} {w w1 : World} {x : Hd} {ks : List Tm} {a : Option Addr} {n c : Nat} {l : List Tk} (h : LaidE pb z0 w w1 x ks a n c l) {fn : Func} {act : Act}
    (hr : ∀ w2 : World, w2.cell? ⟨z0, 0, none⟩ = some (.int .u8 x.k) → w2.cell? ⟨z0, 1, none⟩ = some (.int .u8 x.op) → w2.cell? ⟨z0, 2, none⟩ = some (.int .i64 x.pos) → w2.cell? ⟨z0, 3, none⟩ = some (.int .i64 x.n) → w2.cell? ⟨z0, 4, none⟩ = some (.string x.name) → w2.cell? ⟨z0, 5, none⟩ = some (.string x.arg) → w2.cell? ⟨z0, 6, none⟩ = some (.string x.exn) → w2.cell? ⟨z0, 7, none⟩ = some (.slice a n c) →
      (results fn act.tmps).run Tryz.prog w2 = .ok (.agg #[.int .u8 x.k, .int .u8 x.op, .int .i64 x.pos, .int .i64 x.n, .string x.name, .string x.arg, .string x.exn, .slice a n c]) w2) (hd : act.defers = []) :
    bodyPost Tryz.prog fn (RetP pb w (IsNew w.heap.size) (.ok (.mk x ks, l))) .ret act ((((((((w1.setCell ⟨z0, 0, none⟩ (.int .u8 x.k)).setCell ⟨z0, 1, none⟩ (.int .u8 x.op)).setCell ⟨z0, 2, none⟩ (.int .i64 x.pos)).setCell ⟨z0, 3, none⟩ (.int .i64 x.n)).setCell ⟨z0, 4, none⟩ (.string x.name)).setCell ⟨z0, 5, none⟩ (.string x.arg)).setCell ⟨z0, 6, none⟩ (.string x.exn)).setCell ⟨z0, 7, none⟩ (.slice a n c)) := by
  have hZ9 := h.z.lay8 (u0 := .int .u8 x.k) (u1 := .int .u8 x.op) (u2 := .int .i64 x.pos) (u3 := .int .i64 x.n) (u4 := .string x.name) (u5 := .string x.arg) (u6 := .string x.exn) (u7 := .slice a n c)
  have up := h.up
  refine ret8 hZ9 (fun ⟨r0, r1, r2, r3, r4, r5, r6, r7⟩ => hr _ r0 r1 r2 r3 r4 r5 r6 r7) hd ⟨h.ext.set8 (.inr up), _, rfl, ⟨a, n, c, rfl, h.fits, h.le, h.cap, ?_⟩, h.prs.set8 h.lt⟩
  exact (h.tms.set8 (Nat.le_refl _)).off fun b _ hb => (by have hb : b < w.heap.size := hb; show b ≤ z0; omega)
theorem andThen_assoc {α β γ : Type} (r : Option (Res α)) (k : α → List Tk → Option (Res β)) (k' : β → List Tk → Option (Res γ)) : andThen (andThen r k) k' = andThen r fun a l => andThen (k a l) k' := by
  cases r with
  | none => rfl
  | some x =>
    cases x with
    | error l => rfl
    | ok p => rfl
theorem row_new2 (w : World) (o o2 : Obj) (t : TypeId) (l : List Value) : IsRow (((w.alloc o).alloc o2).alloc (.cells l.toArray t)) l (some ⟨w.heap.size + 1 + 1, 0, none⟩) l.length := by
  have := IsRow.new ((w.alloc o).alloc o2) t l
  rw [World.size_alloc, World.size_alloc] at this
  exact this
end Go.Proofs.YtaioeailgknfjaaGreatDoor

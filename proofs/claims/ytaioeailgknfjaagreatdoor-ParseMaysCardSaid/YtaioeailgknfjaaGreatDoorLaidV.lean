/- The row's list of package-level variables: what it gives, and a world that meets it. The library's errors, as they stand in memory. The rows' lists of package-level variables, errors among them: what they give, and a world that meets them. -/
import Derived.Test.YtaioeailgknfjaaGreatDoorRows
import Derived.Test.YtaioeailgknfjaaGreatDoorWords
import Derived.Test.YtaioeailgknfjaaGreatDoorArgsW
import Derived.LaidSub
import Derived.Deep.DeepHandedRow
import Derived.Test.YtaioeailgknfjaaGreatDoorMem
import Derived.Test.YtaioeailgknfjaaGreatDoorProg
import Derived.Test.YtaioeailgknfjaaGreatDoorDigits
namespace Go.Proofs.YtaioeailgknfjaaGreatDoor
open Go Go.RowKit
open Go.ChangeShapes Go.WideShapes Go.ChangeAt

theorem ownKnob_none : ownKnob Tryz.prog.godebug = none := by kernel_rfl
theorem laidOut_yes : laidOutB Tryz.prog = true := by kernel_rfl
theorem knob_of {W : World} (h : W.ShapedOpen Tryz.prog) : Knob W :=
  Go.Proofs.cell_of_shapedOpen_int (zero := #[.int .i64 0]) (t := 3) h (of_decide_eq_true (by kernel_rfl)) (by kernel_rfl) rfl (by kernel_rfl) (by kernel_rfl) Tryz.underlying3

/-- A datum's cells. -/
def litCell : DataW Unit → Value
  | .lit (.int k n) => .int k n
  | _ => undef
def rowCells : DataW Unit → List Value
  | .agg l => l.map litCell
  | d => [litCell d]
/-- A listed table's cells. -/
def tabCells : DataW Unit → Array Value
  | .agg l => (l.flatMap rowCells).toArray
  | _ => #[]
/-- A block's cells anew. -/
def relay (h : Array Obj) (g : Nat) (cs : Array Value) : Array Obj := h.modify g fun
  | .cells _ t frozen => .cells cs t frozen
  | o => o
/-- A world for the witness: the settled one, the listed tables holding what the text lays. -/
noncomputable def laidWorld (os : Os) (args : Array Value) : World :=
  { World.holding Tryz.prog os ⟨#[], #[], []⟩ with heap := relay (relay (World.holding Tryz.prog os ⟨#[], #[], []⟩).heap 6 (tabCells Rows.laid_unicode_utf8_first)) 7 (tabCells Rows.laid_unicode_utf8_acceptRanges) }
end Go.Proofs.YtaioeailgknfjaaGreatDoor
namespace Go.Proofs.YtaioeailgknfjaaGreatDoor
open Go Go.RowKit Go.Sort

/-- The library's two errors, as they stand. -/
def Errs (w : World) : Prop := ∃ t p t' p', w.var? Tryz.prog "strconv.ErrSyntax" = some #[.iface t p] ∧ w.var? Tryz.prog "strconv.ErrRange" = some #[.iface t' p']
theorem var_ext {w w' : World} (hx : Ext w w') {s : String} {cs : Array Value} (h : w.var? Tryz.prog s = some cs) : w'.var? Tryz.prog s = some cs := by
  unfold World.var? at *
  cases hg : Program.globalNamed Tryz.prog s with
  | none => rw [hg] at h; simp at h
  | some g =>
    rw [hg] at h
    simp only [Option.bind_some] at h ⊢
    have hgl : g < w.heap.size := by
      rcases Nat.lt_or_ge g w.heap.size with hlt | hge
      · exact hlt
      · rw [Array.getElem?_eq_none hge] at h; simp at h
    rw [Below.block hx g hgl]
    exact h
theorem Errs.ext {w w' : World} (h : Errs w) (hx : Ext w w') : Errs w' := let ⟨t, p, t', p', h1, h2⟩ := h; ⟨t, p, t', p', var_ext hx h1, var_ext hx h2⟩

end Go.Proofs.YtaioeailgknfjaaGreatDoor
namespace Go.Proofs.YtaioeailgknfjaaGreatDoor
open Go Go.RowKit
open Go.ChangeShapes Go.WideShapes Go.ChangeAt

theorem gTab : Tryz.prog.globalNamed "internal/strconv.uint64pow10" = some 1 := by kernel_rfl
theorem gTabType : (Tryz.prog.globals[1]?).map (·.type) = some 164 := by kernel_rfl
theorem cellsTab : Tryz.prog.cellsOf 164 = 20 := by kernel_rfl
theorem cellsU64 : Tryz.prog.cellsOf 154 = 1 := by kernel_rfl
theorem tab_of {W : World} (h : laidMet Tryz.prog [("internal/strconv.uint64pow10", Rows.laid_internal_strconv_uint64pow10)] W) : Tab W :=
  Lib.tabIs_of_head (rest := []) gTab gTabType Tryz.underlying164 Tryz.underlying154 cellsU64 cellsTab h

theorem iface_of_trod {H : Type} {enc : TypeId × Value → H} {W : World} {base fuel : Nat} {sp : Nat → Bool} {held : Bool} {t : TypeId} {ms : Array (String × TypeId)} {cs : List Value} {name : String} {d : DataW H} {p : List MemPlace}
    (ht : Tryz.prog.underlying t = some (.interface ms)) (h : DataW.trod enc Tryz.prog W base sp held fuel t cs = some (.iface name d, p)) : ∃ u v, cs = [.iface u v] := by
  cases fuel with
  | zero => simp [DataW.trod] at h
  | succ fuel =>
    simp only [DataW.trod, ht] at h
    split at h <;> simp_all
theorem var_iface {W : World} {name tn : String} {g : Nat} {t : TypeId} {ms : Array (String × TypeId)} {d : DataW Unit} (hg : Tryz.prog.globalNamed name = some g) (hty : (Tryz.prog.globals[g]?).map (·.type) = some t) (ht : Tryz.prog.underlying t = some (.interface ms))
    (h : laidMet Tryz.prog [(name, .iface tn d)] W) : ∃ u v, W.var? Tryz.prog name = some #[.iface u v] := by
  obtain ⟨ps, ⟨g', t', cs, fuel, p, q, hg', ht', hvar, hd, _, _⟩, _⟩ := h
  obtain rfl := Option.some.inj (hg.symm.trans hg')
  obtain rfl := Option.some.inj (hty.symm.trans ht')
  obtain ⟨u, v, e⟩ := iface_of_trod ht hd
  refine ⟨u, v, ?_⟩
  rw [hvar, show cs = #[.iface u v] from Array.toList_inj.1 e]

/-- A world for the witness: the settled one, the listed variables holding what the text lays. -/
noncomputable def laidWorldN (os : Os) (args : Array Value) : World :=
  let h0 := (World.holding Tryz.prog os ⟨#[], #[], []⟩).heap
  let h1 := relay (relay (relay (relay (relay h0 6 (tabCells Rows.laid_unicode_utf8_first)) 7 (tabCells Rows.laid_unicode_utf8_acceptRanges)) 1 (tabCells Rows.laid_internal_strconv_uint64pow10)) 2 (tabCells Rows.laid_math_bits_deBruijn32tab)) 3 (tabCells Rows.laid_math_bits_deBruijn64tab)
  let h2 := relay (relay h1 5 #[.iface 189 (.pointer (some ⟨h0.size, 0, none⟩))]) 4 #[.iface 189 (.pointer (some ⟨h0.size + 1, 0, none⟩))]
  { World.holding Tryz.prog os ⟨#[], #[], []⟩ with heap := (h2.push (.cells #[.string ⟨#[118, 97, 108, 117, 101, 32, 111, 117, 116, 32, 111, 102, 32, 114, 97, 110, 103, 101]⟩] 191)).push (.cells #[.string ⟨#[105, 110, 118, 97, 108, 105, 100, 32, 115, 121, 110, 116, 97, 120]⟩] 191) }
end Go.Proofs.YtaioeailgknfjaaGreatDoor

/- The walks of package term: Kinds. -/
import Derived.Test.YtljpbikcpjocmaaDoorTerm1
import Derived.OwnWalk
namespace Go.Proofs.YtljpbikcpjocmaaDoor
open Go Go.RowKit Go.Sort

/-- A row of one-cell values that a slice owns is a row in memory. -/
theorem owns_row {w : World} {base : Nat} {e : TypeId} {n : Nat} {v : Value} {xs : List Value} (h : w.ownsRow base e 1 v n xs) : ∃ a cap, v = .slice a n cap ∧ n ≤ cap ∧ cap ≤ maxLen ∧ IsRow w xs a n := by
  have hl : xs.length = n := by have := h.1; omega
  rcases h.2 with ⟨rfl, rfl⟩ | ⟨g, cap, cur, rfl, hg, hh, h1, h2, h3, h4⟩
  · obtain rfl := List.eq_nil_of_length_eq_zero hl
    exact ⟨none, 0, rfl, Nat.le_refl _, by unfold maxLen; omega, IsRow.nil _ _⟩
  · refine ⟨_, cap, rfl, h1, h2, hl.symm, fun i u hu => ⟨g, 0, rfl, ?_⟩⟩
    have := h.cells (g := g) rfl i u hu
    simpa [Addr.add_lit] using this
theorem grown_set (w : World) (b i : Nat) (u : Value) : w.grownBy (w.setCell ⟨b, i, none⟩ u) (some b) :=
  ⟨rfl, rfl, rfl, by simp [World.setCell], fun k _ hk => Below.heap_setCell _ _ _ _ (fun e => hk (by simp at e; rw [e]))⟩

/-- A row of kinds, its slice in a block of its own. -/
def gKinds (b : Nat) : Gauge (List Int) where
  R := fun ks w => ∃ v, Blk w b 27 #[v] ∧ w.ownsRow 0 5 1 v ks.length (vby ks) ∧ v.ownBlock ≠ some b
  own := fun w k => k = b ∨ ∃ v, w.cell? ⟨b, 0, none⟩ = some v ∧ v.ownBlock = some k
  keep := fun _ w w' ⟨v, h1, h2, h3⟩ hx => ⟨⟨v, h1.ext hx, owns_ext hx h2, h3⟩, fun k hk => hk.imp id fun ⟨u, hu, hk⟩ => by
    have e1 := h1.cell 0
    have e2 := (h1.ext hx).cell 0
    rw [e2] at hu
    cases hu
    exact ⟨v, e1, hk⟩⟩
  lt := fun _ w k ⟨v, h1, h2, h3⟩ hk => by
    rcases hk with rfl | ⟨u, hu, hk⟩
    · exact h1.lt
    · rw [h1.cell 0] at hu
      cases hu
      exact (h2.lt k hk).2
def roomK (ks : List Int) (m : Nat) : Prop := ks.length + m ≤ 1000000
theorem infoU8 : (Tryd.prog.info? 5).map (fun i => (i.zero, i.size, i.bytes)) = some (some (.int .u8 0), 1, 1) := by kernel_rfl

/-- What one step of Kinds does to the memory. -/
theorem kinds_step {b : Nat} {ks : List Int} {k : Int} {w W2 w3 : World} {v v' : Value} (h1 : Blk w b 27 #[v]) (h2 : w.ownsRow 0 5 1 v ks.length (vby ks)) (h3 : v.ownBlock ≠ some b) (hx : Ext w W2) (hsz : w.heap.size < W2.heap.size)
    (ho : w3.ownsRow 0 5 1 v' (ks.length + 1) (vby ks ++ [.int .u8 k])) (hg : W2.grownBy w3 v.ownBlock) (hw : v'.ownBlock = v.ownBlock ∨ ∀ k, v'.ownBlock = some k → W2.heap.size ≤ k) :
    Blk w3 b 27 #[v] ∧ (gKinds b).R (ks ++ [k]) (w3.setCell ⟨b, 0, none⟩ v') ∧ OExt (gKinds b).own w (w3.setCell ⟨b, 0, none⟩ v') := by
  have hB2 := h1.ext hx
  have hB3 : Blk w3 b 27 #[v] := (hg.block b hB2.lt (fun e => h3 e.symm)).trans hB2
  have hv' : v'.ownBlock ≠ some b := by
    rcases hw with hw | hw
    · rw [hw]; exact h3
    · intro e; have := hw b e; have := h1.lt; omega
  refine ⟨hB3, ⟨v', by simpa using hB3.set_ 0 v', ?_, hv'⟩, ?_⟩
  · have := ho.kept (grown_set w3 b 0 v') (.inr hv')
    simpa [vby] using this
  · refine ⟨hg.os.trans (Below.os hx), hg.tape.trans (Below.tape hx), hg.output.trans (Below.output hx), by simpa [World.setCell] using Nat.le_trans hx.size hg.size, fun i hi hno => ?_⟩
    have hib : i ≠ b := fun e => hno (.inl e)
    have hiv : v.ownBlock ≠ some i := fun e => hno (.inr ⟨v, h1.cell 0, e⟩)
    refine ⟨?_, ?_⟩
    · rw [Below.heap_setCell _ _ _ _ (fun e => hib e), hg.block i (Nat.lt_of_lt_of_le hi hx.size) (fun e => hiv e.symm), Below.block hx i hi]
    · rintro (e | ⟨u, hu, hk⟩)
      · exact hib e
      · have hc := (hB3.set_ 0 v').cell 0
        simp at hc
        rw [hc] at hu
        cases hu
        rcases hw with hw | hw
        · exact hiv (hw ▸ hk)
        · have := hw i hk; have := hx.size; omega

set_option maxRecDepth 8000 in
set_option maxHeartbeats 1000000 in
theorem kinds_steps (b : Nat) : Steps1 (gKinds b) (fun ks t => (ks ++ [t.head.k], true)) roomK 50 (.pointer (some ⟨b, 0, none⟩)) := by
  intro ks w x l a len cap hR hr hf h1 h2 hl
  obtain ⟨v, hB, ho, hv⟩ := hR
  have hn : ks.length + 1 ≤ 1000000 := hr
  have hbl := hB.lt
  have c0 := hB.cell 0
  have HB := Lib.hid hB
  have HO := Lib.hid ho
  have HV := Lib.hid hv
  obtain ⟨i0, hi, hz0, hz1, hz2⟩ := info_parts infoU8
  have HI := Lib.hid (And.intro hi (And.intro hz0 (And.intro hz1 hz2)))
  clear hB ho hv hl hf hr hi hz0 hz1 hz2
  go_enter Tryd.func50, Tryd.ntmps50
  have x2 : Ext w ((w.alloc (.cells #[.int .u8 x.k, .int .u8 x.op, .int .i64 x.pos, .int .i64 x.n, .string x.name, .string x.arg, .string x.exn, .slice a len cap] 34)).alloc (.cells #[.int .u8 x.k] 5)) := ((Ext.refl _).alloc _).alloc _
  go_wp2_with (at_builtin; refine wpList_append_mine rfl (.tmp 4) (.tmp 8) 27 rfl 0 5 i0 (.int .u8 0) 1 1 Tryd.underlying27 HI.out.1 HI.out.2.1 HI.out.2.2.1 HI.out.2.2.2 rfl (by decide) v ks.length (vby ks) rfl (owns_ext x2 HO.out) ⟨w.heap.size + 1, 0, none⟩ 1 1 [.int .u8 x.k] rfl rfl ?c1 ?c2 ?c3 ?c4 ?c5 ?_)
  case c1 =>
    intro j u hu
    cases j with
    | zero => simp at hu; subst hu; simp [go_sem]
    | succ j => simp at hu
  case c2 => intro u hu; simp at hu; subst hu; rfl
  case c3 => unfold maxLen; omega
  case c4 => omega
  case c5 => omega
  · intro v' w3 ho' hg hw
    obtain ⟨hB3, hR', hO'⟩ := kinds_step HB.out HO.out HV.out x2 (by simp; omega) ho' hg (by rw [World.size_alloc, World.size_alloc]; exact hw)
    have f0 := hB3.frozen 0
    have q0 := hB3.cell 0
    have hb3 := hB3.lt
    have HR' := Lib.hid hR'
    have HO' := Lib.hid hO'
    obtain ⟨a', c', rfl, _, _, _⟩ := owns_row ho'
    clear hB3 hR' hO' ho' hg hw
    go_wp2_with fail
    go_ret
    exact ⟨rfl, HR'.out, HO'.out⟩

theorem enters_kinds1 : ∀ args w, (callFunc 50 args).run Tryd.prog w = .ok (.enter 50 args) w := enters_of Tryd.func50 (by kernel_rfl) rfl
set_option maxHeartbeats 400000 in
theorem term_kinds (l : List Tm) (w : World) (a : Option Addr) (len cap : Nat) (hs : Tm.sizes l ≤ 1000000) (h1 : len ≤ cap) (h2 : cap ≤ 9223372036854775807) (hl : IsTms w l a len) :
    Calls Tryd.prog 28 #[.slice a len cap] w fun e w' => ∃ b c, e = .returned (.slice b (Tm.sizes l) c) ∧ Tm.sizes l ≤ c ∧ c ≤ 9223372036854775807 ∧ IsRow w' (vby ((Tm.alls l).map fun t => t.head.k)) b (Tm.sizes l) ∧ Ext w w' := by
  have x0 : Ext w (w.alloc (.cells #[.slice none 0 0] 27)) := (Ext.refl _).alloc _
  have hB0 : Blk (w.alloc (.cells #[.slice none 0 0] 27)) w.heap.size 27 #[.slice none 0 0] := Blk.new w _ _
  have hno : ∀ k, (gKinds w.heap.size).own (w.alloc (.cells #[.slice none 0 0] 27)) k → w.heap.size ≤ k := by
    intro k hk
    rcases hk with rfl | ⟨v, hv, hk⟩
    · exact Nat.le_refl _
    · have e := hB0.cell 0
      rw [e] at hv
      cases hv
      cases hk
  have K := term_each1 (gKinds w.heap.size) (fun ks t => (ks ++ [t.head.k], true)) roomK (fun s t n h => by unfold roomK at *; simp; omega) (fun s n m h1 h2 => by unfold roomK at *; omega) 50 (.pointer (some ⟨w.heap.size, 0, none⟩)) enters_kinds1 (kinds_steps _) _ l [] _ a len cap (Nat.le_refl _)
    ⟨.slice none 0 0, hB0, World.ownsRow_nil _ _ _ _, fun e => by cases e⟩ (by unfold roomK; simp; omega) h1 h2 (hl.fresh x0 hno)
  rw [Tm.walks_fold (fun ks t => ks ++ [t.head.k]), fold_map (α := Tm) (β := Int) (fun t => t.head.k), List.nil_append] at K
  have hlen : ((Tm.alls l).map fun t => t.head.k).length = Tm.sizes l := by rw [List.length_map, Tm.alls_length]
  have HLEN := Lib.hid hlen
  have HK := Lib.hid K
  have HNO := Lib.hid hno
  clear K hlen hB0 hno
  generalize (Tm.alls l).map (fun t => t.head.k) = ks at *
  generalize Tm.sizes l = sz at *
  go_enter Tryd.func28, Tryd.ntmps28
  go_wp2_with (go_at_call 46; refine (HK.out).mono ?_; rintro e w1 ⟨rfl, r1, x1⟩; obtain ⟨v, hB, ho, hv⟩ := r1; have q0 := hB.cell 0)
  have hx : Ext w w1 := ⟨x1.os.trans (Below.os x0), x1.tape.trans (Below.tape x0), x1.output.trans (Below.output x0), Nat.le_trans x0.size x1.size, fun k hk =>
    (x1.block k (Nat.lt_of_lt_of_le hk x0.size) (fun h => by have := HNO.out k h; omega)).1.trans (Below.block x0 k hk)⟩
  obtain ⟨b, c, rfl, g1, g2, g3⟩ := owns_row ho
  rw [HLEN.out] at g1 g3
  simp only [HLEN.out]
  go_ret
  exact ⟨b, c, rfl, g1, g2, g3, hx⟩
end Go.Proofs.YtljpbikcpjocmaaDoor

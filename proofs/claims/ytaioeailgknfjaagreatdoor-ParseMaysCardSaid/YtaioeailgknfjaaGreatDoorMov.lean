/- Terms that are laid anew, one by one: the memory. No program in sight. -/
import Derived.Test.YtaioeailgknfjaaGreatDoorMemT
import Derived.Test.YtaioeailgknfjaaGreatDoorAppend
import Derived.Test.YtaioeailgknfjaaGreatDoorHeld
namespace Go.Proofs.YtaioeailgknfjaaGreatDoor
open Go Go.RowKit Go.Sort

/-- Terms' cells, one behind the other; their kids in memory, in none of the blocks A. -/
def FlatA (A : Nat → Prop) (w : World) : List Tm → List Value → Prop
  | [], xs => xs = []
  | t :: l, xs => ∃ a len cap rest, xs = (tcells t.head a len cap).toList ++ rest ∧ t.head.Fits ∧ len ≤ cap ∧ cap ≤ maxLen ∧ IsTmsA A w t.kids a len ∧ FlatA A w l rest
theorem FlatA.append {A : Nat → Prop} {w : World} {l l' : List Tm} {xs ys : List Value} (h : FlatA A w l xs) (h' : FlatA A w l' ys) : FlatA A w (l ++ l') (xs ++ ys) := by
  induction l generalizing xs with
  | nil => simp only [FlatA] at h; subst h; simpa using h'
  | cons t l ih =>
    simp only [FlatA, List.cons_append] at h ⊢
    obtain ⟨a, len, cap, rest, rfl, hf, h1, h2, hk, hr⟩ := h
    exact ⟨a, len, cap, rest ++ ys, by simp, hf, h1, h2, hk, ih hr⟩
theorem FlatA.move {A A' : Nat → Prop} {w w' : World} (hA : ∀ b, b < w.heap.size → A' b → A b) (hc : ∀ p v, ¬ A p.block → w.cell? p = some v → w'.cell? p = some v) {l : List Tm} {xs : List Value} (h : FlatA A w l xs) : FlatA A' w' l xs := by
  induction l generalizing xs with
  | nil => simpa only [FlatA] using h
  | cons t l ih =>
    simp only [FlatA] at h ⊢
    obtain ⟨a, len, cap, rest, rfl, hf, h1, h2, hk, hr⟩ := h
    exact ⟨a, len, cap, rest, rfl, hf, h1, h2, hk.move hA hc, ih hr⟩
/-- Such cells in memory are a row of terms. -/
theorem FlatA.tms {A A' : Nat → Prop} {w : World} {l : List Tm} {xs : List Value} (h : FlatA A w l xs) (hA : ∀ b, A' b → A b) (b o : Nat) (hb : ¬ A' b) (hc : ∀ (j : Nat) u, xs[j]? = some u → w.cell? ⟨b, o + j, none⟩ = some u) : IsTmsA A' w l (some ⟨b, o, none⟩) l.length := by
  induction l generalizing xs o with
  | nil => exact IsTmsA.nil _
  | cons t l ih =>
    simp only [FlatA] at h
    obtain ⟨a, len, cap, rest, rfl, hf, h1, h2, hk, hr⟩ := h
    obtain ⟨x, k⟩ := t
    have hrest := ih hr (o + 8) fun j u hu => by
      have := hc (8 + j) u (by
        rw [List.getElem?_append_right (by simp [tcells])]
        simpa [tcells] using hu)
      rw [show o + 8 + j = o + (8 + j) from by omega]
      exact this
    unfold IsTmsA
    refine ⟨by simp, b, o, rfl, hb, ?_, by simpa using hrest⟩
    simp only [TmAt]
    exact ⟨⟨hc 0 _ rfl, hc 1 _ rfl, hc 2 _ rfl, hc 3 _ rfl, hc 4 _ rfl, hc 5 _ rfl, hc 6 _ rfl⟩, hf, a, len, cap, hc 7 _ rfl, h1, h2, hk.off fun b _ h => hA b h⟩
theorem FlatA.length {A : Nat → Prop} {w : World} {l : List Tm} {xs : List Value} (h : FlatA A w l xs) : xs.length = l.length * 8 := by
  induction l generalizing xs with
  | nil => simp only [FlatA] at h; subst h; rfl
  | cons t l ih =>
    simp only [FlatA] at h
    obtain ⟨a, len, cap, rest, rfl, hf, h1, h2, hk, hr⟩ := h
    rw [List.length_append, ih hr]
    simp [tcells]
    omega

/-- What the kids of a term that is being laid must not lie in. -/
def Avoid (s : Nat) (v : Value) : Nat → Prop := fun b => b < s + 3 ∨ v.ownBlock = some b
/-- A term is being laid: its head and its kids' slice in a block, its kids in a row of their own. -/
def Mov (E : TypeId) (s : Nat) (h : Hd) (ms : List Tm) (a : Option Addr) (c : Nat) (xs : List Value) (wr : World) : Prop :=
  Blk wr (s + 2) E (tcells h a ms.length c) ∧ wr.ownsRow (s + 3) E 8 (.slice a ms.length c) ms.length xs ∧ FlatA (Avoid s (.slice a ms.length c)) wr ms xs ∧ ms.length ≤ c ∧ c ≤ maxLen

theorem extx_grown {A : Nat → Prop} {w0 w w' : World} {row : Option Nat} (h0 : Ext w0 w) (h : w.grownBy w' row) (hA : ∀ k, row = some k → A k) : ExtX A w0 w' :=
  ⟨h.os.trans (Below.os h0), h.tape.trans (Below.tape h0), h.output.trans (Below.output h0), Nat.le_trans h0.size h.size, fun k hk ha =>
    (h.block k (Nat.lt_of_lt_of_le hk h0.size) (fun e => ha (hA k e.symm))).trans (Below.block h0 k hk)⟩

/-- One more kid. -/
theorem mov_step {E : TypeId} {s : Nat} {h : Hd} {ms : List Tm} {a : Option Addr} {c : Nat} {xs : List Value} {wr W1 W2 W3 w5 : World} {y : Hd} {k : List Tm} {ak : Option Addr} {lk ck : Nat} {v' : Value}
    (hM : Mov E s h ms a c xs wr) (hx1 : Ext wr W1) (hx2 : Ext W1 W2) (hx3 : Ext W2 W3)
    (hk : IsTmsA (fun b => b < W1.heap.size) W2 k ak lk) (h1 : lk ≤ ck) (h2 : ck ≤ 9223372036854775807) (hf : y.Fits)
    (ho : w5.ownsRow (s + 3) E 8 v' (ms.length + 1) (xs ++ (tcells y ak lk ck).toList)) (hg : W3.grownBy w5 (Value.slice a ms.length c).ownBlock)
    (hw : v'.ownBlock = (Value.slice a ms.length c).ownBlock ∨ ∀ k, v'.ownBlock = some k → W3.heap.size ≤ k) :
    ∃ g5 c5, v' = .slice (some ⟨g5, 0, none⟩) (ms.length + 1) c5 ∧ Blk w5 (s + 2) E (tcells h a ms.length c) ∧ Mov E s h (ms ++ [.mk y k]) (some ⟨g5, 0, none⟩) c5 (xs ++ (tcells y ak lk ck).toList) (w5.setCell ⟨s + 2, 7, none⟩ v') := by
  obtain ⟨hB, hO, hF, hc1, hc2⟩ := hM
  obtain ⟨g5, c5, rfl, hg5, hl5, hn5, hm5, hcells⟩ := owns_open ho (by omega)
  have hx13 := (hx1.trans hx2).trans hx3
  have hrow : ∀ k, (Value.slice a ms.length c).ownBlock = some k → s + 3 ≤ k ∧ k < wr.heap.size := fun k hk => hO.lt k hk
  have hB3 := hB.ext hx13
  have hB5 : Blk w5 (s + 2) E (tcells h a ms.length c) := (hg.block (s + 2) hB3.lt (fun e => by have := hrow _ e.symm; omega)).trans hB3
  refine ⟨g5, c5, rfl, hB5, ?_⟩
  have hBs := hB5.set_ 7 (.slice (some ⟨g5, 0, none⟩) (ms.length + 1) c5)
  have hlen : (ms ++ [Tm.mk y k]).length = ms.length + 1 := by simp
  have hw' : g5 = g5 := rfl
  have hwhere : (Value.slice a ms.length c).ownBlock = some g5 ∨ W3.heap.size ≤ g5 := by
    rcases hw with hw | hw
    · exact .inl hw.symm
    · exact .inr (hw g5 rfl)
  have hcellkeep : ∀ (p : Addr) (u : Value), p.block ≠ s + 2 → (Value.slice a ms.length c).ownBlock ≠ some p.block → W3.cell? p = some u → (w5.setCell ⟨s + 2, 7, none⟩ (.slice (some ⟨g5, 0, none⟩) (ms.length + 1) c5)).cell? p = some u := by
    intro p u hp hr hu
    have h5 := hg.cell hu (fun e => hr e.symm)
    exact (World.cell?_setCell_other _ _ _ _ (fun e => hp (by subst e; rfl))).trans h5
  refine ⟨?_, ?_, ?_, ?_, ?_⟩
  · rw [hlen]
    have e : (tcells h a ms.length c).setIfInBounds 7 (.slice (some ⟨g5, 0, none⟩) (ms.length + 1) c5) = tcells h (some ⟨g5, 0, none⟩) (ms.length + 1) c5 := by simp [tcells]
    rw [e] at hBs
    exact hBs
  · rw [hlen]
    exact ho.kept ⟨rfl, rfl, rfl, by simp [World.setCell], fun k _ hk => Below.heap_setCell _ _ _ _ (fun e => hk (by simp at e; rw [e]))⟩ (.inr (by
      show some g5 ≠ some (s + 2)
      intro e
      have := Option.some.inj e
      omega))
  · rw [hlen]
    refine FlatA.append (hF.move ?_ ?_) ?_
    · rintro b hb (hb' | hb')
      · exact .inl hb'
      · have hb' : g5 = b := Option.some.inj hb'
        rcases hwhere with hr | hr
        · exact .inr (by rw [hr, hb'])
        · have := hx13.size; omega
    · intro p u hA hu
      have hA : ¬ (p.block < s + 3 ∨ (Value.slice a ms.length c).ownBlock = some p.block) := hA
      exact hcellkeep p u (fun e => hA (.inl (by omega))) (fun e => hA (.inr e)) (hx13.cell hu)
    · refine ⟨ak, lk, ck, [], by simp [Tm.head], hf, h1, h2, ?_, rfl⟩
      refine hk.move ?_ ?_
      · rintro b hb (hb' | hb')
        · have := hB.lt; have := hx1.size; omega
        · have hb' : g5 = b := Option.some.inj hb'
          rcases hwhere with hr | hr
          · have := hrow g5 hr; have := hx1.size; omega
          · have := hx3.size; omega
      · intro p u hA hu
        have hlt := hB.lt
        have hs1 := hx1.size
        exact hcellkeep p u (fun e => hA (show p.block < W1.heap.size by omega)) (fun e => hA (show p.block < W1.heap.size by have := hrow _ e; omega)) (hx3.cell hu)
  · rw [hlen]; exact hn5
  · exact hm5
end Go.Proofs.YtaioeailgknfjaaGreatDoor

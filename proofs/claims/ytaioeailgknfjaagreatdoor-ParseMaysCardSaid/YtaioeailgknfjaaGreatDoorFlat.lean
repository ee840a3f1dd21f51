/- Rows of aggregates of one-cell fields in memory: tokens, ends. No program in sight. -/
import Derived.Test.YtaioeailgknfjaaGreatDoorAppend
import Derived.Test.YtaioeailgknfjaaGreatDoorRowMem
import Derived.OwnWalk
namespace Go.Proofs.YtaioeailgknfjaaGreatDoor
open Go Go.RowKit Go.Sort

/-- A row of aggregates, k cells each. -/
def IsFlat (w : World) (k : Nat) (l : List (List Value)) (a : Option Addr) (len : Nat) : Prop :=
  len = l.length ∧ (∀ cs ∈ l, cs.length = k) ∧ ∀ (i : Nat) cs, l[i]? = some cs → ∃ b o, a = some ⟨b, o, none⟩ ∧ ∀ (j : Nat) v, cs[j]? = some v → w.cell? ⟨b, o + i * k + j, none⟩ = some v
theorem IsFlat.ext {w w' : World} (hx : Ext w w') {k : Nat} {l : List (List Value)} {a : Option Addr} {len : Nat} (h : IsFlat w k l a len) : IsFlat w' k l a len :=
  ⟨h.1, h.2.1, fun i cs hi => let ⟨b, o, e, q⟩ := h.2.2 i cs hi; ⟨b, o, e, fun j v hj => hx.cell (q j v hj)⟩⟩
theorem IsFlat.nil (w : World) (k : Nat) (a : Option Addr) : IsFlat w k [] a 0 := ⟨rfl, by simp, fun i v h => by simp at h⟩
theorem IsFlat.at_ {w : World} {k : Nat} {l : List (List Value)} {a : Option Addr} {len : Nat} (h : IsFlat w k l a len) {i : Nat} {cs : List Value} (hi : l[i]? = some cs) :
    ∃ b o, a = some ⟨b, o, none⟩ ∧ ∀ (j : Nat) v, cs[j]? = some v → w.cell? ⟨b, o + i * k + j, none⟩ = some v := h.2.2 i cs hi
theorem flatten_at {k : Nat} (l : List (List Value)) (hl : ∀ cs ∈ l, cs.length = k) (i j : Nat) (hj : j < k) : (l.flatten)[i * k + j]? = (l[i]?).bind fun cs => cs[j]? := by
  induction l generalizing i with
  | nil => simp
  | cons c l ih =>
    have hc := hl c (by simp)
    rw [List.flatten_cons]
    cases i with
    | zero =>
      rw [List.getElem?_append_left (by omega)]
      simp
    | succ i =>
      rw [List.getElem?_append_right (by rw [hc, Nat.succ_mul]; omega), hc, show (i + 1) * k + j - k = i * k + j from by rw [Nat.succ_mul]; omega, ih (fun cs h => hl cs (by simp [h]))]
      simp
theorem flatten_length {k : Nat} (l : List (List Value)) (hl : ∀ cs ∈ l, cs.length = k) : l.flatten.length = l.length * k := by
  induction l with
  | nil => simp
  | cons c l ih =>
    rw [List.flatten_cons, List.length_append, hl c (by simp), ih (fun cs h => hl cs (by simp [h])), List.length_cons, Nat.succ_mul]
    omega
/-- A row that a slice owns is one in memory. -/
theorem owns_flat {w : World} {base : Nat} {e : TypeId} {k n : Nat} {v : Value} {l : List (List Value)} (h : w.ownsRow base e k v n l.flatten) (hk : 0 < k) (hl : ∀ cs ∈ l, cs.length = k) :
    ∃ a cap, v = .slice a n cap ∧ n ≤ cap ∧ cap ≤ 9223372036854775807 ∧ IsFlat w k l a n := by
  have hn : n = l.length := by
    have h1 := h.1
    rw [flatten_length l hl] at h1
    exact (Nat.eq_of_mul_eq_mul_right hk h1).symm
  rcases h.2 with ⟨rfl, e0⟩ | ⟨g, cap, cur, rfl, hg, hh, h1, h2, h3, h4⟩
  · subst e0
    have : l = [] := List.eq_nil_of_length_eq_zero hn.symm
    subst this
    exact ⟨none, 0, rfl, Nat.le_refl _, by omega, IsFlat.nil _ _ _⟩
  · refine ⟨_, cap, rfl, h1, h2, hn, hl, fun i cs hi => ⟨g, 0, rfl, fun j u hu => ?_⟩⟩
    have hj : j < k := by
      have := hl cs (List.mem_of_getElem? hi)
      rcases Nat.lt_or_ge j cs.length with hh | hh
      · omega
      · rw [List.getElem?_eq_none hh] at hu; cases hu
    have := h.cells (g := g) rfl (i * k + j) u (by rw [flatten_at l hl i j hj, hi]; exact hu)
    simpa [Addr.add_lit, Nat.add_assoc] using this
/-- A block that was just made, with aggregates in it. -/
theorem IsFlat.new (w : World) (t : TypeId) (k : Nat) (l : List (List Value)) (hl : ∀ cs ∈ l, cs.length = k) : IsFlat (w.alloc (.cells l.flatten.toArray t)) k l (some ⟨w.heap.size, 0, none⟩) l.length := by
  refine ⟨rfl, hl, fun i cs hi => ⟨_, 0, rfl, fun j v hj => ?_⟩⟩
  have hjk : j < k := by
    have := hl cs (List.mem_of_getElem? hi)
    rcases Nat.lt_or_ge j cs.length with hh | hh
    · omega
    · rw [List.getElem?_eq_none hh] at hj; cases hj
  rw [World.cell?_alloc_new]
  have := flatten_at l hl i j hjk
  rw [hi] at this
  simpa using this.trans hj
end Go.Proofs.YtaioeailgknfjaaGreatDoor

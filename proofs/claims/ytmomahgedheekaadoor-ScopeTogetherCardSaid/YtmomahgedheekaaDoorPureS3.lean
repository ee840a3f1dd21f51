/- Free names, one kid after the other; how many there are. In plain Lean; no program in sight. -/
import Derived.Test.YtmomahgedheekaaDoorPureS2
namespace Go.Proofs.YtmomahgedheekaaDoor
open Go

theorem Tm.occs_succ (h : Hd) (bd : List ByteArray) (l : List Tm) (k i : Nat) (t : Tm) (g : l[i]? = some t) : Tm.occs h k (l.take (i + 1)) bd = Tm.occs h k (l.take i) bd ++ t.occ (bound h (k + i) bd) := by
  induction l generalizing i k with
  | nil => simp at g
  | cons x l ih =>
    cases i with
    | zero =>
      simp at g
      subst g
      simp [Tm.occs]
    | succ i =>
      simp only [List.take_succ_cons, Tm.occs, List.append_assoc]
      rw [ih (k + 1) i (by simpa using g), show k + 1 + i = k + (i + 1) from by omega]
theorem put_length (o : List ByteArray) (x : ByteArray) : (put o x).length ≤ o.length + 1 := by
  unfold put
  split
  · omega
  · simp
theorem puts_length (l : List ByteArray) : ∀ o, (puts o l).length ≤ o.length + l.length := by
  induction l with
  | nil => intro o; simp [puts_nil]
  | cons x l ih =>
    intro o
    have h1 := ih (put o x)
    have h2 := put_length o x
    rw [puts_cons]
    simp only [List.length_cons]
    omega
theorem Tm.occP_length (p : List ByteArray → Hd → Bool) (tx : Hd → ByteArray) (t : Tm) : ∀ bd, (t.occP p tx bd).length ≤ t.size := by
  induction t using Tm.ind with
  | h x l ih =>
    intro bd
    simp only [Tm.occP, Tm.size, List.length_append]
    have h1 : (if p bd x then [tx x] else []).length ≤ 1 := by split <;> simp
    have h2 : ∀ k, (Tm.occPs p tx x k l bd).length ≤ Tm.sizes l := by
      induction l with
      | nil => intro k; simp [Tm.occPs]
      | cons t l ihl =>
        intro k
        have h3 := ih t (by simp) (bound x k bd)
        have h4 := ihl (fun t ht => ih t (by simp [ht])) (k + 1)
        simp only [Tm.occPs, Tm.sizes, List.length_append]
        omega
    have := h2 0
    omega
theorem Tm.occ_length (t : Tm) (bd : List ByteArray) : (t.occ bd).length ≤ t.size := by
  rw [Tm.occ_P]
  exact Tm.occP_length _ _ t bd
theorem Tm.occs_length (x : Hd) (l : List Tm) (bd : List ByteArray) : ∀ k, (Tm.occs x k l bd).length ≤ Tm.sizes l := by
  induction l with
  | nil => intro k; simp [Tm.occs]
  | cons t l ih =>
    intro k
    have h3 := t.occ_length (bound x k bd)
    have h4 := ih (k + 1)
    simp only [Tm.occs, Tm.sizes, List.length_append]
    omega
theorem bound_length (h : Hd) (i : Nat) (bd : List ByteArray) : (bound h i bd).length ≤ bd.length + 2 := by
  unfold bound
  split
  · simp
  · split
    · simp
    · split <;> simp
theorem Tm.nwalk_room {σ : Type} (f : σ → List ByteArray → Tm → σ × Bool) (room : σ → Nat → Prop) (hroom : ∀ s bd t n, room s (n + 1) → room (f s bd t).1 n) (hless : ∀ s n m, m ≤ n → room s n → room s m) (t : Tm) : ∀ (bd : List ByteArray) (s : σ) (n : Nat), room s (t.size + n) → room (t.nwalk f bd s).1 n := by
  induction t using Tm.ind with
  | h x l ih =>
    intro bd s n h
    simp only [Tm.nwalk, Tm.size] at h ⊢
    have h1 : room (f s bd (.mk x l)).1 (Tm.sizes l + n) := hroom _ _ _ _ (by rw [show Tm.sizes l + n + 1 = 1 + Tm.sizes l + n from by omega]; exact h)
    split
    · have key : ∀ (l' : List Tm), (∀ t, t ∈ l' → ∀ (bd : List ByteArray) (s : σ) (n : Nat), room s (t.size + n) → room (t.nwalk f bd s).1 n) → ∀ k s n, room s (Tm.sizes l' + n) → room (Tm.nwalks f x k l' bd s).1 n := by
        intro l'
        induction l' with
        | nil => intro _ k s n h; simpa [Tm.nwalks, Tm.sizes] using h
        | cons t l' ihl =>
          intro ht k s n h
          simp only [Tm.nwalks, Tm.sizes] at h ⊢
          have h2 := ht t (by simp) (bound x k bd) s (Tm.sizes l' + n) (by rw [← Nat.add_assoc]; exact h)
          split
          · exact ihl (fun t h => ht t (by simp [h])) _ _ _ h2
          · exact hless _ _ _ (by omega) h2
      exact key l ih _ _ _ h1
    · exact hless _ _ _ (by omega) h1

theorem flat_succ {α β : Type} (f : α → List β) (l : List α) (i : Nat) (t : α) (g : l[i]? = some t) : (l.take (i + 1)).flatMap f = (l.take i).flatMap f ++ f t := by
  rw [List.take_add_one, g]
  simp
/-- What is gathered of terms. -/
def gathered (p : List ByteArray → Hd → Bool) (tx : Hd → ByteArray) (l : List Tm) : List ByteArray := puts [] (l.flatMap fun t => t.occP p tx [])
theorem frees_gathered (l : List Tm) : Tm.frees l = gathered isFree Hd.name l := by
  unfold Tm.frees gathered
  congr 2
  funext t
  exact t.occ_P []
theorem exns_gathered (l : List Tm) : Tm.exns l = gathered names_ Hd.exn l := by
  unfold Tm.exns gathered
  congr 2
  funext t
  exact (t.occ_exns []).symm
theorem gathered_length (p : List ByteArray → Hd → Bool) (tx : Hd → ByteArray) (l : List Tm) : (gathered p tx l).length ≤ Tm.sizes l := by
  have h := puts_length (l.flatMap fun t => t.occP p tx []) []
  have h2 : (l.flatMap fun t => t.occP p tx []).length ≤ Tm.sizes l := by
    induction l with
    | nil => simp [Tm.sizes]
    | cons t l ih =>
      have := ih (puts_length _ _)
      have := t.occP_length p tx []
      simp only [List.flatMap_cons, List.length_append, Tm.sizes]
      omega
  unfold gathered
  simp only [List.length_nil] at h
  omega
theorem exnsOf_length (l : List Tm) : (exnsOf l).length ≤ l.length := by
  unfold exnsOf
  rw [List.length_map]
  exact List.length_filter_le _ _
/-- Free, or the exceptions, if all terms may be. -/
def freesR (l : List Tm) : List ByteArray := if l.all Tm.may then Tm.frees l else []
def exnsR (l : List Tm) : List ByteArray := if l.all Tm.may then Tm.exns l else []
/-- Two rows of the same texts. -/
def sameB (a b : List ByteArray) : Bool := decide (a = b)
end Go.Proofs.YtmomahgedheekaaDoor

/- Words, in plain Lean. -/
import Derived.Test.YtaioeailgknfjaaGreatDoorBytes
import Derived.Test.YtaioeailgknfjaaGreatDoorFind
import Derived.Lib.Bytealg
namespace Go.Proofs.YtaioeailgknfjaaGreatDoor
open Go

def signs : List Int := [40, 41, 44, 33, 58, 61, 62, 43, 45, 42, 60, 59]
/-- A byte's class. -/
def cls (c : Int) : Int :=
  if c = 32 ∨ c = 9 ∨ c = 10 then 1 else if 48 ≤ c ∧ c ≤ 57 then 2 else if 97 ≤ c ∧ c ≤ 122 then 3 else if 65 ≤ c ∧ c ≤ 90 then 4 else if c ∈ signs then 5 else 0
/-- A string's bytes as numbers. -/
def il (s : ByteArray) : List Int := s.data.toList.map fun b => (b.toNat : Int)
theorem il_length (s : ByteArray) : (il s).length = s.size := by rw [il, List.length_map, Array.length_toList]; rfl
theorem il_bound (s : ByteArray) {c : Int} (h : c ∈ il s) : 0 ≤ c ∧ c ≤ 255 := by
  simp only [il, List.mem_map] at h
  obtain ⟨b, _, rfl⟩ := h
  have := b.toNat_lt
  omega
theorem cls_bound (c : Int) : 0 ≤ cls c ∧ cls c ≤ 5 := by unfold cls; repeat' split <;> try omega
/-- Letters and digits. -/
def inner (c : Int) : Bool := decide (2 ≤ cls c) && decide (cls c ≤ 4)
/-- A text that begins with a byte of a class, and goes on with letters and digits. -/
def shapely (l : List Int) (f : Int) : Bool :=
  match l with
  | [] => false
  | c :: _ => decide (l.length ≤ 16) && (cls c == f) && l.all inner
theorem il_at (s : ByteArray) {i : Nat} (h : i < s.size) : (il s)[i]? = some ((s[i].toNat : Nat) : Int) := by
  have h' : i < s.data.toList.length := by rw [Array.length_toList]; exact h
  rw [il, List.getElem?_map, List.getElem?_eq_getElem h']
  rfl
theorem byte_bound (b : UInt8) : 0 ≤ ((b.toNat : Nat) : Int) ∧ ((b.toNat : Nat) : Int) ≤ 255 := by
  have := b.toNat_lt
  omega
theorem shapely_eq (s : ByteArray) (f : Int) (h : 0 < s.size) : shapely (il s) f = (decide (s.size ≤ 16) && (cls ((s[0].toNat : Nat) : Int) == f) && (il s).all inner) := by
  have h0 := il_at s h
  have hl := il_length s
  cases hc : il s with
  | nil => rw [hc] at hl; simp at hl; omega
  | cons c l =>
    rw [hc] at h0 hl
    simp at h0
    subst h0
    unfold shapely
    rw [hl]
theorem shapely_empty (f : Int) : shapely (il ByteArray.empty) f = false := rfl
theorem nat_beq_zero (k : Nat) : ((k : Int) == 0) = (k == 0) := by rw [Bool.eq_iff_iff]; simp
def keyw : List (List UInt8) := [[108, 101, 116], [108, 101, 116, 114, 101, 99], [105, 110], [102, 110], [105, 102], [116, 104, 101, 110], [101, 108, 115, 101], [114, 97, 105, 115, 101], [116, 114, 121], [119, 105, 116, 104], [114, 101, 102], [102, 115, 116], [115, 110, 100], [101, 120, 110]]
/-- The place of a text among some, from n on; 0. -/
def placeOf (s : List UInt8) : List (List UInt8) → Nat → Nat
  | [], _ => 0
  | x :: l, n => if x = s then n else placeOf s l (n + 1)
/-- Which keyword a text is; 0. -/
def kwd (s : ByteArray) : Nat := placeOf s.data.toList keyw 1
def isName (s : ByteArray) : Bool := shapely (il s) 3 && kwd s == 0
def isExn (s : ByteArray) : Bool := shapely (il s) 4
theorem placeOf_le (s : List UInt8) (l : List (List UInt8)) (n : Nat) : placeOf s l n ≤ n + l.length := by
  induction l generalizing n with
  | nil => simp [placeOf]
  | cons x l ih =>
    simp only [placeOf]
    split
    · omega
    · have := ih (n + 1); simp; omega
theorem kwd_le (s : ByteArray) : kwd s ≤ 15 := placeOf_le _ _ _
theorem placeOf_none {s : List UInt8} {l : List (List UInt8)} (h : ∀ x, x ∈ l → x ≠ s) (n : Nat) : placeOf s l n = 0 := by
  induction l generalizing n with
  | nil => rfl
  | cons x l ih =>
    simp only [placeOf]
    rw [if_neg (h x (by simp)), ih (fun y hy => h y (by simp [hy]))]
theorem placeOf_at {s : List UInt8} {l : List (List UInt8)} {i : Nat} {x : List UInt8} (hi : l[i]? = some x) (hx : x = s) (hb : ∀ y, y ∈ l.take i → y ≠ s) (n : Nat) : placeOf s l n = n + i := by
  induction l generalizing i n with
  | nil => simp at hi
  | cons a l ih =>
    cases i with
    | zero => simp at hi; subst hi; simp [placeOf, hx]
    | succ i =>
      simp only [List.getElem?_cons_succ] at hi
      simp only [placeOf]
      rw [if_neg (hb a (by simp)), ih hi (fun y hy => hb y (by simp [hy]))]
      omega
/-- Behind a text that is shaped stands one that is, if the byte is a letter or a digit, and it isn't too long. -/
theorem shapely_snoc {l : List Int} {f : Int} (c : Int) (h : shapely l f = true) : shapely (l ++ [c]) f = (inner c && decide ((l ++ [c]).length ≤ 16)) := by
  cases l with
  | nil => simp [shapely] at h
  | cons a l =>
    simp only [shapely, List.cons_append, Bool.and_eq_true] at h ⊢
    obtain ⟨⟨h1, h2⟩, h3⟩ := h
    rw [h2]
    simp only [List.all_cons, List.all_append, Bool.and_eq_true] at h3 ⊢
    rw [h3.1, h3.2]
    cases inner c <;> simp
theorem inner_iff (c : Int) : inner c = (((decide (48 ≤ c) && decide (c ≤ 57)) || (decide (97 ≤ c) && decide (c ≤ 122))) || (decide (65 ≤ c) && decide (c ≤ 90))) := by
  rw [Bool.eq_iff_iff]
  simp only [inner, Bool.and_eq_true, Bool.or_eq_true, decide_eq_true_eq]
  unfold cls
  repeat' split
  all_goals omega
theorem index_blank (c : Int) (h0 : 0 ≤ c) (h1 : c ≤ 255) : decide (0 ≤ Lib.indexByte [32, 9, 10] c.toNat.toUInt8) = decide (c = 32 ∨ c = 9 ∨ c = 10) := by
  have h : ∀ n : Fin 256, decide (0 ≤ Lib.indexByte [32, 9, 10] n.val.toUInt8) = decide ((n.val : Int) = 32 ∨ (n.val : Int) = 9 ∨ (n.val : Int) = 10) := by decide +kernel
  have := h ⟨c.toNat, by omega⟩
  rw [show ((c.toNat : Nat) : Int) = c from by omega] at this
  exact this
theorem index_sign (c : Int) (h0 : 0 ≤ c) (h1 : c ≤ 255) : decide (0 ≤ Lib.indexByte [40, 41, 44, 33, 58, 61, 62, 43, 45, 42, 60, 59] c.toNat.toUInt8) = decide (c ∈ signs) := by
  have h : ∀ n : Fin 256, decide (0 ≤ Lib.indexByte [40, 41, 44, 33, 58, 61, 62, 43, 45, 42, 60, 59] n.val.toUInt8) = decide ((n.val : Int) ∈ signs) := by decide +kernel
  have := h ⟨c.toNat, by omega⟩
  rw [show ((c.toNat : Nat) : Int) = c from by omega] at this
  exact this
/-- How many bytes, from the first one on, are of some classes. -/
def spanOf (cl : List Int) (l : List Int) : Nat := (l.takeWhile fun c => cl.contains (cls c)).length
theorem find_while {α : Type} (p : α → Bool) (l : List α) : l.findIdx (fun x => !p x) = (l.takeWhile p).length := by
  induction l with
  | nil => rfl
  | cons c l ih =>
    rw [List.findIdx_cons]
    cases h : p c
    · rw [List.takeWhile_cons_of_neg (by rw [h]; simp)]; rfl
    · rw [List.takeWhile_cons_of_pos h]; simp [ih]
theorem while_all {α : Type} (p : α → Bool) (l : List α) (h : (l.any fun x => !p x) = false) : l.takeWhile p = l := by
  induction l with
  | nil => rfl
  | cons c l ih =>
    rw [List.any_cons, Bool.or_eq_false_iff] at h
    rw [List.takeWhile_cons_of_pos (by simpa using h.1), ih h.2]
theorem span_find (cl l : List Int) : (if fidx (fun c => !cl.contains (cls c)) l < 0 then (l.length : Int) else fidx (fun c => !cl.contains (cls c)) l) = spanOf cl l := by
  unfold spanOf fidx
  rw [find_while (fun c => cl.contains (cls c))]
  cases h : l.any fun c => !cl.contains (cls c)
  · rw [while_all (fun c => cl.contains (cls c)) l h]
    simp
  · simp
    omega
theorem spanOf_all (cl l : List Int) : (spanOf cl l = l.length) ↔ ∀ c, c ∈ l → cl.contains (cls c) = true := by
  unfold spanOf
  induction l with
  | nil => simp
  | cons c l ih =>
    cases hc : cl.contains (cls c)
    · rw [List.takeWhile_cons_of_neg (p := fun c => cl.contains (cls c)) (by rw [hc]; simp)]
      simp only [List.length_nil, List.length_cons]
      constructor
      · intro h; omega
      · intro h; rw [h c (by simp)] at hc; cases hc
    · rw [List.takeWhile_cons_of_pos (p := fun c => cl.contains (cls c)) hc]
      simp only [List.length_cons, Nat.add_right_cancel_iff, ih]
      constructor
      · rintro h d hd
        rcases List.mem_cons.1 hd with rfl | hd
        · exact hc
        · exact h d hd
      · intro h d hd; exact h d (List.mem_cons_of_mem _ hd)
theorem spanOf_le (cl l : List Int) : spanOf cl l ≤ l.length := (List.takeWhile_sublist _).length_le
end Go.Proofs.YtaioeailgknfjaaGreatDoor

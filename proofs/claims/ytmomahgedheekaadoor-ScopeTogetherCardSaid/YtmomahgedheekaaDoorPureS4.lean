/- A function and a let that bind a name. In plain Lean; no program in sight. -/
import Derived.Test.YtmomahgedheekaaDoorPureS3
namespace Go.Proofs.YtmomahgedheekaaDoor
open Go

def hfn (s : ByteArray) : Hd := ⟨11, 0, 0, 0, ⟨#[]⟩, s, ⟨#[]⟩⟩
def hlt (s : ByteArray) : Hd := ⟨12, 0, 0, 0, s, ⟨#[]⟩, ⟨#[]⟩⟩
def h0n : Hd := ⟨1, 0, 0, 0, ⟨#[]⟩, ⟨#[]⟩, ⟨#[]⟩⟩
theorem fn_name {s : ByteArray} {t : Tm} (h : (Tm.mk (hfn s) [t]).may = true) : isName s = true ∧ t.may = true := by
  unfold Tm.may at h
  rw [Bool.and_eq_true] at h
  have h1 := of_decide_eq_true h.1
  have h4 := h.2
  simp only [Tm.size, Tm.sizes] at h1
  simp only [Tm.all, Tm.alls, List.append_nil, List.all_cons, Bool.and_eq_true] at h4
  obtain ⟨h2, h3⟩ := h4
  refine ⟨?_, ?_⟩
  · simp only [Tm.node, Bool.and_eq_true] at h2
    have := h2.2.2.1
    simpa [fitB, Hd.hasArg, hfn] using this
  · unfold Tm.may
    rw [Bool.and_eq_true]
    exact ⟨decide_eq_true (by omega), h3⟩
theorem let_may {s : ByteArray} {t : Tm} (h : (Tm.mk (hfn s) [t]).may = true) (hs : t.size ≤ 300) : (Tm.mk (hlt s) [.mk h0n [], t]).may = true := by
  obtain ⟨h1, h2⟩ := fn_name h
  unfold Tm.may at h2
  rw [Bool.and_eq_true] at h2
  have n0 : Tm.node (.mk h0n []) = true := by decide +kernel
  unfold Tm.may
  rw [Bool.and_eq_true]
  refine ⟨decide_eq_true (by simp only [Tm.size, Tm.sizes]; omega), ?_⟩
  simp only [Tm.all, Tm.alls, List.append_nil, List.all_cons, List.cons_append, List.nil_append, Bool.and_eq_true]
  refine ⟨?_, n0, h2.2⟩
  have e : ∀ l : List Tm, l.length = 2 → Tm.nums (.mk (hlt s) l) = true := by
    intro l hl
    simp [Tm.nums, hlt, hl, karity]
  simp only [Tm.node]
  rw [e [.mk h0n [], t] rfl, Bool.true_and]
  have e1 : fitB (hlt s).hasName (hlt s).name (isName (hlt s).name) = true := by simp [fitB, Hd.hasName, hlt, h1]
  have e2 : fitB (hlt s).hasArg (hlt s).arg (isName (hlt s).arg) = true := by
    have : (⟨#[]⟩ : ByteArray).toList.isEmpty = true := by decide +kernel
    simp [fitB, Hd.hasArg, hlt, this]
  have e3 : fitB (hlt s).hasExn (hlt s).exn (isExn (hlt s).exn) = true := by
    have : (⟨#[]⟩ : ByteArray).toList.isEmpty = true := by decide +kernel
    simp [fitB, Hd.hasExn, hlt, this]
  rw [e1, e2, e3]
  rfl
/-- The names but one. -/
def less (l : List ByteArray) (s : ByteArray) : List ByteArray := l.filter fun x => !(x.toList == s.toList)
theorem fn_free {s : ByteArray} {t : Tm} (h : (Tm.mk (hfn s) [t]).may = true) : freesR [.mk (hfn s) [t]] = less t.free s := by
  unfold freesR
  simp only [List.all_cons, List.all_nil, h, Bool.and_true, if_true]
  rw [Tm.frees_one]
  unfold less
  rw [← Tm.free_bound]
  unfold Tm.free
  congr 1
  simp [Tm.occ, Tm.occs, hfn, bound]
theorem let_free {s : ByteArray} {t : Tm} (h : (Tm.mk (hlt s) [.mk h0n [], t]).may = true) : freesR [.mk (hlt s) [.mk h0n [], t]] = less t.free s := by
  unfold freesR
  simp only [List.all_cons, List.all_nil, h, Bool.and_true, if_true]
  rw [Tm.frees_one]
  unfold less
  rw [← Tm.free_bound]
  unfold Tm.free
  congr 1
  simp [Tm.occ, Tm.occs, hlt, h0n, bound]
theorem freesR_one {t : Tm} (h : t.may = true) : freesR [t] = t.free := by
  unfold freesR
  simp only [List.all_cons, List.all_nil, h, Bool.and_true, if_true]
  exact Tm.frees_one t
theorem exnsR_one {t : Tm} (h : t.may = true) : exnsR [t] = Tm.exns [t] := by
  unfold exnsR
  simp only [List.all_cons, List.all_nil, h, Bool.and_true, if_true]
theorem freesR_two {a b : Tm} (h : a.may = true) (h' : b.may = true) : freesR [a, b] = puts a.free b.free := by
  unfold freesR
  simp only [List.all_cons, List.all_nil, h, h', Bool.and_true, if_true]
  exact Tm.frees_two a b
theorem exnsR_two {a b : Tm} (h : a.may = true) (h' : b.may = true) : exnsR [a, b] = puts (Tm.exns [a]) (Tm.exns [b]) := by
  unfold exnsR
  simp only [List.all_cons, List.all_nil, h, h', Bool.and_true, if_true]
  exact Tm.exns_two a b
theorem less_succ (l : List ByteArray) (s : ByteArray) (j : Nat) (x : ByteArray) (g : l[j]? = some x) : less (l.take (j + 1)) s = less (l.take j) s ++ (if x.toList == s.toList then [] else [x]) := by
  unfold less
  rw [List.take_add_one, g, List.filter_append]
  congr 1
  simp only [Option.toList_some, List.filter_cons, List.filter_nil]
  cases x.toList == s.toList <;> rfl
theorem puts_at (o l : List ByteArray) (j : Nat) (x : ByteArray) (g : l[j]? = some x) : puts o (l.take (j + 1)) = if inB (puts o (l.take j)) x then puts o (l.take j) else puts o (l.take j) ++ [x] := by
  rw [List.take_add_one, g]
  exact puts_snoc o (l.take j) x
theorem free_len (t : Tm) : t.free.length ≤ t.size := by
  have h := gathered_length isFree Hd.name [t]
  rw [← frees_gathered, Tm.frees_one] at h
  simpa [Tm.sizes] using h
theorem exns1_len (t : Tm) : (Tm.exns [t]).length ≤ t.size := by
  have h := gathered_length names_ Hd.exn [t]
  rw [← exns_gathered] at h
  simpa [Tm.sizes] using h
end Go.Proofs.YtmomahgedheekaaDoor

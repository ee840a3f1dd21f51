/- The walks of package token: kind, sign. -/
import Derived.Test.YtaioeailgknfjaaDoorWords2
import Derived.Test.YtaioeailgknfjaaDoorWordsN
import Derived.Test.YtaioeailgknfjaaDoorScope1
import Derived.Test.YtaioeailgknfjaaDoorPureKl
import Derived.Test.YtaioeailgknfjaaDoorArgsB
import Derived.Laws.BytesString
namespace Go.Proofs.YtaioeailgknfjaaDoor
open Go Go.RowKit Go.Sort

theorem lt_of_some_ {α : Type} {L : List α} {i : Nat} {c : α} (h : L[i]? = some c) : i < L.length := by
  rcases Nat.lt_or_ge i L.length with h' | h'
  · exact h'
  · rw [List.getElem?_eq_none h'] at h; cases h
theorem push_bytes (l : List UInt8) : ∀ s : ByteArray, (l.map fun b => (b.toNat : Int)).foldl (fun r n => r.push (UInt8.ofNat n.toNat)) s = ⟨s.data ++ l.toArray⟩ := by
  induction l with
  | nil => intro s; simp
  | cons b l ih =>
    intro s
    simp only [List.map_cons, List.foldl_cons]
    rw [ih]
    simp [ByteArray.push]
/-- Bytes of a row, as a text. -/
theorem conv_bytes {w : World} {B : List UInt8} {b o len : Nat} (h : IsBytes w B (some ⟨b, o, none⟩) len) (i n c : Nat) (hn : i + n ≤ len) :
    (convert 22 9 (.slice (some ⟨b, o + i, none⟩) n c)).run Tryd.prog w = .ok (.string (bs ((B.drop i).take n))) w := by
  rw [run_convert_bytes_string w 22 9 5 _ _ _ Tryd.underlying22 Tryd.underlying5 Tryd.underlying9]
  have hlen : len = B.length := by
    have := h.1
    rw [vby_il_length, bs_size] at this
    exact this
  have hl : (loadCells ⟨b, o + i, none⟩ n).run Tryd.prog w = .ok ((((B.drop i).take n).map fun b => (b.toNat : Int)).map (Value.int .u8)).toArray w := by
    have hlc : ((((B.drop i).take n).map fun b => (b.toNat : Int)).map (Value.int .u8)).length = n := by
      simp only [List.length_map, List.length_take, List.length_drop]
      omega
    have hr := run_loadCells_list (P := Tryd.prog) (w := w) ⟨b, o + i, none⟩ ((((B.drop i).take n).map fun b => (b.toNat : Int)).map (Value.int .u8)) (fun j v hj => by
      have hjn : j < n := by have := lt_of_some_ hj; omega
      have hj2 : (vby (il (bs B)))[i + j]? = some v := by
        unfold vby
        rw [il_bs, List.map_map]
        rw [List.map_map] at hj
        rw [List.getElem?_map] at hj ⊢
        rw [List.getElem?_take_of_lt hjn, List.getElem?_drop] at hj
        exact hj
      obtain ⟨b', o', e, q⟩ := h.2 (i + j) v hj2
      cases e
      rw [Addr.add_lit, Nat.add_assoc]
      exact q)
    rw [hlc] at hr
    exact hr
  rw [run_bytesToString w _ n c _ hl]
  congr 1
  rw [push_bytes]
  simp [bs]

set_option maxHeartbeats 1000000 in
theorem token_kind (s : ByteArray) (w : World) (hk : Knob w) : Calls Tryd.prog 33 #[.string s] w fun e w' => e = .returned (.int .u8 (kindOf s)) ∧ Ext w w' := by
  have K1 := Lib.hid fun W => words_number s W
  have K2 := Lib.hid fun W (h : Ext w W) => words_keyword s W (hk.ext h)
  have K3 := Lib.hid fun W b (h : Ext w W) (hr : IsRow W (vstr [s]) b 1) => words_name [s] W b 1 1 (Nat.le_refl _) (by omega) (hk.ext h) hr
  have K4 := Lib.hid fun W b (h : Ext w W) (hr : IsRow W (vstr [s]) b 1) => words_exn [s] W b 1 1 (Nat.le_refl _) (by omega) (hk.ext h) hr
  have HK : Hid (kindOf s = if numB s then 1 else if 0 < kwd s then 4 else if isName s then 2 else if isExn s then 3 else 0) := rfl
  have hkw := kwd_le s
  simp only [List.all_cons, List.all_nil, Bool.and_true] at K3 K4
  unfold RetN at K1
  generalize kindOf s = res at *
  generalize numB s = nb at *
  generalize numV s = nv at *
  generalize kwd s = kw at *
  generalize isName s = nm at *
  generalize isExn s = ex at *
  clear hk
  cases nb
  case true =>
    go_enter Tryd.func33, Tryd.ntmps33
    go_wp2_with (go_at_call 54; refine (K1.out _).mono ?_; rintro e w1 ⟨rfl, x1⟩)
    go_ret
    exact ⟨by rw [HK.out]; rfl, x1⟩
  by_cases hkw0 : 0 < kw
  · have hd : decide ((0 : Int) < (kw : Int)) = true := by simp; omega
    have hz : (0 : Int) < (kw : Int) := by omega
    have HKW := Lib.hid hkw0
    go_enter Tryd.func33, Tryd.ntmps33
    go_wp2_with (first | (go_at_call 54; refine (K1.out _).mono ?_; rintro e w1 ⟨rfl, x1⟩) | (go_at_call 55; refine (K2.out _ x1).mono ?_; rintro e w2 ⟨rfl, x2⟩))
    go_ret
    have hk9 := HK.out
    rw [if_neg (by simp), if_pos HKW.out] at hk9
    rw [hk9]
    exact ⟨rfl, x1.trans x2⟩
  have hz : kw = 0 := by omega
  subst hz
  cases nm
  case true =>
    go_enter Tryd.func33, Tryd.ntmps33
    go_wp2_with (first | (go_at_call 54; refine (K1.out _).mono ?_; rintro e w1 ⟨rfl, x1⟩) | (go_at_call 55; refine (K2.out _ x1).mono ?_; rintro e w2 ⟨rfl, x2⟩) | (go_at_call 56; refine (K3.out _ _ ((x1.trans x2).alloc _) (IsRow.new w2 _ (vstr [s]))).mono ?_; rintro e w3 ⟨rfl, x3⟩))
    go_ret
    exact ⟨by rw [HK.out]; rfl, (x1.trans x2).trans (((Ext.refl _).alloc _).trans x3)⟩
  cases ex
  all_goals
    go_enter Tryd.func33, Tryd.ntmps33
    go_wp2_with (first | (go_at_call 54; refine (K1.out _).mono ?_; rintro e w1 ⟨rfl, x1⟩) | (go_at_call 55; refine (K2.out _ x1).mono ?_; rintro e w2 ⟨rfl, x2⟩) | (go_at_call 56; refine (K3.out _ _ ((x1.trans x2).alloc _) (IsRow.new w2 _ (vstr [s]))).mono ?_; rintro e w3 ⟨rfl, x3⟩; have y3 : Ext w w3 := (x1.trans x2).trans (((Ext.refl _).alloc _).trans x3)) | (go_at_call 57; refine (K4.out _ _ (y3.alloc _) (IsRow.new w3 _ (vstr [s]))).mono ?_; rintro e w4 ⟨rfl, x4⟩))
    go_ret
    exact ⟨by rw [HK.out]; rfl, y3.trans (((Ext.refl _).alloc _).trans x4)⟩
end Go.Proofs.YtaioeailgknfjaaDoor

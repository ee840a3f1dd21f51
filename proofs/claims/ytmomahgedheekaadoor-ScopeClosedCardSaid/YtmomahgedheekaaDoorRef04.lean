/- The walks of enclaveref04: Great, Depth, Kids, fits, Node. -/
import Derived.Test.YtmomahgedheekaaDoorMemT
import Derived.Test.YtmomahgedheekaaDoorRef02b
namespace Go.Proofs.YtmomahgedheekaaDoor
open Go Go.RowKit Go.Sort

theorem size_dec (n : Nat) : decide ((100 : Int) < (n : Int)) = decide (100 < n) := decide_eq_decide.2 (by omega)
set_option maxRecDepth 8000 in
set_option maxHeartbeats 1000000 in
theorem ref4_left (m : Nat) : ∀ (t : Tm) (n : Int) (w : World) (v : Value), t.size ≤ m → 0 ≤ n → n ≤ 1000000 → IsTm w t v →
    Calls Tryd.prog 62 #[v, .int .i64 n] w fun e w' => e = .returned (.int .i64 (t.left n)) ∧ Ext w w' := by
  induction m with
  | zero => intro t n w v h; have := t.size_pos; omega
  | succ m ih =>
    intro t n w v hm hn0 hn1 ht
    obtain ⟨x, l⟩ := t
    obtain ⟨a, len, cap, rfl, h1, h2, hf, hl⟩ := ht.open_
    have hlong : x.long = (decide ((100 : Int) < (x.name.size : Int)) || (decide ((100 : Int) < (x.arg.size : Int)) || decide ((100 : Int) < (x.exn.size : Int)))) := by
      unfold Hd.long
      rw [size_dec, size_dec, size_dec]
    have HF := Lib.hid hf
    clear ht hf
    cases A : decide ((100 : Int) < (x.name.size : Int))
    case true =>
      have HL : Hid (x.long = true) := by show _ = _; rw [hlong, A]; rfl
      clear hlong
      go_enter Tryd.func62, Tryd.ntmps62
      go_wp2_with fail
      go_ret
      exact ⟨ret_int (by rw [Tm.left, if_pos HL.out]), (Ext.refl _).alloc _⟩
    cases B : decide ((100 : Int) < (x.arg.size : Int))
    case true =>
      have HL : Hid (x.long = true) := by show _ = _; rw [hlong, A, B]; rfl
      clear hlong
      go_enter Tryd.func62, Tryd.ntmps62
      go_wp2_with fail
      go_ret
      exact ⟨ret_int (by rw [Tm.left, if_pos HL.out]), (Ext.refl _).alloc _⟩
    cases C : decide ((100 : Int) < (x.exn.size : Int))
    case true =>
      have HL : Hid (x.long = true) := by show _ = _; rw [hlong, A, B, C]; rfl
      clear hlong
      go_enter Tryd.func62, Tryd.ntmps62
      go_wp2_with fail
      go_ret
      exact ⟨ret_int (by rw [Tm.left, if_pos HL.out]), (Ext.refl _).alloc _⟩
    have HLG : Hid (Tm.left (.mk x l) n = Tm.lefts l (n - 1)) := by
      show _ = _
      rw [Tm.left, if_neg (by rw [hlong, A, B, C]; simp)]
    clear hlong
    simp only [Tm.size] at hm
    have HL := Lib.hid hl.length
    have hb := fun i => Tm.lefts_spec (l.take i) (fun t _ => Tm.left_spec t) (n - 1) (by omega)
    have HB := Lib.hid hb
    have IH := Lib.hid ih
    clear hb ih
    go_enter Tryd.func62, Tryd.ntmps62
    go_wp2_with fail
    go_loopg [1, 5] len (fun g s i wr => ∃ j : Nat, g = len - j ∧ j ≤ len ∧ i = .int .i64 j ∧ s = .int .i64 (Tm.lefts (l.take j) (n - 1)) ∧ Ext w wr ∧ wr.cell? ⟨w.heap.size, 7, none⟩ = some (.slice a len cap))
    case atStart => exact ⟨0, by omega, by omega, rfl, by simp [Tm.lefts], (Ext.refl _).alloc _, by simp [go_sem]⟩
    case round =>
      obtain ⟨j, rfl, hj, rfl, rfl, hx, hc⟩ := hrel
      obtain ⟨b1, b2, _⟩ := HB.out j
      have HS := Lib.hid (fun q => Tm.lefts_stop l (n - 1) j q)
      by_cases hlt : j < len
      · by_cases hp : 0 ≤ Tm.lefts (l.take j) (n - 1)
        · obtain ⟨y, k, b, o, ak, lenk, capk, g, rfl, hbo, hd, hq, hfy, p1, p2, pl⟩ := hl.at8 hx hlt
          obtain ⟨c0, c1, c2, c3, c4, c5, c6⟩ := hd
          have hsz := Tm.size_at l j _ g
          have HT := Lib.hid (Tm.lefts_take l (n - 1) j _ g hp)
          generalize Tm.lefts (l.take j) (n - 1) = s at *
          have K := Lib.hid (IH.out (.mk y k) s wr (tval y ak lenk capk) (by omega) hp (by omega) (IsTmA.mk_ pl p1 p2 hfy))
          clear g hfy pl
          go_wp2_with (go_at_call 62; refine (K.out).mono ?_; rintro e w1 ⟨rfl, x1⟩)
          go_roundg (len - (j + 1))
          case rel => exact ⟨j + 1, rfl, by omega, by go_num, by rw [HT.out], hx.trans x1, x1.cell hc⟩
          case measure => omega
        · have hd : decide (0 ≤ Tm.lefts (l.take j) (n - 1)) = false := by simpa using hp
          have hf : (Tm.mk x l).left n = Tm.lefts (l.take j) (n - 1) := by rw [HLG.out]; exact HS.out (by omega)
          have HF := Lib.hid hf
          clear hf
          generalize Tm.lefts (l.take j) (n - 1) = s at *
          go_wp2_with fail
          go_ret
          exact ⟨ret_int HF.out.symm, hx⟩
      · obtain rfl : j = len := by omega
        have hf : (Tm.mk x l).left n = Tm.lefts (l.take j) (n - 1) := by rw [HLG.out, List.take_of_length_le (by rw [← HL.out]; omega)]
        have HF := Lib.hid hf
        clear hf
        generalize Tm.lefts (l.take j) (n - 1) = s at *
        go_wp2_with fail
        go_ret
        exact ⟨ret_int HF.out.symm, hx⟩

set_option maxHeartbeats 400000 in
theorem ref4_great (t : Tm) (w : World) (v : Value) (ht : IsTm w t v) :
    Calls Tryd.prog 28 #[v] w fun e w' => e = .returned (.bool t.great) ∧ Ext w w' := by
  have K := Lib.hid fun W (h : Ext w W) => ref4_left _ t 400 W v (Nat.le_refl _) (by omega) (by omega) (ht.ext h)
  have HD : Hid (decide (t.left 400 < 0) = t.great) := rfl
  obtain ⟨x, l⟩ := t
  obtain ⟨a, len, cap, rfl, h1, h2, hf, hl⟩ := ht.open_
  clear ht hf hl
  go_enter Tryd.func28, Tryd.ntmps28
  go_wp2_with (go_at_call 62; refine (K.out _ ((Ext.refl _).alloc _)).mono ?_; rintro e w1 ⟨rfl, x1⟩)
  go_ret
  exact ⟨ret_bool HD.out, ((Ext.refl _).alloc _).trans x1⟩

set_option maxHeartbeats 1000000 in
theorem ref4_kids (k : Int) (w : World) : Calls Tryd.prog 93 #[.int .u8 k] w fun e w' => e = .returned (.int .i64 (karity k)) ∧ w' = w := by
  have hk : ∀ (l : List Int), k ∈ l ∨ ∀ x, x ∈ l → (k == x) = false := fun l => by
    by_cases h : k ∈ l
    · exact .inl h
    · exact .inr fun x hx => beq_false_of_ne fun e => h (e ▸ hx)
  rcases hk [1, 2, 4, 5, 6, 7, 11, 15, 3, 8, 9, 10, 12, 13, 16, 14] with h | h
  · simp only [List.mem_cons, List.not_mem_nil, or_false] at h
    clear hk
    rcases h with rfl | rfl | rfl | rfl | rfl | rfl | rfl | rfl | rfl | rfl | rfl | rfl | rfl | rfl | rfl | rfl
    all_goals
      go_enter Tryd.func93, Tryd.ntmps93
      go_wp2_with fail
      go_ret
      exact ⟨ret_int (by decide), rfl⟩
  · clear hk
    have e1 := h 1 (by simp)
    have e2 := h 2 (by simp)
    have e4 := h 4 (by simp)
    have e5 := h 5 (by simp)
    have e6 := h 6 (by simp)
    have e7 := h 7 (by simp)
    have e11 := h 11 (by simp)
    have e15 := h 15 (by simp)
    have e3 := h 3 (by simp)
    have e8 := h 8 (by simp)
    have e9 := h 9 (by simp)
    have e10 := h 10 (by simp)
    have e12 := h 12 (by simp)
    have e13 := h 13 (by simp)
    have e16 := h 16 (by simp)
    have e14 := h 14 (by simp)
    have HK : Hid (karity k = -1) := by
      show _ = _
      simp only [beq_eq_false_iff_ne, ne_eq] at e1 e2 e4 e5 e6 e7 e11 e15 e3 e8 e9 e10 e12 e13 e16 e14
      unfold karity
      simp [e1, e2, e4, e5, e6, e7, e11, e15, e3, e8, e9, e10, e12, e13, e16, e14]
    clear h
    go_enter Tryd.func93, Tryd.ntmps93
    go_wp2_with fail
    go_ret
    exact ⟨ret_int HK.out.symm, rfl⟩

set_option maxHeartbeats 1000000 in
theorem ref4_fits (b c : Bool) (s : ByteArray) (w : World) : Calls Tryd.prog 94 #[.bool b, .string s, .bool c] w fun e w' => e = .returned (.bool (fitB b s c)) ∧ w' = w := by
  by_cases hz : s = ByteArray.empty
  · subst hz
    have he : ByteArray.empty.toList.isEmpty = true := by rw [ByteArray.toList_eq]; rfl
    cases b <;> cases c
    all_goals
      go_enter Tryd.func94, Tryd.ntmps94
      go_wp2_with fail
      go_ret
      exact ⟨ret_bool (by simp [fitB, he]), rfl⟩
  · have hb := not_empty_of hz
    cases b <;> cases c
    all_goals
      go_enter Tryd.func94, Tryd.ntmps94
      go_wp2_with fail
      go_ret
      exact ⟨ret_bool (by simp [fitB, hb]), rfl⟩
end Go.Proofs.YtmomahgedheekaaDoor

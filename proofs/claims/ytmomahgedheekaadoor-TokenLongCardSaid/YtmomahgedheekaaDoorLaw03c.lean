/- The walk of the law of texts that are too long. -/
import Derived.Test.YtmomahgedheekaaDoorLaw03b
namespace Go.Proofs.YtmomahgedheekaaDoor
open Go Go.RowKit Go.Sort

/-- A row of bytes, of which the first ones are blanks. -/
def blks (N j : Nat) : Array Value := ((List.range N).map fun i => if i < j then Value.int .u8 32 else .int .u8 0).toArray
theorem blks_size (N j : Nat) : (blks N j).size = N := by unfold blks; simp
theorem blks_at {N j i : Nat} (h : i < N) : (blks N j)[i]? = some (if i < j then Value.int .u8 32 else .int .u8 0) := by
  unfold blks
  simp [h]
theorem blks_set {N j : Nat} : (blks N j).setIfInBounds j (.int .u8 32) = blks N (j + 1) := by
  unfold blks
  apply Array.ext
  · simp
  · intro i h1 h2
    simp [Array.getElem_setIfInBounds]
    by_cases e : j = i
    · subst e; simp
    · have : (i < j) = (i < j + 1) := by simp; omega
      simp [e, this]
theorem made_blks (N : Nat) : madeCells (Value.int .u8 0).cells (N * 1) = blks N 0 := by
  unfold blks madeCells
  apply Array.ext
  · simp
  · intro i h1 h2
    simp [Value.cells, Nat.mod_one]
theorem infoB3 : (Tryd.prog.info? 5).map (fun i => (i.zero, i.size, i.bytes)) = some (some (.int .u8 0), 1, 1) := by kernel_rfl
theorem blanks_lex (N : Nat) : lexL 0 (List.replicate N 32) = .ok [⟨6, ByteArray.empty, N⟩] := by
  have h := lexL_ahead (List.replicate N 32) (fun c hc => by rw [List.eq_of_mem_replicate hc]; rfl) 0 []
  rw [List.append_nil, List.length_replicate, Nat.zero_add] at h
  rw [h]
  rfl
theorem blanks_bytes {W : World} {b N : Nat} {t : TypeId} (h : Blk W b t (blks N N)) : IsBytes W (List.replicate N 32) (some ⟨b, 0, none⟩) N := by
  refine ⟨by rw [vby_il_length, bs_size, List.length_replicate], fun i v hi => ⟨b, 0, rfl, ?_⟩⟩
  unfold vby at hi
  rw [il_bs, List.map_map, List.map_replicate, List.getElem?_replicate] at hi
  split at hi
  · rename_i hlt
    cases hi
    have := h.cell i
    rw [blks_at hlt, if_pos hlt] at this
    rw [Nat.zero_add]
    exact this
  · cases hi
set_option maxRecDepth 8000 in
set_option maxHeartbeats 4000000 in
theorem law_tokenLong (n : Int) (w : World) (h0 : 0 ≤ n) (h255 : n ≤ 255) (hkn : Knob w) : Calls Tryd.prog 15 #[.int .u8 n] w (Yes3 w) := by
  have KA := Lib.hid fun W (h : Ext w W) => law03_awake W (hkn.ext h)
  obtain ⟨r, hr4, hr⟩ : ∃ r : Nat, r ≤ 4 ∧ n % 5 = r := ⟨(n % 5).toNat, by omega, by omega⟩
  have hr' : n.tmod 5 = r := by rw [Int.tmod_eq_emod_of_nonneg h0]; exact hr
  obtain ⟨i0, hi, hz0, hz1, hz2⟩ := info_parts infoB3
  obtain ⟨N, hN⟩ : ∃ N, N = 65534 + r := ⟨_, rfl⟩
  have hNi : (65534 : Int) + (r : Int) = (N : Int) := by omega
  have hmk : ∀ w : World, (Instr.makeSlice 67 (.int .i64 (N : Int)) (.int .i64 (N : Int))).run Tryd.prog w = .ok (.slice (some ⟨w.heap.size, 0, none⟩) N N) (w.alloc (.cells (blks N 0) 5)) := fun w => by
    have h := run_make (P := Tryd.prog) w 67 5 i0 (.int .u8 0) Tryd.underlying67 hi hz0 .i64 .i64 (N : Int) (N : Int) (by omega) (Int.le_refl _) (by rw [hz2]; omega) (by omega)
    rw [hz1, Int.toNat_natCast, made_blks] at h
    exact h
  have KL : Hid (∀ W b, Blk W b 5 (blks N N) → Ext w W → Calls Tryd.prog 42 #[.slice (some ⟨b, 0, none⟩) N N] W (RetLex (List.replicate N 32) W)) := Lib.hid fun W b hb hx => token_lex _ W _ N N (Nat.le_refl _) (by omega) (blanks_bytes hb) (hkn.ext hx)
  have hbd : N ≤ 65538 := by omega
  have hlow : 65534 ≤ N := by omega
  clear hi hz0 hz1 hz2 hN hr hkn
  go_enter Tryd.func15, Tryd.ntmps15
  go_wp2_with fail
  go_loopg [4] N (fun g i wr => ∃ j : Nat, g = N - j ∧ j ≤ N ∧ i = .int .i64 j ∧ Blk wr w.heap.size 5 (blks N j) ∧ Ext w wr)
  case atStart => exact ⟨0, rfl, Nat.zero_le _, rfl, Blk.new w _ _, by (repeat (first | exact Ext.refl _ | assumption | refine Ext.alloc ?_ _ | refine Ext.drew ?_ | refine Ext.setCell ?_ (by first | (simp; done) | (simp; omega) | omega) _ | refine Ext.trans ?_ (by assumption)))⟩
  case round =>
    obtain ⟨j, rfl, hj, rfl, hB, hx⟩ := hrel
    have HB := Lib.hid hB
    have hbl := hB.lt
    clear hB
    by_cases hlt : j < N
    · have hz3 : (j : Int) < (N : Int) := by omega
      have c0 : wr.cell? ⟨w.heap.size, j, none⟩ = some (.int .u8 0) := by
        have := HB.out.cell j
        rw [blks_at hlt, if_neg (Nat.lt_irrefl _)] at this
        exact this
      have f0 := HB.out.frozen j
      have HB2 := Lib.hid (HB.out.set_ j (.int .u8 32))
      rw [blks_set] at HB2
      go_wp2_with fail
      go_roundg (N - (j + 1))
      case rel => exact ⟨j + 1, rfl, by omega, by go_num, HB2.out, by (repeat (first | exact Ext.refl _ | assumption | refine Ext.alloc ?_ _ | refine Ext.drew ?_ | refine Ext.setCell ?_ (by first | (simp; done) | (simp; omega) | omega) _ | refine Ext.trans ?_ (by assumption)))⟩
      case measure => omega
    · obtain rfl : j = N := by omega
      have K := KL.out wr _ HB.out hx
      unfold RetLex at K
      by_cases hb : 65536 < j
      · have hR := lexR_long (B := List.replicate j 32) (by rw [List.length_replicate]; exact hb)
        rw [hR] at K
        have HK := Lib.hid K
        have hz4 : (65536 : Int) < (j : Int) := by omega
        clear K hR
        go_wp2_with (first | (go_at_call 42; refine (HK.out).mono ?_; rintro e w1 ⟨ra, rn, rc, rfl, hn1, hn2, ht, x1⟩; have hrn := ht.length; simp only [List.length_nil] at hrn; subst hrn; clear ht) | (go_at_call 41; refine (KA.out _ (by (repeat (first | exact Ext.refl _ | assumption | refine Ext.alloc ?_ _ | refine Ext.drew ?_ | refine Ext.setCell ?_ (by first | (simp; done) | (simp; omega) | omega) _ | refine Ext.trans ?_ (by assumption))))).mono ?_; rintro e w7 ⟨rfl, x7⟩))
        go_ret
        exact ⟨rfl, by (repeat (first | exact Ext.refl _ | assumption | refine Ext.alloc ?_ _ | refine Ext.drew ?_ | refine Ext.setCell ?_ (by first | (simp; done) | (simp; omega) | omega) _ | refine Ext.trans ?_ (by assumption)))⟩
      · have hR := lexR_ok (B := List.replicate j 32) (by rw [List.length_replicate]; exact hb) (blanks_lex j)
        rw [hR] at K
        have HK := Lib.hid K
        have hz4 : (j : Int) ≤ 65536 := by omega
        clear K hR
        go_wp2_with (first | (go_at_call 42; refine (HK.out).mono ?_; rintro e w1 ⟨ra, rn, rc, rfl, hn1, hn2, ht, x1⟩; have hrn := ht.length; simp only [List.length_map, List.length_cons, List.length_nil] at hrn; subst hrn; obtain ⟨t', b9, o9, hh, hf, rfl, q0, q1, q2⟩ := ht.at3 (i := 0) (by omega); cases hh; simp only [Tok.tk] at q2; clear ht q0 q1 hf) | (go_at_call 41; refine (KA.out _ (by (repeat (first | exact Ext.refl _ | assumption | refine Ext.alloc ?_ _ | refine Ext.drew ?_ | refine Ext.setCell ?_ (by first | (simp; done) | (simp; omega) | omega) _ | refine Ext.trans ?_ (by assumption))))).mono ?_; rintro e w7 ⟨rfl, x7⟩))
        go_ret
        exact ⟨rfl, by (repeat (first | exact Ext.refl _ | assumption | refine Ext.alloc ?_ _ | refine Ext.drew ?_ | refine Ext.setCell ?_ (by first | (simp; done) | (simp; omega) | omega) _ | refine Ext.trans ?_ (by assumption)))⟩
end Go.Proofs.YtmomahgedheekaaDoor

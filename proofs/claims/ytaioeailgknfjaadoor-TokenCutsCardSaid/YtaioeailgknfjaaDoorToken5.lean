/- The walk of token.Join. -/
import Derived.Test.YtaioeailgknfjaaDoorToken4
import Derived.Test.YtaioeailgknfjaaDoorShelf
namespace Go.Proofs.YtaioeailgknfjaaDoor
open Go Go.RowKit Go.Sort

theorem infoStr5 : (Tryd.prog.info? 9).map (fun i => (i.zero, i.size, i.bytes)) = some (some (.string ByteArray.empty), 1, 16) := by kernel_rfl
/-- Tokens' texts, a blank between them. -/
def joinTk (l : List Tk) : List UInt8 := Lib.join (l.map fun t => t.text.data.toList) [32]
theorem take_texts {l : List Tk} {j : Nat} {t : Tk} (h : l[j]? = some t) : vstr ((l.map Tk.text).take (j + 1)) = vstr ((l.map Tk.text).take j) ++ [.string t.text] := by
  rw [List.take_add_one, List.getElem?_map, h]
  simp [vstr]
set_option maxRecDepth 8000 in
set_option maxHeartbeats 2000000 in
theorem token_join (l : List Tk) (w : World) (a : Option Addr) (len cap : Nat) (h1 : len ≤ cap) (h2 : cap ≤ 9223372036854775807) (ht : IsToks w l a len) (hN : len ≤ 1000000) (hsum : (joinTk l).length ≤ 140737488355328) :
    Calls Tryd.prog 15 #[.slice a len cap] w fun e w' => e = .returned (.string (bs (joinTk l))) ∧ Ext w w' := by
  obtain ⟨i0, hi, hz0, hz1', hz2'⟩ := info_parts infoStr5
  have HI := Lib.hid (And.intro hi (And.intro hz0 (And.intro hz1' hz2')))
  have HT := Lib.hid ht
  have HL := Lib.hid ht.length
  have KJ : Hid (∀ W a' c', Ext w W → W.ownsRow w.heap.size 9 1 (.slice a' len c') len (vstr (l.map Tk.text)) → Calls Tryd.prog 28 #[.slice a' len c', .string ⟨#[32]⟩] W fun e W' => e = .returned (.string (bs (joinTk l))) ∧ Ext W W') := Lib.hid fun W a' c' hx ho => by
    have hlen := ht.length
    by_cases h0 : len = 0
    · have hl : l = [] := List.eq_nil_of_length_eq_zero (by omega)
      subst hl
      subst h0
      refine (Any.strings_Join_none Tryd.lays156 Tryd.Builder_Extra_156 a' c' ⟨#[32]⟩ W).mono ?_
      rintro e W' ⟨rfl, rfl⟩
      exact ⟨rfl, Ext.refl _⟩
    · obtain ⟨g, cp, e, _, hg, hc, _, hcell⟩ := owns_open ho (by omega)
      cases e
      have e0 : Lib.join ((l.map Tk.text).map (·.data.toList)) (ByteArray.data ⟨#[32]⟩).toList = joinTk l := by
        unfold joinTk
        rw [List.map_map]
        rfl
      have hlm : (l.map Tk.text).length = len := by rw [List.length_map]; omega
      have K := Tryd.strings_Join g 0 c' (l.map Tk.text) ⟨#[32]⟩ W (fun j x hj => by
        have := hcell j (.string x) (by unfold vstr; rw [List.getElem?_map, hj]; rfl)
        rw [Nat.zero_add]
        exact this) hg (by omega) (by omega) (by rw [e0]; exact hsum)
      rw [e0, hlm] at K
      exact K
  clear ht hi hz0 hz1' hz2' hsum
  go_enter Tryd.func15, Tryd.ntmps15
  go_wp2_with fail
  go_loopg [3, 8] len (fun g s i wr => ∃ j : Nat, g = len - j ∧ i = .int .i64 j ∧ j ≤ len ∧ wr.ownsRow w.heap.size 9 1 s j (vstr ((l.map Tk.text).take j)) ∧ Ext w wr)
  case atStart => exact ⟨0, rfl, rfl, Nat.zero_le _, World.ownsRow_nil _ _ _ _, by (repeat (first | exact Ext.refl _ | assumption | refine Ext.alloc ?_ _ | refine Ext.drew ?_ | refine Ext.setCell ?_ (by first | (simp; done) | (simp; omega) | omega) _ | refine Ext.trans ?_ (by assumption)))⟩
  case round =>
    obtain ⟨j, rfl, rfl, hj, hO, hx⟩ := hrel
    have HO := Lib.hid hO
    obtain ⟨sa, sc, rfl, -, -, -⟩ := owns_row1 hO
    clear hO
    by_cases hlt : j < len
    · have hz1 : (j : Int) < (len : Int) := by omega
      obtain ⟨t, b, o, ht, hf, rfl, q0, q1, q2⟩ := (HT.out.ext hx).at3 hlt
      have HS := Lib.hid (take_texts ht)
      clear ht hf
      have E9 := Lib.hid (show (wr.alloc (.cells #[.int .u8 t.k, .string t.text, .int .i64 t.pos] 48)).heap.size = wr.heap.size + 1 from by simp)
      go_wp2_with (at_builtin; refine wpList_append_mine rfl (.tmp 12) (.tmp 15) 40 ?r0 w.heap.size 9 i0 (.string ByteArray.empty) 1 16 ?r1 ?r2 ?r3 ?r4 ?r5 ?r6 ?r7 (Value.slice sa j sc) j (vstr ((l.map Tk.text).take j)) ?r8 ?r9 ⟨wr.heap.size + 1, 0, none⟩ 1 1 [.string t.text] ?r10 ?r11 ?r12 ?r13 ?r14 ?r15 ?r16 ?r17)
      case r0 => rfl
      case r1 => exact Tryd.underlying40
      case r2 => exact HI.out.1
      case r3 => exact HI.out.2.1
      case r4 => exact HI.out.2.2.1
      case r5 => exact HI.out.2.2.2
      case r6 => rfl
      case r7 => decide
      case r8 => rfl
      case r9 => exact owns_ext (((Ext.refl _).alloc _).alloc _) HO.out
      case r10 => rfl
      case r11 => rfl
      case r12 =>
        intro i u hu
        rw [Addr.add_lit, Nat.zero_add, ← E9.out]
        exact (World.cell?_alloc_new _ _ _ _).trans (by simpa using hu)
      case r13 => intro u hu; simp at hu; subst hu; rfl
      case r14 => unfold maxLen; omega
      case r15 => omega
      case r16 => have := hx.size; simp; omega
      case r17 =>
        intro v9 w9 ho9 hg9 _
        have hX9 := ext_grown hg9 ((hx.alloc _).alloc _) (fun k hk => (HO.out.lt k hk).1)
        have HO9 : Hid (w9.ownsRow w.heap.size 9 1 v9 (j + 1) (vstr ((l.map Tk.text).take (j + 1)))) := Lib.hid (by rw [HS.out]; exact ho9)
        clear ho9 hg9
        go_wp2_with fail
        go_roundg (len - (j + 1))
        case rel => exact ⟨j + 1, rfl, by go_num, by omega, HO9.out, hX9⟩
        case measure => omega
    · obtain rfl : j = len := by omega
      have HO2 : Hid (wr.ownsRow w.heap.size 9 1 (.slice sa j sc) j (vstr (l.map Tk.text))) := Lib.hid (by have := HO.out; rwa [List.take_of_length_le (by rw [List.length_map, ← HL.out]; omega)] at this)
      go_wp2_with (go_at_call 28; refine (KJ.out _ _ _ hx HO2.out).mono ?_; rintro e w9 ⟨rfl, x9⟩)
      go_ret
      exact ⟨rfl, by (repeat (first | exact Ext.refl _ | assumption | refine Ext.alloc ?_ _ | refine Ext.drew ?_ | refine Ext.setCell ?_ (by first | (simp; done) | (simp; omega) | omega) _ | refine Ext.trans ?_ (by assumption)))⟩
end Go.Proofs.YtaioeailgknfjaaDoor

/- The walk of enclaveref18.Read. -/
import Derived.Test.YtmomahgedheekaaDoorValue6
namespace Go.Proofs.YtmomahgedheekaaDoor
open Go Go.RowKit Go.Sort

/-- What the reference's Read hands back: the end, or none. -/
def RetQ (r : Option En) (w : World) (e : Ending) (w' : World) : Prop := e = .returned (.tuple #[ev (r.getD ⟨0, false, 0, ByteArray.empty⟩), .bool r.isSome]) ∧ Ext w w'
theorem Blk.fill4 {w : World} {g : Nat} {t : TypeId} {a b c d : Value} (h : Blk w g t #[a, b, c, d]) (u0 u1 u2 u3 : Value) :
    Blk ((((w.setCell ⟨g, 0, none⟩ u0).setCell ⟨g, 1, none⟩ u1).setCell ⟨g, 2, none⟩ u2).setCell ⟨g, 3, none⟩ u3) g t #[u0, u1, u2, u3] := by
  have := (((h.set_ 0 u0).set_ 1 u1).set_ 2 u2).set_ 3 u3
  simpa using this
theorem Blk.four {w : World} {g : Nat} {t : TypeId} {a b c d : Value} (h : Blk w g t #[a, b, c, d]) :
    w.cell? ⟨g, 0, none⟩ = some a ∧ w.cell? ⟨g, 1, none⟩ = some b ∧ w.cell? ⟨g, 2, none⟩ = some c ∧ w.cell? ⟨g, 3, none⟩ = some d ∧ g < w.heap.size := ⟨h.cell 0, h.cell 1, h.cell 2, h.cell 3, h.lt⟩

theorem shapes (s : ByteArray) (hs : s.size ≤ 1000000) : (∃ a b, cutL s.data.toList = [a, b]) ∨ (∃ a x b, cutL s.data.toList = [a, x, b]) ∨ (∃ m, (cutL s.data.toList).length = m ∧ m ≤ 1000001 ∧ (m < 2 ∨ 3 < m) ∧ readW (cutL s.data.toList) = none) := by
  have hmm : (cutL s.data.toList).length ≤ 1000001 := by
    rw [cutL_length]
    have := List.count_le_length (a := (32 : UInt8)) (l := s.data.toList)
    rw [list_size'] at this
    omega
  revert hmm
  match cutL s.data.toList with
  | [a, b] => intro _; exact .inl ⟨a, b, rfl⟩
  | [a, x, b] => intro _; exact .inr (.inl ⟨a, x, b, rfl⟩)
  | [] => intro h; exact .inr (.inr ⟨_, rfl, h, by simp, rfl⟩)
  | [_] => intro h; exact .inr (.inr ⟨_, rfl, h, by simp, rfl⟩)
  | _ :: _ :: _ :: _ :: _ => intro h; exact .inr (.inr ⟨_, rfl, h, by simp, rfl⟩)

set_option maxRecDepth 8000 in
set_option maxHeartbeats 16000000 in
theorem ref18_read (s : ByteArray) (w : World) (hs : s.size ≤ 1000000) : Calls Tryd.prog 40 #[.string s] w (RetQ (readE s.data.toList) w) := by
  have HSH := Lib.hid (shapes s hs)
  have HZ := Lib.hid hs
  clear hs
  go_enter Tryd.func40, Tryd.ntmps40
  go_wp2_with fail
  go_loopg [4] 4 (fun g i wr => ∃ k : Nat, g = 7 - k ∧ 3 ≤ k ∧ k ≤ 7 ∧ i = .int .u8 (k : Int) ∧ (∀ k' : Nat, 3 ≤ k' → k' < k → tFixed (k' : Int) ≠ s.data.toList) ∧ Ext (w.alloc (.cells #[.int .u8 0, .bool false, .int .i64 0, .string ⟨#[]⟩] 23)) wr)
  case atStart => exact ⟨3, by omega, by omega, by omega, rfl, fun k' h h' => by omega, Ext.refl _⟩
  case round =>
    obtain ⟨k, rfl, hk3, hk7, rfl, hto, hx⟩ := hrel
    have HT := Lib.hid hto
    clear hto
    by_cases hlt : k < 7
    · have d6 : decide ((k : Int) ≤ 6) = true := by simp; omega
      have hwr : IntKind.u8.wrap ((k : Int) + 1) = (k : Int) + 1 := by rw [IntWalk.u8_in _ ⟨by omega, by omega⟩]
      have K := Lib.hid (ref18_text k false 0 ⟨#[]⟩ wr (by omega) (by omega) (by omega) (by omega) (by decide))
      have e : En.text ⟨k, false, 0, ⟨#[]⟩⟩ = tFixed k := text_fix (k : Int) (by omega) _ _ _
      rw [e] at K
      have hcmp := cmp_bs (tFixed k) s
      cases hq : ((bs (tFixed (k : Int))).toList == s.toList)
      · have HN := Lib.hid (show tFixed (k : Int) ≠ s.data.toList from by
          rw [hq] at hcmp
          simpa using hcmp.symm)
        clear hcmp e
        go_wp2_with (go_at_call 39; refine K.out.mono ?_; rintro e w1 ⟨rfl, x1⟩)
        go_roundg (7 - (k + 1))
        case rel =>
          refine ⟨k + 1, rfl, by omega, by omega, by go_num, fun k' h h' => ?_, hx.trans x1⟩
          rcases Nat.lt_or_ge k' k with h2 | h2
          · exact HT.out k' h h2
          · obtain rfl : k' = k := by omega
            exact HN.out
        case measure => omega
      · have HN : Hid (readE s.data.toList = some ⟨(k : Int), false, 0, ByteArray.empty⟩) := by
          show _ = _
          rw [hq] at hcmp
          refine readE_fixed (k : Int) (by omega) (by omega) ?_
          have := hcmp.symm
          simp at this
          exact this.symm
        clear hcmp e
        go_wp2_with (go_at_call 39; refine K.out.mono ?_; rintro e w1 ⟨rfl, x1⟩; obtain ⟨f0, f1, f2, f3, d0, d1, d2, d3, hsz, hst⟩ := slot4 (hx.trans x1))
        obtain ⟨r0, r1, r2, r3, xx⟩ := hst _ _ _ _ _ rfl
        exact bodyPost_ret (v := .tuple #[ev ⟨(k : Int), false, 0, ByteArray.empty⟩, .bool true]) (by simp [results, Tryd.results40, go_sem, r0, r1, r2, r3] <;> rfl) rfl ⟨by rw [HN.out]; rfl, xx⟩
    · obtain rfl : k = 7 := by omega
      obtain ⟨f0, f1, f2, f3, d0, d1, d2, d3, hsz, hst⟩ := slot4 hx
      cases h7 : (s.toList == [118, 97, 108, 117, 101, 32, 35])
      case true =>
        have HN := Lib.hid (read_sign h7)
        go_wp2_with fail
        obtain ⟨r0, r1, r2, r3, xx⟩ := hst _ _ _ _ _ rfl
        exact bodyPost_ret (v := .tuple #[ev ⟨1, false, 0, ByteArray.empty⟩, .bool true]) (by simp [results, Tryd.results40, go_sem, r0, r1, r2, r3] <;> rfl) rfl ⟨by rw [HN.out]; rfl, xx⟩
      case false =>
        have HN := Lib.hid (read_none (fun k' h h' => HT.out k' h h') h7)
        have KC := Lib.hid (ref18_cut s wr HZ.out)
        clear hst f0 f1 f2 f3 d0 d1 d2 d3 hsz
        rcases HSH.out with ⟨a, b, hc⟩ | ⟨a, x, b, hc⟩ | ⟨m, hm, hm1, hm2, hm3⟩
        case inr.inr =>
          have HR := Lib.hid (HN.out.trans hm3)
          have hdd : (decide ((m : Int) < 2) = true) ∨ (decide ((m : Int) < 2) = false ∧ decide ((3 : Int) < (m : Int)) = true) := by
            rcases hm2 with h | h
            · exact .inl (by simp; omega)
            · exact .inr ⟨by simp; omega, by simp; omega⟩
          have HM := Lib.hid hm
          clear hm hm3 hm2
          rcases hdd with hd | ⟨hd, hd'⟩
          all_goals
            go_wp2_with (go_at_call 75; refine KC.out.mono ?_; rintro e w1 ⟨a, n, cap, rfl, h1, h2, hrow, x1⟩; obtain rfl : n = m := (by have := hrow.1; rw [vstr_length, List.length_map, HM.out] at this; exact this); obtain ⟨f0, f1, f2, f3, d0, d1, d2, d3, hsz, hst⟩ := slot4 (hx.trans x1))
            obtain ⟨r0, r1, r2, r3, xx⟩ := hst _ _ _ _ _ rfl
            exact bodyPost_ret (v := .tuple #[ev ⟨0, false, 0, ByteArray.empty⟩, .bool false]) (by simp [results, Tryd.results40, go_sem, r0, r1, r2, r3] <;> rfl) rfl ⟨by rw [HR.out]; rfl, xx⟩
        case inl =>
          have hb : (bs b).size ≤ 1000000 := by
            have := word_size (l := s.data.toList) (p := b) (by rw [hc]; simp)
            rw [list_size'] at this
            have := HZ.out
            rw [bs_size]
            omega
          have KM := Lib.hid fun W => ref18_number (bs b) W hb
          rw [bs_list] at KM
          have HC := Lib.hid hc
          rw [hc] at KC
          have z1 : IntKind.i64.wrap 1 = 1 := by decide
          clear hc hb
          go_upto_region 15 with (first | (go_at_call 75; refine KC.out.mono ?_; rintro e w1 ⟨aa, len, cap, rfl, h1, h2, hrow, x1⟩; obtain rfl : len = 2 := (by have := hrow.1; simpa [vstr] using this); obtain ⟨bb, o, ee, q0⟩ := hrow.2 0 _ rfl; cases ee; obtain ⟨bb', o', ee, q1⟩ := hrow.2 1 _ rfl; cases ee; have hB := block_lt_of_cell q0; simp only at hB) | (go_at_call 76; refine (KM.out _).mono ?_; rintro e w2 ⟨n, ok, rfl, hn, hnum, x2⟩))
          have HNUM := Lib.hid hnum
          clear hnum
          have B8 := Blk.new w2 23 #[.int .u8 1, .bool true, .int .i64 n, .string ⟨#[]⟩]
          have y8 : Ext w2 (w2.alloc (.cells #[.int .u8 1, .bool true, .int .i64 n, .string ⟨#[]⟩] 23)) := (Ext.refl w2).alloc _
          have KY := Lib.hid fun W => ref18_may 1 true n ⟨#[]⟩ W (by decide) (by decide)
          rw [show En.may ⟨1, true, n, ⟨#[]⟩⟩ = true from may_num n] at KY
          have KT := Lib.hid fun W => ref18_text 1 true n ⟨#[]⟩ W (by decide) (by decide) hn.1 hn.2 (by decide)
          have hcmp := cmp_bs (En.text ⟨1, true, n, ⟨#[]⟩⟩) s
          clear hn
          obtain ⟨f0, f1, f2, f3, d0, d1, d2, d3, hsz, hst⟩ := slot4 (((hx.trans x1).trans x2).trans y8)
          cases ok <;> cases hq : ((bs (En.text ⟨1, true, n, ⟨#[]⟩⟩)).toList == s.toList)
          all_goals
            rw [hq] at hcmp
            first
              | have HF := Lib.hid (show readE s.data.toList = none from by rw [HN.out, readW_two HC.out HNUM.out, if_neg (fun h => by first | exact absurd h.1 (by decide) | (have h2 := hcmp.symm; simp at h2; exact h2 h.2))])
              | have HF := Lib.hid (show readE s.data.toList = some ⟨1, true, n, ByteArray.empty⟩ from by rw [HN.out, readW_two HC.out HNUM.out, if_pos ⟨rfl, (by have h2 := hcmp.symm; simp at h2; exact h2)⟩])
            clear hcmp
            go_wp2_with (first | (go_at_call 17; refine (KY.out _).mono ?_; rintro e w6 ⟨rfl, x6⟩; obtain ⟨c0, c1, c2, c3, hg⟩ := (B8.ext x6).four; have x6' := x6; obtain ⟨f0, f1, f2, f3, d0, d1, d2, d3, hsz, hst⟩ := slot4 ((((hx.trans x1).trans x2).trans y8).trans x6)) | (go_at_call 39; refine (KT.out _).mono ?_; rintro e w7 ⟨rfl, x7⟩; obtain ⟨c0, c1, c2, c3, hg⟩ := ((B8.ext x6').ext x7).four; obtain ⟨f0, f1, f2, f3, d0, d1, d2, d3, hsz, hst⟩ := slot4 (((((hx.trans x1).trans x2).trans y8).trans x6').trans x7)))
            obtain ⟨r0, r1, r2, r3, xx⟩ := hst _ _ _ _ _ rfl
            first
              | exact bodyPost_ret (v := .tuple #[ev ⟨0, false, 0, ByteArray.empty⟩, .bool false]) (by simp [results, Tryd.results40, go_sem, r0, r1, r2, r3] <;> rfl) rfl ⟨by rw [HF.out]; rfl, xx⟩
              | exact bodyPost_ret (v := .tuple #[ev ⟨1, true, n, ByteArray.empty⟩, .bool true]) (by simp [results, Tryd.results40, go_sem, r0, r1, r2, r3] <;> rfl) rfl ⟨by rw [HF.out]; rfl, xx⟩
        case inr.inl =>
          have hb : (bs b).size ≤ 1000000 := by
            have := word_size (l := s.data.toList) (p := b) (by rw [hc]; simp)
            rw [list_size'] at this
            have := HZ.out
            rw [bs_size]
            omega
          have hxs : (bs x).size ≤ 1000000 := by
            have := word_size (l := s.data.toList) (p := x) (by rw [hc]; simp)
            rw [list_size'] at this
            have := HZ.out
            rw [bs_size]
            omega
          have HXS := Lib.hid hxs
          clear hxs
          have KM := Lib.hid fun W => ref18_number (bs b) W hb
          rw [bs_list] at KM
          have HC := Lib.hid hc
          rw [hc] at KC
          have z1 : IntKind.i64.wrap 2 = 2 := by decide
          clear hc hb
          go_upto_region 15 with (first | (go_at_call 75; refine KC.out.mono ?_; rintro e w1 ⟨aa, len, cap, rfl, h1, h2, hrow, x1⟩; obtain rfl : len = 3 := (by have := hrow.1; simpa [vstr] using this); obtain ⟨bb, o, ee, q0⟩ := hrow.2 0 _ rfl; cases ee; obtain ⟨bb', o', ee, q1⟩ := hrow.2 1 _ rfl; cases ee; obtain ⟨bb'', o'', ee, q2⟩ := hrow.2 2 _ rfl; cases ee; have hB := block_lt_of_cell q0; simp only at hB) | (go_at_call 76; refine (KM.out _).mono ?_; rintro e w2 ⟨n, ok, rfl, hn, hnum, x2⟩; replace q0 := x2.cell q0; replace q1 := x2.cell q1; have hB2 := Nat.lt_of_lt_of_le hB x2.size))
          have HNUM := Lib.hid hnum
          clear hnum
          have B8 := Blk.new w2 23 #[.int .u8 2, .bool false, .int .i64 n, .string (bs x)]
          have y8 : Ext w2 (w2.alloc (.cells #[.int .u8 2, .bool false, .int .i64 n, .string (bs x)] 23)) := (Ext.refl w2).alloc _
          have KY := Lib.hid fun W => ref18_may 2 false n (bs x) W (by decide) (by decide)
          have hmay : En.may ⟨2, false, n, bs x⟩ = isExn (bs x) := by simp [En.may]
          rw [hmay] at KY
          have KT := Lib.hid fun W => ref18_text 2 false n (bs x) W (by decide) (by decide) hn.1 hn.2 HXS.out
          have hcmp := cmp_bs (En.text ⟨2, false, n, bs x⟩) s
          clear hn
          obtain ⟨f0, f1, f2, f3, d0, d1, d2, d3, hsz, hst⟩ := slot4 (((hx.trans x1).trans x2).trans y8)
          cases ok <;> cases hxx : isExn (bs x) <;> cases hq : ((bs (En.text ⟨2, false, n, bs x⟩)).toList == s.toList)
          all_goals
            rw [hq] at hcmp
            rw [hxx] at KY
            first
              | have HF := Lib.hid (show readE s.data.toList = none from by rw [HN.out, readW_three HC.out HNUM.out, if_neg (fun h => by first | exact absurd h.1 (by decide) | (have h2 := hcmp.symm; simp at h2; exact h2 h.2.2) | (rw [hxx] at h; exact absurd h.2.1 (by decide)))])
              | have HF := Lib.hid (show readE s.data.toList = some ⟨2, false, n, bs x⟩ from by rw [HN.out, readW_three HC.out HNUM.out, if_pos ⟨rfl, hxx, (by have h2 := hcmp.symm; simp at h2; exact h2)⟩])
            clear hcmp
            go_wp2_with (first | (go_at_call 17; refine (KY.out _).mono ?_; rintro e w6 ⟨rfl, x6⟩; obtain ⟨c0, c1, c2, c3, hg⟩ := (B8.ext x6).four; have x6' := x6; obtain ⟨f0, f1, f2, f3, d0, d1, d2, d3, hsz, hst⟩ := slot4 ((((hx.trans x1).trans x2).trans y8).trans x6)) | (go_at_call 39; refine (KT.out _).mono ?_; rintro e w7 ⟨rfl, x7⟩; obtain ⟨c0, c1, c2, c3, hg⟩ := ((B8.ext x6').ext x7).four; obtain ⟨f0, f1, f2, f3, d0, d1, d2, d3, hsz, hst⟩ := slot4 (((((hx.trans x1).trans x2).trans y8).trans x6').trans x7)))
            obtain ⟨r0, r1, r2, r3, xx⟩ := hst _ _ _ _ _ rfl
            first
              | exact bodyPost_ret (v := .tuple #[ev ⟨0, false, 0, ByteArray.empty⟩, .bool false]) (by simp [results, Tryd.results40, go_sem, r0, r1, r2, r3] <;> rfl) rfl ⟨by rw [HF.out]; rfl, xx⟩
              | exact bodyPost_ret (v := .tuple #[ev ⟨2, false, n, bs x⟩, .bool true]) (by simp [results, Tryd.results40, go_sem, r0, r1, r2, r3] <;> rfl) rfl ⟨by rw [HF.out]; rfl, xx⟩
end Go.Proofs.YtmomahgedheekaaDoor

/- The walk of the law of blanks around a text. -/
import Derived.Test.YtmomahgedheekaaDoorLaw03b
import Derived.Test.YtmomahgedheekaaDoorAppend
namespace Go.Proofs.YtmomahgedheekaaDoor
open Go Go.RowKit Go.Sort

theorem vbs_append (L M : List UInt8) : vby (il (bs (L ++ M))) = vby (il (bs L)) ++ vby (il (bs M)) := by unfold vby; rw [il_bs, il_bs, il_bs, List.map_append, List.map_append]
theorem vbs_length (L : List UInt8) : (vby (il (bs L))).length = L.length := by rw [vby_il_length, bs_size]
theorem vbs_one (L : List UInt8) : ∀ u ∈ vby (il (bs L)), u.oneCell' = true := by
  intro u hu
  unfold vby at hu
  obtain ⟨y, _, rfl⟩ := List.mem_map.1 hu
  rfl
section
variable {P : Program}
theorem run_append_none' {w : World} (base : Nat) (t ty e : TypeId) (i : TypeInfo) (size c : Nat) (ht : P.underlying t = some (.slice e)) (hi : P.info? e = some i)
    (v : Value) (n : Nat) (xs : List Value) (hown : w.ownsRow base e size v n xs) :
    (Builtin.append_ #[t, t] ty #[v, .slice none 0 c]).run P w = .ok v w := by
  rcases hown.2 with ⟨rfl, rfl⟩ | ⟨g, cap, cur, rfl, _, _, hnc, _⟩
  · simp [Builtin.append_, run_underlying ht, sizeOf, typeInfo, hi, Builtin.lenOf, Builtin.firstCells]
  · simp [Builtin.append_, run_underlying ht, sizeOf, typeInfo, hi, Builtin.lenOf, Builtin.firstCells, hnc, storeCells]
theorem wpList_append_bytes {w : World} {ops : Array Oper} {rest : List Oper} {o : Oper} {a : Act} {Q : Exit → Act → World → Prop} (hgd : o.guard = none) (s x : Operand) (t : TypeId)
    (ho : o.op = .call { callee := .builtin .append, args := #[s, x], argTypes := #[t, t] })
    (base : Nat) (e : TypeId) (i : TypeInfo) (z : Value) (ht : P.underlying t = some (.slice e)) (hi : P.info? e = some i) (hz : i.zero = some z)
    (hsize : i.size = 1) (hby : i.bytes = 1) (hzs : z.cells.size = 1)
    (v : Value) (n : Nat) (xs : List Value) (hs : a.eval s = v) (hown : w.ownsRow base e 1 v n xs)
    (ax : Option Addr) (m c : Nat) (B : List UInt8) (hx : a.eval x = .slice ax m c) (hr : IsBytes w B ax m)
    (hnm : n + m ≤ 1000000) (hbase : base ≤ w.heap.size)
    (h : ∀ v' w', w'.ownsRow base e 1 v' (n + m) (xs ++ vby (il (bs B))) → (∀ w0, Ext w0 w → w0.heap.size ≤ base → Ext w0 w') → wpList P ops Q rest (a.put o.dst v') w') : wpList P ops Q (o :: rest) a w := by
  have hm : m = B.length := hr.length
  cases ax with
  | none =>
    have hm0 : m = 0 := by
      rcases Nat.eq_zero_or_pos m with h0 | h0
      · exact h0
      · obtain ⟨c, b, o, _, e, _⟩ := hr.at_ h0
        cases e
    subst hm0
    have hB : B = [] := List.eq_nil_of_length_eq_zero hm.symm
    subst hB
    refine wpList_plain hgd fun K hK => ?_
    have hrun := run_append_none' (P := P) (w := w) base t o.type e i 1 c ht hi v n xs hown
    unfold Oper.wp
    simp [execOp, ho, resolve, invoke, builtin, hs, hx, hrun, Result.andThen]
    exact hK _ _ (h v w (by have e : vby (il (bs ([] : List UInt8))) = [] := rfl; rw [e, List.append_nil]; exact hown) (fun w0 h0 _ => h0))
  | some p =>
    refine wpList_append_mine hgd s x t ho base e i z 1 1 ht hi hz hsize hby hzs (by decide) v n xs hs hown p m c (vby (il (bs B))) hx (by rw [vbs_length]; omega) ?_ (vbs_one B) (by unfold maxLen; omega) (by omega) hbase ?_
    · intro j u hu
      obtain ⟨b, o, e, q⟩ := hr.2 j u hu
      cases e
      rw [Addr.add_lit]
      exact q
    · intro v' w' ho' hg' _
      exact h v' w' ho' (fun w0 h0 hb => ext_grown hg' h0 (fun k hk => Nat.le_trans hb (hown.lt k hk).1))
end
theorem placed_le {B : List UInt8} {o : List Tok} : ∀ {q : Nat}, placed B q o → ∀ t, t ∈ o → t.pos ≤ B.length := by
  induction o with
  | nil => intro q _ t ht; cases ht
  | cons t0 o ih =>
    intro q h t ht
    rcases List.mem_cons.1 ht with rfl | ht
    · have := h.2.1; omega
    · exact ih h.2.2.2.2 t ht
theorem one_byteB (w : World) (k : UInt8) (T : TypeId) : IsBytes (w.alloc (.cells #[.int .u8 (k.toNat : Int)] T)) [k] (some ⟨w.heap.size, 0, none⟩) 1 := IsRow.new w T (vby (il (bs [k])))
theorem rep_blank {n : Nat} {c d : UInt8} (hd : clsU d = 1) (h : c ∈ List.replicate n d) : clsU c = 1 := by rw [List.eq_of_mem_replicate h]; exact hd
theorem lexL_err {p q : Nat} {l : List UInt8} (h : lexL p l = .error q) : q ≤ p + l.length := by
  have := lex_ind (P := fun p l => ∀ q, lexL p l = .error q → q ≤ p + l.length) ?_ ?_ ?_ ?_ l.length p l (Nat.le_refl _)
  · exact this q h
  · intro p q h; cases h
  · intro p c r hc ih q h
    rw [lexL_blank hc] at h
    have := ih q h
    rw [List.length_cons]
    omega
  · intro p c r hc ht q h; rw [lexL_none hc _ ht] at h; cases h; omega
  · intro p c r n k hc ht ih q h
    rw [lexL_tok hc _ ht] at h
    have hbd := tokAt_bd ht
    cases hr : lexL (p + n) ((c :: r).drop n) with
    | error e =>
      rw [hr] at h
      cases h
      have := ih q hr
      rw [List.length_drop] at this
      omega
    | ok o => rw [hr] at h; cases h
/-- A text with blanks around it. -/
def blX (na nb : Nat) (B : List UInt8) : List UInt8 := List.replicate na 32 ++ B ++ List.replicate nb 10
theorem blX_zero (na : Nat) (B : List UInt8) : vby (il (bs (List.replicate na 32))) ++ vby (il (bs B)) = vby (il (bs (blX na 0 B))) := by
  rw [← vbs_append]
  unfold blX
  rw [List.replicate_zero, List.append_nil]
theorem blX_succ (na k : Nat) (B : List UInt8) : vby (il (bs (blX na k B))) ++ vby (il (bs [10])) = vby (il (bs (blX na (k + 1) B))) := by
  rw [← vbs_append]
  unfold blX
  rw [List.append_assoc, ← List.replicate_succ']
theorem blX_lex (na nb : Nat) (B : List UInt8) : lexL 0 (blX na nb B) = moveR na nb (lexL 0 B) := by
  have h := lexL_blanks (List.replicate na 32) (List.replicate nb 10) B (fun c hc => rep_blank rfl hc) (fun c hc => rep_blank rfl hc)
  rw [List.length_replicate, List.length_replicate] at h
  exact h
theorem blX_length (na nb : Nat) (B : List UInt8) : (blX na nb B).length = na + B.length + nb := by unfold blX; simp; omega
theorem infoB3d : (Tryd.prog.info? 5).map (fun i => (i.zero, i.size, i.bytes)) = some (some (.int .u8 0), 1, 1) := by kernel_rfl
set_option maxRecDepth 8000 in
set_option maxHeartbeats 4000000 in
theorem law_tokenBlanks (B : List UInt8) (ah be : Int) (w : World) (a : Option Addr) (len cap : Nat) (h1 : len ≤ cap) (h2 : cap ≤ 9223372036854775807) (hr : IsBytes w B a len) (ha0 : 0 ≤ ah) (ha1 : ah ≤ 255) (hb0 : 0 ≤ be) (hb1 : be ≤ 255) (hk : Knob w) :
    Calls Tryd.prog 16 #[.slice a len cap, .int .u8 ah, .int .u8 be] w (Yes3 w) := by
  obtain ⟨na, rfl⟩ : ∃ na : Nat, ah = na := ⟨ah.toNat, by omega⟩
  obtain ⟨nb, rfl⟩ : ∃ nb : Nat, be = nb := ⟨be.toNat, by omega⟩
  have hlen := hr.length
  have KA := Lib.hid fun W (h : Ext w W) => law03_awake W (hk.ext h)
  have HR := Lib.hid hr
  have HLEN := Lib.hid hlen
  have HK := Lib.hid hk
  have KL := Lib.hid fun W B' a' n' c' (h : Ext w W) (hn : n' ≤ c') (hc : c' ≤ 9223372036854775807) (hb : IsBytes W B' a' n') => token_lex B' W a' n' c' hn hc hb (hk.ext h)
  clear hr hk hlen
  by_cases hbig : 1000 < len
  · have hz : (1000 : Int) < (len : Int) := by omega
    go_enter Tryd.func16, Tryd.ntmps16
    go_wp2_with (go_at_call 41; refine (KA.out _ (by (repeat (first | exact Ext.refl _ | assumption | refine Ext.alloc ?_ _ | refine Ext.drew ?_ | refine Ext.setCell ?_ (by first | (simp; done) | (simp; omega) | omega) _ | refine Ext.trans ?_ (by assumption))))).mono ?_; rintro e w7 ⟨rfl, x7⟩)
    go_ret
    exact ⟨rfl, by (repeat (first | exact Ext.refl _ | assumption | refine Ext.alloc ?_ _ | refine Ext.drew ?_ | refine Ext.setCell ?_ (by first | (simp; done) | (simp; omega) | omega) _ | refine Ext.trans ?_ (by assumption)))⟩
  have hz : (len : Int) ≤ 1000 := by omega
  by_cases hbig2 : 100 < na
  · have hz2 : (100 : Int) < (na : Int) := by omega
    go_enter Tryd.func16, Tryd.ntmps16
    go_wp2_with (go_at_call 41; refine (KA.out _ (by (repeat (first | exact Ext.refl _ | assumption | refine Ext.alloc ?_ _ | refine Ext.drew ?_ | refine Ext.setCell ?_ (by first | (simp; done) | (simp; omega) | omega) _ | refine Ext.trans ?_ (by assumption))))).mono ?_; rintro e w7 ⟨rfl, x7⟩)
    go_ret
    exact ⟨rfl, by (repeat (first | exact Ext.refl _ | assumption | refine Ext.alloc ?_ _ | refine Ext.drew ?_ | refine Ext.setCell ?_ (by first | (simp; done) | (simp; omega) | omega) _ | refine Ext.trans ?_ (by assumption)))⟩
  have hz2 : (na : Int) ≤ 100 := by omega
  by_cases hbig3 : 100 < nb
  · have hz3 : (100 : Int) < (nb : Int) := by omega
    go_enter Tryd.func16, Tryd.ntmps16
    go_wp2_with (go_at_call 41; refine (KA.out _ (by (repeat (first | exact Ext.refl _ | assumption | refine Ext.alloc ?_ _ | refine Ext.drew ?_ | refine Ext.setCell ?_ (by first | (simp; done) | (simp; omega) | omega) _ | refine Ext.trans ?_ (by assumption))))).mono ?_; rintro e w7 ⟨rfl, x7⟩)
    go_ret
    exact ⟨rfl, by (repeat (first | exact Ext.refl _ | assumption | refine Ext.alloc ?_ _ | refine Ext.drew ?_ | refine Ext.setCell ?_ (by first | (simp; done) | (simp; omega) | omega) _ | refine Ext.trans ?_ (by assumption)))⟩
  have hz3 : (nb : Int) ≤ 100 := by omega
  obtain ⟨i0, hi, hi0, hi1, hi2⟩ := info_parts infoB3d
  have HI := Lib.hid (And.intro hi (And.intro hi0 (And.intro hi1 hi2)))
  clear hi hi0 hi1 hi2
  go_enter Tryd.func16, Tryd.ntmps16
  go_wp2_with fail
  go_loopg [7, 8] na (fun g s i wr => ∃ j : Nat, g = na - j ∧ i = .int .i64 j ∧ j ≤ na ∧ wr.ownsRow w.heap.size 5 1 s j (vby (il (bs (List.replicate j 32)))) ∧ Ext w wr)
  case atStart => exact ⟨0, rfl, rfl, Nat.zero_le _, owns_new w w.heap.size 5 1 0 [] (Nat.le_refl _) (by unfold maxLen; omega) rfl, by (repeat (first | exact Ext.refl _ | assumption | refine Ext.alloc ?_ _ | refine Ext.drew ?_ | refine Ext.setCell ?_ (by first | (simp; done) | (simp; omega) | omega) _ | refine Ext.trans ?_ (by assumption)))⟩
  case round =>
    obtain ⟨j, rfl, rfl, hj, hO, hx⟩ := hrel
    have HO := Lib.hid hO
    obtain ⟨sa, sc, rfl, -, -, -⟩ := owns_row1 hO
    clear hO
    by_cases hlt : j < na
    · have hz4 : (j : Int) < (na : Int) := by omega
      go_wp2_with (at_builtin; refine wpList_append_bytes rfl (.tmp 37) (.tmp 38) 67 ?r0 w.heap.size 5 i0 (.int .u8 0) ?r1 ?r2 ?r3 ?r4 ?r5 ?r6 (Value.slice sa j sc) j (vby (il (bs (List.replicate j 32)))) ?r8 ?r9 (some ⟨wr.heap.size, 0, none⟩) 1 1 [32] ?r10 ?r11 ?r12 ?r13 ?r17)
      case r0 => rfl
      case r1 => exact Tryd.underlying67
      case r2 => exact HI.out.1
      case r3 => exact HI.out.2.1
      case r4 => exact HI.out.2.2.1
      case r5 => exact HI.out.2.2.2
      case r6 => rfl
      case r8 => rfl
      case r9 => exact owns_ext ((Ext.refl _).alloc _) HO.out
      case r10 => rfl
      case r11 => exact one_byteB wr 32 _
      case r12 => omega
      case r13 => have := hx.size; simp; omega
      case r17 =>
        intro v9 w9 ho9 hX
        have hX9 := hX w (hx.alloc _) (Nat.le_refl _)
        rw [← vbs_append, ← List.replicate_succ'] at ho9
        have HO9 := Lib.hid ho9
        clear ho9 hX
        go_wp2_with fail
        go_roundg (na - (j + 1))
        case rel => exact ⟨j + 1, rfl, by go_num, by omega, HO9.out, hX9⟩
        case measure => omega
    · obtain rfl : j = na := by omega
      go_wp2_with (at_builtin; refine wpList_append_bytes rfl (.tmp 40) (.tmp 41) 67 ?r0 w.heap.size 5 i0 (.int .u8 0) ?r1 ?r2 ?r3 ?r4 ?r5 ?r6 (Value.slice sa j sc) j (vby (il (bs (List.replicate j 32)))) ?r8 ?r9 a len cap B ?r10 ?r11 ?r12 ?r13 ?r17)
      case r0 => rfl
      case r1 => exact Tryd.underlying67
      case r2 => exact HI.out.1
      case r3 => exact HI.out.2.1
      case r4 => exact HI.out.2.2.1
      case r5 => exact HI.out.2.2.2
      case r6 => rfl
      case r8 => rfl
      case r9 => exact HO.out
      case r10 => rfl
      case r11 => exact HR.out.ext hx
      case r12 => omega
      case r13 => exact hx.size
      case r17 =>
      intro v9 w9 ho9 hX
      have hX9 := hX w hx (Nat.le_refl _)
      have HO9 : Hid (w9.ownsRow w.heap.size 5 1 v9 (j + len) (vby (il (bs (blX j 0 B))))) := Lib.hid (by rw [← blX_zero]; exact ho9)
      clear ho9 hX HO
      go_wp2_with fail
      go_loopg [7, 9] nb (fun g s i wr => ∃ k : Nat, g = nb - k ∧ i = .int .i64 k ∧ k ≤ nb ∧ wr.ownsRow w.heap.size 5 1 s (j + len + k) (vby (il (bs (blX j k B)))) ∧ Ext w wr)
      case atStart => exact ⟨0, rfl, rfl, Nat.zero_le _, HO9.out, hX9⟩
      case round =>
        obtain ⟨k, rfl, rfl, hkk, hO, hx⟩ := hrel
        have HO := Lib.hid hO
        obtain ⟨sa, sc, rfl, hs1, hs2, hs3⟩ := owns_row1 hO
        have HS3 := Lib.hid hs3
        clear hO HO9 hs3
        by_cases hlt : k < nb
        · have hz4 : (k : Int) < (nb : Int) := by omega
          go_wp2_with (at_builtin; refine wpList_append_bytes rfl (.tmp 49) (.tmp 50) 67 ?r0 w.heap.size 5 i0 (.int .u8 0) ?r1 ?r2 ?r3 ?r4 ?r5 ?r6 (Value.slice sa (j + len + k) sc) (j + len + k) (vby (il (bs (blX j k B)))) ?r8 ?r9 (some ⟨wr.heap.size, 0, none⟩) 1 1 [10] ?r10 ?r11 ?r12 ?r13 ?r17)
          case r0 => rfl
          case r1 => exact Tryd.underlying67
          case r2 => exact HI.out.1
          case r3 => exact HI.out.2.1
          case r4 => exact HI.out.2.2.1
          case r5 => exact HI.out.2.2.2
          case r6 => rfl
          case r8 => rfl
          case r9 => exact owns_ext ((Ext.refl _).alloc _) HO.out
          case r10 => rfl
          case r11 => exact one_byteB wr 10 _
          case r12 => omega
          case r13 => have := hx.size; simp; omega
          case r17 =>
            intro v9 w9 ho9 hX
            have hX9 := hX w (hx.alloc _) (Nat.le_refl _)
            have HO9 : Hid (w9.ownsRow w.heap.size 5 1 v9 (j + len + k + 1) (vby (il (bs (blX j (k + 1) B))))) := Lib.hid (by rw [← blX_succ]; exact ho9)
            clear ho9 hX
            go_wp2_with fail
            go_roundg (nb - (k + 1))
            case rel => exact ⟨k + 1, rfl, by go_num, by omega, HO9.out, hX9⟩
            case measure => omega
        · obtain rfl : k = nb := by omega
          have hXL : (blX j k B).length ≤ 65536 := by
            have := HLEN.out
            rw [blX_length]
            omega
          have hBX := blX_lex j k B
          have HBX := Lib.hid hBX
          have HB : Hid (IsBytes wr (blX j k B) sa (j + len + k)) := HS3
          generalize hX : blX j k B = X at *
          clear hX
          clear HS3 hBX HO
          rcases lexR_of B (by have := HLEN.out; omega) with ⟨p, hl, hR⟩ | ⟨o, hl, hR⟩
          · have hl2 := HBX.out
            rw [hl] at hl2
            have hpe := lexL_err hl
            have hpl : p ≤ 1000 := by have := HLEN.out; omega
            have K1 := KL.out wr B a len cap hx h1 h2 (HR.out.ext hx)
            have K2 := fun W (h : Ext wr W) => KL.out W X sa (j + len + k) sc (hx.trans h) hs1 hs2 (HB.out.ext h)
            unfold RetLex at K1 K2
            rw [hR] at K1
            rw [lexR_error (by omega) hl2] at K2
            have HK1 := Lib.hid K1
            have HK2 := Lib.hid K2
            clear hR hl hl2 K1 K2 hpe
            have hwp : IntKind.i64.wrap ((p : Int) + (j : Int)) = (p : Int) + j := IntWalk.i64_in _ ⟨by omega, by omega⟩
            go_wp2_with (first | (go_at_call 42; (with_reducible refine (HK1.out).mono ?_); rintro e w1 ⟨ra, rn, rc, rfl, hn1, hn2, ht, x1⟩; have hrn := ht.length; simp only [List.length_nil] at hrn; subst hrn; clear ht) | (go_at_call 42; (with_reducible refine (HK2.out _ x1).mono ?_); rintro e w2 ⟨rb, rm, rd, rfl, hm1, hm2, ht, x2⟩; have hrn := ht.length; simp only [List.length_nil] at hrn; subst hrn; clear ht))
            go_loopg [16] 0 (fun g i wq => i = .int .i64 0 ∧ wq = w2)
            case atStart => exact ⟨rfl, rfl⟩
            case round =>
              obtain ⟨rfl, rfl⟩ := hrel
              go_wp2_with (go_at_call 41; refine (KA.out _ ((hx.trans x1).trans x2)).mono ?_; rintro e w7 ⟨rfl, x7⟩)
              go_ret
              exact ⟨rfl, ((hx.trans x1).trans x2).trans x7⟩
          · have hl2 := HBX.out
            rw [hl] at hl2
            have K1 := KL.out wr B a len cap hx h1 h2 (HR.out.ext hx)
            have K2 := fun W (h : Ext wr W) => KL.out W X sa (j + len + k) sc (hx.trans h) hs1 hs2 (HB.out.ext h)
            unfold RetLex at K1 K2
            rw [hR] at K1
            rw [lexR_ok (by omega) hl2] at K2
            have HK1 := Lib.hid K1
            have HK2 := Lib.hid K2
            have HP := Lib.hid (placed_le (lexL_placed B hl (List.drop_zero) (Nat.zero_le _) 0 (Nat.le_refl _) (fun k _ hk => by omega)))
            clear hR hl hl2 K1 K2
            go_wp2_with (first | (go_at_call 42; (with_reducible refine (HK1.out).mono ?_); rintro e w1 ⟨ra, rn, rc, rfl, hn1, hn2, ht, x1⟩; have hrn := ht.length; rw [List.length_map] at hrn; subst hrn; have HT1 := Lib.hid ht; clear ht) | (go_at_call 42; (with_reducible refine (HK2.out _ x1).mono ?_); rintro e w2 ⟨rb, rm, rd, rfl, hm1, hm2, ht, x2⟩; have hrn := ht.length; rw [List.length_map, List.length_map] at hrn; subst hrn; have HT2 := Lib.hid ht; clear ht))
            go_loopg [16] (o.length) (fun g i wq => ∃ q : Nat, g = o.length - q ∧ i = .int .i64 q ∧ q ≤ o.length ∧ Ext w2 wq)
            case atStart => exact ⟨0, rfl, rfl, Nat.zero_le _, Ext.refl _⟩
            case round =>
              obtain ⟨q, rfl, rfl, hq, hxq⟩ := hrel
              by_cases hlt : q < o.length
              · have hz5 : (q : Int) < (o.length : Int) := by omega
                obtain ⟨t1', b1, o1, g1, hf1, rfl, p0, p1, p2⟩ := (HT1.out.ext (x2.trans hxq)).at3 hlt
                obtain ⟨t2', b2, o2, g2, hf2, rfl, r0, r1, r2⟩ := (HT2.out.ext hxq).at3 hlt
                obtain ⟨t, ht⟩ : ∃ t, o[q]? = some t := ⟨o[q], List.getElem?_eq_getElem hlt⟩
                have hpos := HP.out t (List.mem_of_getElem? ht)
                have hpl : t.pos ≤ 1000 := by have := HLEN.out; omega
                rw [List.getElem?_map, ht] at g1
                cases g1
                rw [List.getElem?_map, List.getElem?_map, ht] at g2
                cases g2
                clear ht hf1 hf2 hpos
                obtain ⟨tk, tt, tp⟩ := t
                simp only [Tok.tk, Tok.moved] at p0 p1 p2 r0 r1 r2 hpl
                have hw1 : IntKind.i64.wrap ((tp : Int) + (j : Int)) = (tp : Int) + j := IntWalk.i64_in _ ⟨by omega, by omega⟩
                have hw2 : IntKind.i64.wrap ((tp : Int) + (j : Int) + (k : Int)) = (tp : Int) + j + k := IntWalk.i64_in _ ⟨by omega, by omega⟩
                by_cases h6 : tk = 6
                · subst h6
                  rw [if_pos rfl, Int.natCast_add, Int.natCast_add] at r2
                  go_upto_region 23 with fail
                  have n0 := fun W (h : Ext wr W) => h.cell p0
                  have n1 := fun W (h : Ext wr W) => h.cell p1
                  have m0 := fun W (h : Ext wr W) => h.cell r0
                  have m1 := fun W (h : Ext wr W) => h.cell r1
                  have m2 := fun W (h : Ext wr W) => h.cell r2
                  clear p0 p1 p2 r0 r1 r2
                  refine wp_region_held_drew (S := fun w' => Ext wr w') (by kernel_rfl) (by (try dsimp only); (repeat (first | exact Ext.refl _ | assumption | refine Ext.alloc ?_ _ | refine Ext.drew ?_ | refine Ext.setCell ?_ (by first | (simp; done) | (simp; omega) | omega) _ | refine Ext.trans ?_ (by assumption)))) (fun hHeld => ?_)
                  refine held_take 0 (v := ?_) rfl (by kernel_rfl) (by kernel_rfl) (by kernel_rfl) (fun _ _ _ h => h) (by assumption) (by rfl) ?_ ?_; rotate_left; (focus (intro w hSw; (try dsimp only at hSw); go_simp; (try with_reducible rfl))); try simp only [Act.put, List.setIfInBounds_toArray, List.set_cons_zero, List.set_cons_succ]
                  refine held_take 1 (v := ?_) rfl (by kernel_rfl) (by kernel_rfl) (by kernel_rfl) (fun _ _ _ h => h) (by assumption) (by rfl) ?_ ?_; rotate_left; (focus (intro w hSw; (try dsimp only at hSw); go_simp; (try with_reducible rfl))); try simp only [Act.put, List.setIfInBounds_toArray, List.set_cons_zero, List.set_cons_succ]
                  refine held_take 2 (v := ?_) rfl (by kernel_rfl) (by kernel_rfl) (by kernel_rfl) (fun _ _ _ h => h) (by assumption) (by rfl) ?_ ?_; rotate_left; (focus (intro w hSw; (try dsimp only at hSw); go_simp; (try with_reducible rfl))); try simp only [Act.put, List.setIfInBounds_toArray, List.set_cons_zero, List.set_cons_succ]
                  refine held_take 3 (v := ?_) rfl (by kernel_rfl) (by kernel_rfl) (by kernel_rfl) (fun _ _ _ h => h) (by assumption) (by rfl) ?_ ?_; rotate_left; (focus (intro w hSw; (try dsimp only at hSw); go_simp; (try with_reducible rfl))); try simp only [Act.put, List.setIfInBounds_toArray, List.set_cons_zero, List.set_cons_succ]
                  refine held_take 4 (v := ?_) rfl (by kernel_rfl) (by kernel_rfl) (by kernel_rfl) (fun _ _ _ h => h) (by assumption) (by rfl) ?_ ?_; rotate_left; (focus (intro w hSw; (try dsimp only at hSw); go_simp; (try with_reducible rfl))); try simp only [Act.put, List.setIfInBounds_toArray, List.set_cons_zero, List.set_cons_succ]
                  refine held_take 5 (v := ?_) rfl (by kernel_rfl) (by kernel_rfl) (by kernel_rfl) (fun _ _ _ h => h) (by assumption) (by rfl) ?_ ?_; rotate_left; (focus (intro w hSw; (try dsimp only at hSw); go_simp; (try with_reducible rfl))); try simp only [Act.put, List.setIfInBounds_toArray, List.set_cons_zero, List.set_cons_succ]
                  refine held_take 6 (v := ?_) rfl (by kernel_rfl) (by kernel_rfl) (by kernel_rfl) (fun _ _ _ h => h) (by assumption) (by rfl) ?_ ?_; rotate_left; (focus (intro w hSw; (try dsimp only at hSw); go_simp; (try with_reducible rfl))); try simp only [Act.put, List.setIfInBounds_toArray, List.set_cons_zero, List.set_cons_succ]
                  refine held_take 7 (v := ?_) rfl (by kernel_rfl) (by kernel_rfl) (by kernel_rfl) (fun _ _ _ h => h) (by assumption) (by rfl) ?_ ?_; rotate_left; (focus (intro w hSw; (try dsimp only at hSw); go_simp; (try with_reducible rfl))); try simp only [Act.put, List.setIfInBounds_toArray, List.set_cons_zero, List.set_cons_succ]
                  refine held_take 8 (v := ?_) rfl (by kernel_rfl) (by kernel_rfl) (by kernel_rfl) (fun _ _ _ h => h) (by assumption) (by rfl) ?_ ?_; rotate_left; (focus (intro w hSw; (try dsimp only at hSw); go_simp; (try with_reducible rfl))); try simp only [Act.put, List.setIfInBounds_toArray, List.set_cons_zero, List.set_cons_succ]
                  refine held_take 9 (v := ?_) rfl (by kernel_rfl) (by kernel_rfl) (by kernel_rfl) (fun _ _ _ h => h) (by assumption) (by rfl) ?_ ?_; rotate_left; (focus (intro w hSw; (try dsimp only at hSw); go_simp; (try with_reducible rfl))); try simp only [Act.put, List.setIfInBounds_toArray, List.set_cons_zero, List.set_cons_succ]
                  refine held_take 10 (v := ?_) rfl (by kernel_rfl) (by kernel_rfl) (by kernel_rfl) (fun _ _ _ h => h) (by assumption) (by rfl) ?_ ?_; rotate_left; (focus (intro w hSw; (try dsimp only at hSw); go_simp; (try with_reducible rfl))); try simp only [Act.put, List.setIfInBounds_toArray, List.set_cons_zero, List.set_cons_succ]
                  refine held_take 11 (v := ?_) rfl (by kernel_rfl) (by kernel_rfl) (by kernel_rfl) (fun _ _ _ h => h) (by assumption) (by rfl) ?_ ?_; rotate_left; (focus (intro w hSw; (try dsimp only at hSw); go_simp; (try with_reducible rfl))); try simp only [Act.put, List.setIfInBounds_toArray, List.set_cons_zero, List.set_cons_succ]
                  first | (refine held_take 12 (v := ?_) rfl (by kernel_rfl) (by kernel_rfl) (by kernel_rfl) (fun _ _ _ h => h) (by assumption) (by rfl) ?_ ?_; rotate_left; (focus (intro w hSw; (try dsimp only at hSw); go_simp; (try with_reducible rfl))); try simp only [Act.put, List.setIfInBounds_toArray, List.set_cons_zero, List.set_cons_succ]) | (refine held_skip 12 rfl (by kernel_rfl) (by kernel_rfl) (by kernel_rfl) (fun _ _ _ h => h) (by assumption) (by rfl) ?_; try simp only [Act.put, List.setIfInBounds_toArray, List.set_cons_zero, List.set_cons_succ])
                  first | (refine held_take 13 (v := ?_) rfl (by kernel_rfl) (by kernel_rfl) (by kernel_rfl) (fun _ _ _ h => h) (by assumption) (by rfl) ?_ ?_; rotate_left; (focus (intro w hSw; (try dsimp only at hSw); go_simp; (try with_reducible rfl))); try simp only [Act.put, List.setIfInBounds_toArray, List.set_cons_zero, List.set_cons_succ]) | (refine held_skip 13 rfl (by kernel_rfl) (by kernel_rfl) (by kernel_rfl) (fun _ _ _ h => h) (by assumption) (by rfl) ?_; try simp only [Act.put, List.setIfInBounds_toArray, List.set_cons_zero, List.set_cons_succ])
                  first | (refine held_take 14 (v := ?_) rfl (by kernel_rfl) (by kernel_rfl) (by kernel_rfl) (fun _ _ _ h => h) (by assumption) (by rfl) ?_ ?_; rotate_left; (focus (intro w hSw; (try dsimp only at hSw); go_simp; (try with_reducible rfl))); try simp only [Act.put, List.setIfInBounds_toArray, List.set_cons_zero, List.set_cons_succ]) | (refine held_skip 14 rfl (by kernel_rfl) (by kernel_rfl) (by kernel_rfl) (fun _ _ _ h => h) (by assumption) (by rfl) ?_; try simp only [Act.put, List.setIfInBounds_toArray, List.set_cons_zero, List.set_cons_succ])
                  first | (refine held_take 15 (v := ?_) rfl (by kernel_rfl) (by kernel_rfl) (by kernel_rfl) (fun _ _ _ h => h) (by assumption) (by rfl) ?_ ?_; rotate_left; (focus (intro w hSw; (try dsimp only at hSw); go_simp; (try with_reducible rfl))); try simp only [Act.put, List.setIfInBounds_toArray, List.set_cons_zero, List.set_cons_succ]) | (refine held_skip 15 rfl (by kernel_rfl) (by kernel_rfl) (by kernel_rfl) (fun _ _ _ h => h) (by assumption) (by rfl) ?_; try simp only [Act.put, List.setIfInBounds_toArray, List.set_cons_zero, List.set_cons_succ])
                  first | (refine held_take 16 (v := ?_) rfl (by kernel_rfl) (by kernel_rfl) (by kernel_rfl) (fun _ _ _ h => h) (by assumption) (by rfl) ?_ ?_; rotate_left; (focus (intro w hSw; (try dsimp only at hSw); go_simp; (try with_reducible rfl))); try simp only [Act.put, List.setIfInBounds_toArray, List.set_cons_zero, List.set_cons_succ]) | (refine held_skip 16 rfl (by kernel_rfl) (by kernel_rfl) (by kernel_rfl) (fun _ _ _ h => h) (by assumption) (by rfl) ?_; try simp only [Act.put, List.setIfInBounds_toArray, List.set_cons_zero, List.set_cons_succ])
                  first | (refine held_take 17 (v := ?_) rfl (by kernel_rfl) (by kernel_rfl) (by kernel_rfl) (fun _ _ _ h => h) (by assumption) (by rfl) ?_ ?_; rotate_left; (focus (intro w hSw; (try dsimp only at hSw); go_simp; (try with_reducible rfl))); try simp only [Act.put, List.setIfInBounds_toArray, List.set_cons_zero, List.set_cons_succ]) | (refine held_skip 17 rfl (by kernel_rfl) (by kernel_rfl) (by kernel_rfl) (fun _ _ _ h => h) (by assumption) (by rfl) ?_; try simp only [Act.put, List.setIfInBounds_toArray, List.set_cons_zero, List.set_cons_succ])
                  first | (refine held_take 18 (v := ?_) rfl (by kernel_rfl) (by kernel_rfl) (by kernel_rfl) (fun _ _ _ h => h) (by assumption) (by rfl) ?_ ?_; rotate_left; (focus (intro w hSw; (try dsimp only at hSw); go_simp; (try with_reducible rfl))); try simp only [Act.put, List.setIfInBounds_toArray, List.set_cons_zero, List.set_cons_succ]) | (refine held_skip 18 rfl (by kernel_rfl) (by kernel_rfl) (by kernel_rfl) (fun _ _ _ h => h) (by assumption) (by rfl) ?_; try simp only [Act.put, List.setIfInBounds_toArray, List.set_cons_zero, List.set_cons_succ])
                  first | (refine held_take 19 (v := ?_) rfl (by kernel_rfl) (by kernel_rfl) (by kernel_rfl) (fun _ _ _ h => h) (by assumption) (by rfl) ?_ ?_; rotate_left; (focus (intro w hSw; (try dsimp only at hSw); go_simp; (try with_reducible rfl))); try simp only [Act.put, List.setIfInBounds_toArray, List.set_cons_zero, List.set_cons_succ]) | (refine held_skip 19 rfl (by kernel_rfl) (by kernel_rfl) (by kernel_rfl) (fun _ _ _ h => h) (by assumption) (by rfl) ?_; try simp only [Act.put, List.setIfInBounds_toArray, List.set_cons_zero, List.set_cons_succ])
                  first | (refine held_take 20 (v := ?_) rfl (by kernel_rfl) (by kernel_rfl) (by kernel_rfl) (fun _ _ _ h => h) (by assumption) (by rfl) ?_ ?_; rotate_left; (focus (intro w hSw; (try dsimp only at hSw); go_simp; (try with_reducible rfl))); try simp only [Act.put, List.setIfInBounds_toArray, List.set_cons_zero, List.set_cons_succ]) | (refine held_skip 20 rfl (by kernel_rfl) (by kernel_rfl) (by kernel_rfl) (fun _ _ _ h => h) (by assumption) (by rfl) ?_; try simp only [Act.put, List.setIfInBounds_toArray, List.set_cons_zero, List.set_cons_succ])
                  first | (refine held_take 21 (v := ?_) rfl (by kernel_rfl) (by kernel_rfl) (by kernel_rfl) (fun _ _ _ h => h) (by assumption) (by rfl) ?_ ?_; rotate_left; (focus (intro w hSw; (try dsimp only at hSw); go_simp; (try with_reducible rfl))); try simp only [Act.put, List.setIfInBounds_toArray, List.set_cons_zero, List.set_cons_succ]) | (refine held_skip 21 rfl (by kernel_rfl) (by kernel_rfl) (by kernel_rfl) (fun _ _ _ h => h) (by assumption) (by rfl) ?_; try simp only [Act.put, List.setIfInBounds_toArray, List.set_cons_zero, List.set_cons_succ])
                  first | (refine held_take 22 (v := ?_) rfl (by kernel_rfl) (by kernel_rfl) (by kernel_rfl) (fun _ _ _ h => h) (by assumption) (by rfl) ?_ ?_; rotate_left; (focus (intro w hSw; (try dsimp only at hSw); go_simp; (try with_reducible rfl))); try simp only [Act.put, List.setIfInBounds_toArray, List.set_cons_zero, List.set_cons_succ]) | (refine held_skip 22 rfl (by kernel_rfl) (by kernel_rfl) (by kernel_rfl) (fun _ _ _ h => h) (by assumption) (by rfl) ?_; try simp only [Act.put, List.setIfInBounds_toArray, List.set_cons_zero, List.set_cons_succ])
                  refine held_take 23 (v := ?_) rfl (by kernel_rfl) (by kernel_rfl) (by kernel_rfl) (fun _ _ _ h => h) (by assumption) (by rfl) ?_ ?_; rotate_left; (focus (intro w hSw; (try dsimp only at hSw); go_simp; (try with_reducible rfl))); try simp only [Act.put, List.setIfInBounds_toArray, List.set_cons_zero, List.set_cons_succ]
                  refine held_take 24 (v := ?_) rfl (by kernel_rfl) (by kernel_rfl) (by kernel_rfl) (fun _ _ _ h => h) (by assumption) (by rfl) ?_ ?_; rotate_left; (focus (intro w hSw; (try dsimp only at hSw); go_simp; (try with_reducible rfl))); try simp only [Act.put, List.setIfInBounds_toArray, List.set_cons_zero, List.set_cons_succ]
                  first | (refine held_take 25 (v := ?_) rfl (by kernel_rfl) (by kernel_rfl) (by kernel_rfl) (fun _ _ _ h => h) (by assumption) (by rfl) ?_ ?_; rotate_left; (focus (intro w hSw; (try dsimp only at hSw); go_simp; (try with_reducible rfl))); try simp only [Act.put, List.setIfInBounds_toArray, List.set_cons_zero, List.set_cons_succ]) | (refine held_skip 25 rfl (by kernel_rfl) (by kernel_rfl) (by kernel_rfl) (fun _ _ _ h => h) (by assumption) (by rfl) ?_; try simp only [Act.put, List.setIfInBounds_toArray, List.set_cons_zero, List.set_cons_succ])
                  first | (refine held_take 26 (v := ?_) rfl (by kernel_rfl) (by kernel_rfl) (by kernel_rfl) (fun _ _ _ h => h) (by assumption) (by rfl) ?_ ?_; rotate_left; (focus (intro w hSw; (try dsimp only at hSw); go_simp; (try with_reducible rfl))); try simp only [Act.put, List.setIfInBounds_toArray, List.set_cons_zero, List.set_cons_succ]) | (refine held_skip 26 rfl (by kernel_rfl) (by kernel_rfl) (by kernel_rfl) (fun _ _ _ h => h) (by assumption) (by rfl) ?_; try simp only [Act.put, List.setIfInBounds_toArray, List.set_cons_zero, List.set_cons_succ])
                  first | (refine held_take 27 (v := ?_) rfl (by kernel_rfl) (by kernel_rfl) (by kernel_rfl) (fun _ _ _ h => h) (by assumption) (by rfl) ?_ ?_; rotate_left; (focus (intro w hSw; (try dsimp only at hSw); go_simp; (try with_reducible rfl))); try simp only [Act.put, List.setIfInBounds_toArray, List.set_cons_zero, List.set_cons_succ]) | (refine held_skip 27 rfl (by kernel_rfl) (by kernel_rfl) (by kernel_rfl) (fun _ _ _ h => h) (by assumption) (by rfl) ?_; try simp only [Act.put, List.setIfInBounds_toArray, List.set_cons_zero, List.set_cons_succ])
                  first | (refine held_take 28 (v := ?_) rfl (by kernel_rfl) (by kernel_rfl) (by kernel_rfl) (fun _ _ _ h => h) (by assumption) (by rfl) ?_ ?_; rotate_left; (focus (intro w hSw; (try dsimp only at hSw); go_simp; (try with_reducible rfl))); try simp only [Act.put, List.setIfInBounds_toArray, List.set_cons_zero, List.set_cons_succ]) | (refine held_skip 28 rfl (by kernel_rfl) (by kernel_rfl) (by kernel_rfl) (fun _ _ _ h => h) (by assumption) (by rfl) ?_; try simp only [Act.put, List.setIfInBounds_toArray, List.set_cons_zero, List.set_cons_succ])
                  first | (refine held_take 29 (v := ?_) rfl (by kernel_rfl) (by kernel_rfl) (by kernel_rfl) (fun _ _ _ h => h) (by assumption) (by rfl) ?_ ?_; rotate_left; (focus (intro w hSw; (try dsimp only at hSw); go_simp; (try with_reducible rfl))); try simp only [Act.put, List.setIfInBounds_toArray, List.set_cons_zero, List.set_cons_succ]) | (refine held_skip 29 rfl (by kernel_rfl) (by kernel_rfl) (by kernel_rfl) (fun _ _ _ h => h) (by assumption) (by rfl) ?_; try simp only [Act.put, List.setIfInBounds_toArray, List.set_cons_zero, List.set_cons_succ])
                  first | (refine held_take 30 (v := ?_) rfl (by kernel_rfl) (by kernel_rfl) (by kernel_rfl) (fun _ _ _ h => h) (by assumption) (by rfl) ?_ ?_; rotate_left; (focus (intro w hSw; (try dsimp only at hSw); go_simp; (try with_reducible rfl))); try simp only [Act.put, List.setIfInBounds_toArray, List.set_cons_zero, List.set_cons_succ]) | (refine held_skip 30 rfl (by kernel_rfl) (by kernel_rfl) (by kernel_rfl) (fun _ _ _ h => h) (by assumption) (by rfl) ?_; try simp only [Act.put, List.setIfInBounds_toArray, List.set_cons_zero, List.set_cons_succ])
                  first | (refine held_take 31 (v := ?_) rfl (by kernel_rfl) (by kernel_rfl) (by kernel_rfl) (fun _ _ _ h => h) (by assumption) (by rfl) ?_ ?_; rotate_left; (focus (intro w hSw; (try dsimp only at hSw); go_simp; (try with_reducible rfl))); try simp only [Act.put, List.setIfInBounds_toArray, List.set_cons_zero, List.set_cons_succ]) | (refine held_skip 31 rfl (by kernel_rfl) (by kernel_rfl) (by kernel_rfl) (fun _ _ _ h => h) (by assumption) (by rfl) ?_; try simp only [Act.put, List.setIfInBounds_toArray, List.set_cons_zero, List.set_cons_succ])
                  refine held_take 32 (v := ?_) rfl (by kernel_rfl) (by kernel_rfl) (by kernel_rfl) (fun _ _ _ h => h) (by assumption) (by rfl) ?_ ?_; rotate_left; (focus (intro w hSw; (try dsimp only at hSw); go_simp; (try with_reducible rfl))); try simp only [Act.put, List.setIfInBounds_toArray, List.set_cons_zero, List.set_cons_succ]
                  refine wpAnyH_done (by kernel_rfl) ?_ _
                  go_wp2_with fail
                  go_roundg (o.length - (q + 1))
                  case rel => exact ⟨q + 1, rfl, by go_num, by omega, hxq.trans hHeld⟩
                  case measure => omega
                · rw [if_neg h6, Nat.add_zero, Int.natCast_add] at r2
                  go_upto_region 23 with fail
                  have n0 := fun W (h : Ext wr W) => h.cell p0
                  have n1 := fun W (h : Ext wr W) => h.cell p1
                  have m0 := fun W (h : Ext wr W) => h.cell r0
                  have m1 := fun W (h : Ext wr W) => h.cell r1
                  have m2 := fun W (h : Ext wr W) => h.cell r2
                  clear p0 p1 p2 r0 r1 r2
                  refine wp_region_held_drew (S := fun w' => Ext wr w') (by kernel_rfl) (by (try dsimp only); (repeat (first | exact Ext.refl _ | assumption | refine Ext.alloc ?_ _ | refine Ext.drew ?_ | refine Ext.setCell ?_ (by first | (simp; done) | (simp; omega) | omega) _ | refine Ext.trans ?_ (by assumption)))) (fun hHeld => ?_)
                  refine held_take 0 (v := ?_) rfl (by kernel_rfl) (by kernel_rfl) (by kernel_rfl) (fun _ _ _ h => h) (by assumption) (by rfl) ?_ ?_; rotate_left; (focus (intro w hSw; (try dsimp only at hSw); go_simp; (try with_reducible rfl))); try simp only [Act.put, List.setIfInBounds_toArray, List.set_cons_zero, List.set_cons_succ]
                  refine held_take 1 (v := ?_) rfl (by kernel_rfl) (by kernel_rfl) (by kernel_rfl) (fun _ _ _ h => h) (by assumption) (by rfl) ?_ ?_; rotate_left; (focus (intro w hSw; (try dsimp only at hSw); go_simp; (try with_reducible rfl))); try simp only [Act.put, List.setIfInBounds_toArray, List.set_cons_zero, List.set_cons_succ]
                  refine held_take 2 (v := ?_) rfl (by kernel_rfl) (by kernel_rfl) (by kernel_rfl) (fun _ _ _ h => h) (by assumption) (by rfl) ?_ ?_; rotate_left; (focus (intro w hSw; (try dsimp only at hSw); go_simp; (try with_reducible rfl))); try simp only [Act.put, List.setIfInBounds_toArray, List.set_cons_zero, List.set_cons_succ]
                  refine held_take 3 (v := ?_) rfl (by kernel_rfl) (by kernel_rfl) (by kernel_rfl) (fun _ _ _ h => h) (by assumption) (by rfl) ?_ ?_; rotate_left; (focus (intro w hSw; (try dsimp only at hSw); go_simp; (try with_reducible rfl))); try simp only [Act.put, List.setIfInBounds_toArray, List.set_cons_zero, List.set_cons_succ]
                  refine held_take 4 (v := ?_) rfl (by kernel_rfl) (by kernel_rfl) (by kernel_rfl) (fun _ _ _ h => h) (by assumption) (by rfl) ?_ ?_; rotate_left; (focus (intro w hSw; (try dsimp only at hSw); go_simp; (try with_reducible rfl))); try simp only [Act.put, List.setIfInBounds_toArray, List.set_cons_zero, List.set_cons_succ]
                  refine held_take 5 (v := ?_) rfl (by kernel_rfl) (by kernel_rfl) (by kernel_rfl) (fun _ _ _ h => h) (by assumption) (by rfl) ?_ ?_; rotate_left; (focus (intro w hSw; (try dsimp only at hSw); go_simp; (try with_reducible rfl))); try simp only [Act.put, List.setIfInBounds_toArray, List.set_cons_zero, List.set_cons_succ]
                  refine held_take 6 (v := ?_) rfl (by kernel_rfl) (by kernel_rfl) (by kernel_rfl) (fun _ _ _ h => h) (by assumption) (by rfl) ?_ ?_; rotate_left; (focus (intro w hSw; (try dsimp only at hSw); go_simp; (try with_reducible rfl))); try simp only [Act.put, List.setIfInBounds_toArray, List.set_cons_zero, List.set_cons_succ]
                  refine held_take 7 (v := ?_) rfl (by kernel_rfl) (by kernel_rfl) (by kernel_rfl) (fun _ _ _ h => h) (by assumption) (by rfl) ?_ ?_; rotate_left; (focus (intro w hSw; (try dsimp only at hSw); go_simp; (try with_reducible rfl))); try simp only [Act.put, List.setIfInBounds_toArray, List.set_cons_zero, List.set_cons_succ]
                  refine held_take 8 (v := ?_) rfl (by kernel_rfl) (by kernel_rfl) (by kernel_rfl) (fun _ _ _ h => h) (by assumption) (by rfl) ?_ ?_; rotate_left; (focus (intro w hSw; (try dsimp only at hSw); go_simp; (try with_reducible rfl))); try simp only [Act.put, List.setIfInBounds_toArray, List.set_cons_zero, List.set_cons_succ]
                  refine held_take 9 (v := ?_) rfl (by kernel_rfl) (by kernel_rfl) (by kernel_rfl) (fun _ _ _ h => h) (by assumption) (by rfl) ?_ ?_; rotate_left; (focus (intro w hSw; (try dsimp only at hSw); go_simp; (try with_reducible rfl))); try simp only [Act.put, List.setIfInBounds_toArray, List.set_cons_zero, List.set_cons_succ]
                  refine held_take 10 (v := ?_) rfl (by kernel_rfl) (by kernel_rfl) (by kernel_rfl) (fun _ _ _ h => h) (by assumption) (by rfl) ?_ ?_; rotate_left; (focus (intro w hSw; (try dsimp only at hSw); go_simp; (try with_reducible rfl))); try simp only [Act.put, List.setIfInBounds_toArray, List.set_cons_zero, List.set_cons_succ]
                  refine held_take 11 (v := ?_) rfl (by kernel_rfl) (by kernel_rfl) (by kernel_rfl) (fun _ _ _ h => h) (by assumption) (by rfl) ?_ ?_; rotate_left; (focus (intro w hSw; (try dsimp only at hSw); go_simp; (try with_reducible rfl))); try simp only [Act.put, List.setIfInBounds_toArray, List.set_cons_zero, List.set_cons_succ]
                  first | (refine held_take 12 (v := ?_) rfl (by kernel_rfl) (by kernel_rfl) (by kernel_rfl) (fun _ _ _ h => h) (by assumption) (by rfl) ?_ ?_; rotate_left; (focus (intro w hSw; (try dsimp only at hSw); go_simp; (try with_reducible rfl))); try simp only [Act.put, List.setIfInBounds_toArray, List.set_cons_zero, List.set_cons_succ]) | (refine held_skip 12 rfl (by kernel_rfl) (by kernel_rfl) (by kernel_rfl) (fun _ _ _ h => h) (by assumption) (by rfl) ?_; try simp only [Act.put, List.setIfInBounds_toArray, List.set_cons_zero, List.set_cons_succ])
                  first | (refine held_take 13 (v := ?_) rfl (by kernel_rfl) (by kernel_rfl) (by kernel_rfl) (fun _ _ _ h => h) (by assumption) (by rfl) ?_ ?_; rotate_left; (focus (intro w hSw; (try dsimp only at hSw); go_simp; (try with_reducible rfl))); try simp only [Act.put, List.setIfInBounds_toArray, List.set_cons_zero, List.set_cons_succ]) | (refine held_skip 13 rfl (by kernel_rfl) (by kernel_rfl) (by kernel_rfl) (fun _ _ _ h => h) (by assumption) (by rfl) ?_; try simp only [Act.put, List.setIfInBounds_toArray, List.set_cons_zero, List.set_cons_succ])
                  first | (refine held_take 14 (v := ?_) rfl (by kernel_rfl) (by kernel_rfl) (by kernel_rfl) (fun _ _ _ h => h) (by assumption) (by rfl) ?_ ?_; rotate_left; (focus (intro w hSw; (try dsimp only at hSw); go_simp; (try with_reducible rfl))); try simp only [Act.put, List.setIfInBounds_toArray, List.set_cons_zero, List.set_cons_succ]) | (refine held_skip 14 rfl (by kernel_rfl) (by kernel_rfl) (by kernel_rfl) (fun _ _ _ h => h) (by assumption) (by rfl) ?_; try simp only [Act.put, List.setIfInBounds_toArray, List.set_cons_zero, List.set_cons_succ])
                  first | (refine held_take 15 (v := ?_) rfl (by kernel_rfl) (by kernel_rfl) (by kernel_rfl) (fun _ _ _ h => h) (by assumption) (by rfl) ?_ ?_; rotate_left; (focus (intro w hSw; (try dsimp only at hSw); go_simp; (try with_reducible rfl))); try simp only [Act.put, List.setIfInBounds_toArray, List.set_cons_zero, List.set_cons_succ]) | (refine held_skip 15 rfl (by kernel_rfl) (by kernel_rfl) (by kernel_rfl) (fun _ _ _ h => h) (by assumption) (by rfl) ?_; try simp only [Act.put, List.setIfInBounds_toArray, List.set_cons_zero, List.set_cons_succ])
                  first | (refine held_take 16 (v := ?_) rfl (by kernel_rfl) (by kernel_rfl) (by kernel_rfl) (fun _ _ _ h => h) (by assumption) (by rfl) ?_ ?_; rotate_left; (focus (intro w hSw; (try dsimp only at hSw); go_simp; (try with_reducible rfl))); try simp only [Act.put, List.setIfInBounds_toArray, List.set_cons_zero, List.set_cons_succ]) | (refine held_skip 16 rfl (by kernel_rfl) (by kernel_rfl) (by kernel_rfl) (fun _ _ _ h => h) (by assumption) (by rfl) ?_; try simp only [Act.put, List.setIfInBounds_toArray, List.set_cons_zero, List.set_cons_succ])
                  first | (refine held_take 17 (v := ?_) rfl (by kernel_rfl) (by kernel_rfl) (by kernel_rfl) (fun _ _ _ h => h) (by assumption) (by rfl) ?_ ?_; rotate_left; (focus (intro w hSw; (try dsimp only at hSw); go_simp; (try with_reducible rfl))); try simp only [Act.put, List.setIfInBounds_toArray, List.set_cons_zero, List.set_cons_succ]) | (refine held_skip 17 rfl (by kernel_rfl) (by kernel_rfl) (by kernel_rfl) (fun _ _ _ h => h) (by assumption) (by rfl) ?_; try simp only [Act.put, List.setIfInBounds_toArray, List.set_cons_zero, List.set_cons_succ])
                  first | (refine held_take 18 (v := ?_) rfl (by kernel_rfl) (by kernel_rfl) (by kernel_rfl) (fun _ _ _ h => h) (by assumption) (by rfl) ?_ ?_; rotate_left; (focus (intro w hSw; (try dsimp only at hSw); go_simp; (try with_reducible rfl))); try simp only [Act.put, List.setIfInBounds_toArray, List.set_cons_zero, List.set_cons_succ]) | (refine held_skip 18 rfl (by kernel_rfl) (by kernel_rfl) (by kernel_rfl) (fun _ _ _ h => h) (by assumption) (by rfl) ?_; try simp only [Act.put, List.setIfInBounds_toArray, List.set_cons_zero, List.set_cons_succ])
                  first | (refine held_take 19 (v := ?_) rfl (by kernel_rfl) (by kernel_rfl) (by kernel_rfl) (fun _ _ _ h => h) (by assumption) (by rfl) ?_ ?_; rotate_left; (focus (intro w hSw; (try dsimp only at hSw); go_simp; (try with_reducible rfl))); try simp only [Act.put, List.setIfInBounds_toArray, List.set_cons_zero, List.set_cons_succ]) | (refine held_skip 19 rfl (by kernel_rfl) (by kernel_rfl) (by kernel_rfl) (fun _ _ _ h => h) (by assumption) (by rfl) ?_; try simp only [Act.put, List.setIfInBounds_toArray, List.set_cons_zero, List.set_cons_succ])
                  first | (refine held_take 20 (v := ?_) rfl (by kernel_rfl) (by kernel_rfl) (by kernel_rfl) (fun _ _ _ h => h) (by assumption) (by rfl) ?_ ?_; rotate_left; (focus (intro w hSw; (try dsimp only at hSw); go_simp; (try with_reducible rfl))); try simp only [Act.put, List.setIfInBounds_toArray, List.set_cons_zero, List.set_cons_succ]) | (refine held_skip 20 rfl (by kernel_rfl) (by kernel_rfl) (by kernel_rfl) (fun _ _ _ h => h) (by assumption) (by rfl) ?_; try simp only [Act.put, List.setIfInBounds_toArray, List.set_cons_zero, List.set_cons_succ])
                  first | (refine held_take 21 (v := ?_) rfl (by kernel_rfl) (by kernel_rfl) (by kernel_rfl) (fun _ _ _ h => h) (by assumption) (by rfl) ?_ ?_; rotate_left; (focus (intro w hSw; (try dsimp only at hSw); go_simp; (try with_reducible rfl))); try simp only [Act.put, List.setIfInBounds_toArray, List.set_cons_zero, List.set_cons_succ]) | (refine held_skip 21 rfl (by kernel_rfl) (by kernel_rfl) (by kernel_rfl) (fun _ _ _ h => h) (by assumption) (by rfl) ?_; try simp only [Act.put, List.setIfInBounds_toArray, List.set_cons_zero, List.set_cons_succ])
                  first | (refine held_take 22 (v := ?_) rfl (by kernel_rfl) (by kernel_rfl) (by kernel_rfl) (fun _ _ _ h => h) (by assumption) (by rfl) ?_ ?_; rotate_left; (focus (intro w hSw; (try dsimp only at hSw); go_simp; (try with_reducible rfl))); try simp only [Act.put, List.setIfInBounds_toArray, List.set_cons_zero, List.set_cons_succ]) | (refine held_skip 22 rfl (by kernel_rfl) (by kernel_rfl) (by kernel_rfl) (fun _ _ _ h => h) (by assumption) (by rfl) ?_; try simp only [Act.put, List.setIfInBounds_toArray, List.set_cons_zero, List.set_cons_succ])
                  refine held_take 23 (v := ?_) rfl (by kernel_rfl) (by kernel_rfl) (by kernel_rfl) (fun _ _ _ h => h) (by assumption) (by rfl) ?_ ?_; rotate_left; (focus (intro w hSw; (try dsimp only at hSw); go_simp; (try with_reducible rfl))); try simp only [Act.put, List.setIfInBounds_toArray, List.set_cons_zero, List.set_cons_succ]
                  refine held_take 24 (v := ?_) rfl (by kernel_rfl) (by kernel_rfl) (by kernel_rfl) (fun _ _ _ h => h) (by assumption) (by rfl) ?_ ?_; rotate_left; (focus (intro w hSw; (try dsimp only at hSw); go_simp; (try with_reducible rfl))); try simp only [Act.put, List.setIfInBounds_toArray, List.set_cons_zero, List.set_cons_succ]
                  first | (refine held_take 25 (v := ?_) rfl (by kernel_rfl) (by kernel_rfl) (by kernel_rfl) (fun _ _ _ h => h) (by assumption) (by rfl) ?_ ?_; rotate_left; (focus (intro w hSw; (try dsimp only at hSw); go_simp; (try with_reducible rfl))); try simp only [Act.put, List.setIfInBounds_toArray, List.set_cons_zero, List.set_cons_succ]) | (refine held_skip 25 rfl (by kernel_rfl) (by kernel_rfl) (by kernel_rfl) (fun _ _ _ h => h) (by assumption) (by rfl) ?_; try simp only [Act.put, List.setIfInBounds_toArray, List.set_cons_zero, List.set_cons_succ])
                  first | (refine held_take 26 (v := ?_) rfl (by kernel_rfl) (by kernel_rfl) (by kernel_rfl) (fun _ _ _ h => h) (by assumption) (by rfl) ?_ ?_; rotate_left; (focus (intro w hSw; (try dsimp only at hSw); go_simp; (try with_reducible rfl))); try simp only [Act.put, List.setIfInBounds_toArray, List.set_cons_zero, List.set_cons_succ]) | (refine held_skip 26 rfl (by kernel_rfl) (by kernel_rfl) (by kernel_rfl) (fun _ _ _ h => h) (by assumption) (by rfl) ?_; try simp only [Act.put, List.setIfInBounds_toArray, List.set_cons_zero, List.set_cons_succ])
                  first | (refine held_take 27 (v := ?_) rfl (by kernel_rfl) (by kernel_rfl) (by kernel_rfl) (fun _ _ _ h => h) (by assumption) (by rfl) ?_ ?_; rotate_left; (focus (intro w hSw; (try dsimp only at hSw); go_simp; (try with_reducible rfl))); try simp only [Act.put, List.setIfInBounds_toArray, List.set_cons_zero, List.set_cons_succ]) | (refine held_skip 27 rfl (by kernel_rfl) (by kernel_rfl) (by kernel_rfl) (fun _ _ _ h => h) (by assumption) (by rfl) ?_; try simp only [Act.put, List.setIfInBounds_toArray, List.set_cons_zero, List.set_cons_succ])
                  first | (refine held_take 28 (v := ?_) rfl (by kernel_rfl) (by kernel_rfl) (by kernel_rfl) (fun _ _ _ h => h) (by assumption) (by rfl) ?_ ?_; rotate_left; (focus (intro w hSw; (try dsimp only at hSw); go_simp; (try with_reducible rfl))); try simp only [Act.put, List.setIfInBounds_toArray, List.set_cons_zero, List.set_cons_succ]) | (refine held_skip 28 rfl (by kernel_rfl) (by kernel_rfl) (by kernel_rfl) (fun _ _ _ h => h) (by assumption) (by rfl) ?_; try simp only [Act.put, List.setIfInBounds_toArray, List.set_cons_zero, List.set_cons_succ])
                  first | (refine held_take 29 (v := ?_) rfl (by kernel_rfl) (by kernel_rfl) (by kernel_rfl) (fun _ _ _ h => h) (by assumption) (by rfl) ?_ ?_; rotate_left; (focus (intro w hSw; (try dsimp only at hSw); go_simp; (try with_reducible rfl))); try simp only [Act.put, List.setIfInBounds_toArray, List.set_cons_zero, List.set_cons_succ]) | (refine held_skip 29 rfl (by kernel_rfl) (by kernel_rfl) (by kernel_rfl) (fun _ _ _ h => h) (by assumption) (by rfl) ?_; try simp only [Act.put, List.setIfInBounds_toArray, List.set_cons_zero, List.set_cons_succ])
                  first | (refine held_take 30 (v := ?_) rfl (by kernel_rfl) (by kernel_rfl) (by kernel_rfl) (fun _ _ _ h => h) (by assumption) (by rfl) ?_ ?_; rotate_left; (focus (intro w hSw; (try dsimp only at hSw); go_simp; (try with_reducible rfl))); try simp only [Act.put, List.setIfInBounds_toArray, List.set_cons_zero, List.set_cons_succ]) | (refine held_skip 30 rfl (by kernel_rfl) (by kernel_rfl) (by kernel_rfl) (fun _ _ _ h => h) (by assumption) (by rfl) ?_; try simp only [Act.put, List.setIfInBounds_toArray, List.set_cons_zero, List.set_cons_succ])
                  first | (refine held_take 31 (v := ?_) rfl (by kernel_rfl) (by kernel_rfl) (by kernel_rfl) (fun _ _ _ h => h) (by assumption) (by rfl) ?_ ?_; rotate_left; (focus (intro w hSw; (try dsimp only at hSw); go_simp; (try with_reducible rfl))); try simp only [Act.put, List.setIfInBounds_toArray, List.set_cons_zero, List.set_cons_succ]) | (refine held_skip 31 rfl (by kernel_rfl) (by kernel_rfl) (by kernel_rfl) (fun _ _ _ h => h) (by assumption) (by rfl) ?_; try simp only [Act.put, List.setIfInBounds_toArray, List.set_cons_zero, List.set_cons_succ])
                  refine held_take 32 (v := ?_) rfl (by kernel_rfl) (by kernel_rfl) (by kernel_rfl) (fun _ _ _ h => h) (by assumption) (by rfl) ?_ ?_; rotate_left; (focus (intro w hSw; (try dsimp only at hSw); go_simp; (try with_reducible rfl))); try simp only [Act.put, List.setIfInBounds_toArray, List.set_cons_zero, List.set_cons_succ]
                  refine wpAnyH_done (by kernel_rfl) ?_ _
                  go_wp2_with fail
                  go_roundg (o.length - (q + 1))
                  case rel => exact ⟨q + 1, rfl, by go_num, by omega, hxq.trans hHeld⟩
                  case measure => omega
              · obtain rfl : q = o.length := by omega
                go_wp2_with (go_at_call 41; refine (KA.out _ (((hx.trans x1).trans x2).trans hxq)).mono ?_; rintro e w7 ⟨rfl, x7⟩)
                go_ret
                exact ⟨rfl, (((hx.trans x1).trans x2).trans hxq).trans x7⟩
end Go.Proofs.YtmomahgedheekaaDoor

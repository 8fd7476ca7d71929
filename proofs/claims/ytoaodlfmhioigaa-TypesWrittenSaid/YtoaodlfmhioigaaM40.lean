/- A part of the proof of TypesWrittenSaid. No condition. -/
import Derived.Test.YtoaodlfmhioigaaM39
set_option linter.unusedSimpArgs false
set_option linter.unusedVariables false
section
namespace TypesText

theorem head_pre {c : UInt8} {p s : Bytes} (h : pre (c :: p) s = true) : ∃ l, s = c :: l := by
  cases s with
  | nil => simp [pre] at h
  | cons d l =>
    simp only [pre, List.isPrefixOf, Bool.and_eq_true, beq_iff_eq] at h
    exact ⟨l, by rw [h.1]⟩

theorem parts_head {k : Nat} {c : UInt8} {p s : Bytes} (h : pre (c :: p) s = true) (hc : c ≠ 102) : parts (k + 1) s = ([], []) := by
  obtain ⟨l, rfl⟩ := head_pre h
  have hn : pre sFunc (c :: l) = false := by
    rw [Bool.eq_false_iff]
    intro h2
    obtain ⟨l2, h3⟩ := head_pre h2
    injection h3 with h4
    exact hc h4
  rw [parts, if_neg (by rw [hn]; simp)]

theorem parts_nofunc {k : Nat} {s : Bytes} (h : pre sFunc s = false) : parts (k + 1) s = ([], []) := by
  rw [parts, if_neg (by rw [h]; simp)]

theorem parts_func {k : Nat} {s : Bytes} (h : pre sFunc s = true) : parts (k + 1) s = (func (typ k) s).2 := by
  rw [parts, if_pos h]
  unfold func
  cases pars (typ k) (s.length + 1) s 5 [] <;> rfl

section
variable {k : Nat} {s : Bytes}
theorem typ_int (h : pre sInt s = true) : typ (k + 1) s = 3 := by unfold typ; rw [if_pos h]
theorem typ_bool (h1 : pre sInt s = false) (h : pre sBool s = true) : typ (k + 1) s = 4 := by unfold typ; simp only [h1, h, if_true, if_false, Bool.false_eq_true]
theorem typ_string (h1 : pre sInt s = false) (h2 : pre sBool s = false) (h : pre sString s = true) : typ (k + 1) s = 6 := by unfold typ; simp only [h1, h2, h, if_true, if_false, Bool.false_eq_true]
theorem typ_star (h1 : pre sInt s = false) (h2 : pre sBool s = false) (h3 : pre sString s = false) (h : pre sStar s = true) : typ (k + 1) s = if nam (s.drop 1) = 0 then 0 else 1 + nam (s.drop 1) := by
  rw [typ]; simp only [h1, h2, h3, h, if_true, if_false, Bool.false_eq_true]
theorem typ_slice (h1 : pre sInt s = false) (h2 : pre sBool s = false) (h3 : pre sString s = false) (h4 : pre sStar s = false) (h : pre sSlice s = true) : typ (k + 1) s = if typ k (s.drop 2) = 0 then 0 else 2 + typ k (s.drop 2) := by
  rw [typ]; simp only [h1, h2, h3, h4, h, if_true, if_false, Bool.false_eq_true]
theorem typ_chan (h1 : pre sInt s = false) (h2 : pre sBool s = false) (h3 : pre sString s = false) (h4 : pre sStar s = false) (h5 : pre sSlice s = false) (h : pre sChan s = true) : typ (k + 1) s = if typ k (s.drop 5) = 0 then 0 else 5 + typ k (s.drop 5) := by
  rw [typ]; simp only [h1, h2, h3, h4, h5, h, if_true, if_false, Bool.false_eq_true]
theorem typ_func (h1 : pre sInt s = false) (h2 : pre sBool s = false) (h3 : pre sString s = false) (h4 : pre sStar s = false) (h5 : pre sSlice s = false) (h6 : pre sChan s = false) (h : pre sFunc s = true) : typ (k + 1) s = (func (typ k) s).1 := by
  rw [typ]; simp only [h1, h2, h3, h4, h5, h6, h, if_true, if_false, Bool.false_eq_true]
  unfold func
  cases pars (typ k) (s.length + 1) s 5 [] <;> rfl
theorem typ_not (h1 : pre sInt s = false) (h2 : pre sBool s = false) (h3 : pre sString s = false) (h4 : pre sStar s = false) (h5 : pre sSlice s = false) (h6 : pre sChan s = false) (h : pre sFunc s = false) : typ (k + 1) s = 0 := by
  rw [typ]; simp only [h1, h2, h3, h4, h5, h6, h, if_false, Bool.false_eq_true]
end

end TypesText
namespace Go.Proofs.Ytoaodlfmhioigaa.TS
open Go.RowKit TypesText

def PreC (s : ByteArray) (l : Array UInt8) (p : Bytes) : Prop :=
  ∀ w1 : World, Calls Try.prog 20 #[.string s, .string ⟨l⟩] w1 fun e w' => e = .returned (.bool (pre p (tx s))) ∧ w' = w1

theorem preC_any (s : ByteArray) (l : Array UInt8) : PreC s l l.toList := fun w1 => hasPrefix_any s ⟨l⟩ w1

theorem PreC.at {s : ByteArray} {l : Array UInt8} {p : Bytes} {b : Bool} (h : PreC s l p) (hb : pre p (tx s) = b) (w1 : World) : Calls Try.prog 20 #[.string s, .string ⟨l⟩] w1 fun e w' => e = .returned (.bool b) ∧ w' = w1 := by
  subst hb; exact h w1

theorem index61_0 (a b c : ByteArray) (w : World) : (Instr.index 70 (.agg #[.string a, .string b, .string c]) (.int .i64 0)).run Try.prog w = .ok (.string a) w := by
  simp [Instr.index, run_underlying Try.underlying70, asIntOf, go_sem]
theorem index61_1 (a b c : ByteArray) (w : World) : (Instr.index 70 (.agg #[.string a, .string b, .string c]) (.int .i64 1)).run Try.prog w = .ok (.string b) w := by
  simp [Instr.index, run_underlying Try.underlying70, asIntOf, go_sem]
theorem index61_2 (a b c : ByteArray) (w : World) : (Instr.index 70 (.agg #[.string a, .string b, .string c]) (.int .i64 2)).run Try.prog w = .ok (.string c) w := by
  simp [Instr.index, run_underlying Try.underlying70, asIntOf, go_sem]

theorem empty_strV : Value.string ⟨#[]⟩ = strV [] := rfl

set_option maxHeartbeats 1600000 in
set_option maxRecDepth 100000 in
theorem reads_step (k : Nat) (hR : ReadsC k) (hF : FuncC k) : ReadsC (k + 1) := by
  intro s w hsk hsz
  have C1 : PreC s #[105, 110, 116] sInt := preC_any s _
  have C2 : PreC s #[98, 111, 111, 108] sBool := preC_any s _
  have C3 : PreC s #[115, 116, 114, 105, 110, 103] sString := preC_any s _
  have C4 : PreC s #[42] sStar := preC_any s _
  have C5 : PreC s #[91, 93] sSlice := preC_any s _
  have C6 : PreC s #[99, 104, 97, 110, 32] sChan := preC_any s _
  have C7 : PreC s #[102, 117, 110, 99, 40] sFunc := preC_any s _
  have HR : Hid (∀ (m : Nat) (w1 : World), 2 ≤ m → m ≤ s.size → Calls Try.prog 19 #[.string (s.extract m s.size)] w1 fun e w2 => ∃ v r, e = .returned (.tuple #[.int .i64 (typ k ((tx s).drop m) : Nat), v, r]) ∧ Below w1.heap.size w1 w2) := by
    intro m w1 h5 hm
    refine (hR (s.extract m s.size) w1 (by rw [size_extract]; omega) (by rw [size_extract]; omega)).mono ?_
    rintro e w2 ⟨v, rfl, hb, _⟩
    rw [tx_from]
    exact ⟨v, _, rfl, hb⟩
  have HN : Hid (∀ w1, Calls Try.prog 37 #[.string (s.extract 1 s.size)] w1 fun e w' => e = .returned (.int .i64 (nam ((tx s).drop 1) : Nat)) ∧ Below w1.heap.size w1 w') := by
    intro w1
    have := name_any (s.extract 1 s.size) w1
    rw [tx_from] at this
    exact this
  have HF : Hid (∀ w1, pre sFunc (tx s) = true → Calls Try.prog 38 #[.string s] w1 _) := fun w1 hp => hF s w1 hsk hsz hp
  clear hR hF
  go_enter Try.func19, Try.ntmps19
  go_wp2_with fail
  go_loopw [13] (fun i wr => ∃ n : Int, i = .int .i64 n ∧ 0 ≤ n ∧ n ≤ 3 ∧ (0 < n → pre sInt (tx s) = false) ∧ (1 < n → pre sBool (tx s) = false) ∧ (2 < n → pre sString (tx s) = false) ∧ wr = w) (fun i _ => 3 - (intOf i).toNat)
  case atStart => exact ⟨0, rfl, by omega, by omega, by omega, by omega, by omega, rfl⟩
  case round =>
    obtain ⟨n, rfl, hn0, hn, g1, g2, g3, rfl⟩ := hrel
    obtain rfl | rfl | rfl | rfl : n = 0 ∨ n = 1 ∨ n = 2 ∨ n = 3 := by omega
    · have ix := index61_0
      clear g1 g2 g3 hn0 hn
      cases h : pre sInt (tx s) with
      | true =>
        have c1 := C1.at h
        have ht := typ_int (k := k)  h
        have hp := parts_head (k := k) h (by decide)
        have HT := Lib.hid ht
        have HP := Lib.hid hp
        clear ht hp h 
        go_wp2_with (refine (c1 _).mono ?_; rintro e w' ⟨rfl, rfl⟩)
        go_ret3
        rw [HT.out, HP.out]
        exact ⟨_, rfl, Below.refl _ _, World.ownsRow_nil _ _ _ _⟩
      | false =>
        have c1 := C1.at h
        have HH := Lib.hid h
        clear h 
        go_wp2_with (refine (c1 _).mono ?_; rintro e w' ⟨rfl, rfl⟩)
        go_roundw
        case rel => refine ⟨1, rfl, by omega, by omega, ?_, ?_, ?_, ?_⟩ <;> first | trivial | rfl | omega | (intro _; first | trivial | exact HH.out | exact HG1.out | exact HG2.out)
        case measure => simp [intOf]
    · have ix := index61_1
      have e1 := g1 (by omega)
      clear g1 g2 g3 hn0 hn
      cases h : pre sBool (tx s) with
      | true =>
        have c1 := C2.at h
        have ht := typ_bool (k := k) e1 h
        have hp := parts_head (k := k) h (by decide)
        have HT := Lib.hid ht
        have HP := Lib.hid hp
        clear ht hp h e1
        go_wp2_with (refine (c1 _).mono ?_; rintro e w' ⟨rfl, rfl⟩)
        go_ret3
        rw [HT.out, HP.out]
        exact ⟨_, rfl, Below.refl _ _, World.ownsRow_nil _ _ _ _⟩
      | false =>
        have c1 := C2.at h
        have HH := Lib.hid h
        have HG1 := Lib.hid e1
        clear h e1
        go_wp2_with (refine (c1 _).mono ?_; rintro e w' ⟨rfl, rfl⟩)
        go_roundw
        case rel => refine ⟨2, rfl, by omega, by omega, ?_, ?_, ?_, ?_⟩ <;> first | trivial | rfl | omega | (intro _; first | trivial | exact HH.out | exact HG1.out | exact HG2.out)
        case measure => simp [intOf]
    · have ix := index61_2
      have e1 := g1 (by omega)
      have e2 := g2 (by omega)
      clear g1 g2 g3 hn0 hn
      cases h : pre sString (tx s) with
      | true =>
        have c1 := C3.at h
        have ht := typ_string (k := k) e1 e2 h
        have hp := parts_head (k := k) h (by decide)
        have HT := Lib.hid ht
        have HP := Lib.hid hp
        clear ht hp h e1 e2
        go_wp2_with (refine (c1 _).mono ?_; rintro e w' ⟨rfl, rfl⟩)
        go_ret3
        rw [HT.out, HP.out]
        exact ⟨_, rfl, Below.refl _ _, World.ownsRow_nil _ _ _ _⟩
      | false =>
        have c1 := C3.at h
        have HH := Lib.hid h
        have HG1 := Lib.hid e1
        have HG2 := Lib.hid e2
        clear h e1 e2
        go_wp2_with (refine (c1 _).mono ?_; rintro e w' ⟨rfl, rfl⟩)
        go_roundw
        case rel => refine ⟨3, rfl, by omega, by omega, ?_, ?_, ?_, ?_⟩ <;> first | trivial | rfl | omega | (intro _; first | trivial | exact HH.out | exact HG1.out | exact HG2.out)
        case measure => simp [intOf]
    · have e1 := g1 (by omega)
      have e2 := g2 (by omega)
      have e3 := g3 (by omega)
      clear g1 g2 g3 hn0 hn
      cases e4 : pre sStar (tx s) with
      | true =>
        have c4 := C4.at e4
        have hs1 : 1 ≤ s.size := by
          have := pre_length e4
          rw [tx_len] at this
          exact this
        have ht := typ_star (k := k) e1 e2 e3 e4
        have hp := parts_head (k := k) e4 (by decide)
        have HT := Lib.hid ht
        have HP := Lib.hid hp
        have cN := HN.out
        have hN1 := nam_le ((tx s).drop 1)
        rw [List.length_drop, tx_len] at hN1
        clear ht hp e1 e2 e3 e4
        obtain ⟨N, hN⟩ : ∃ N, nam ((tx s).drop 1) = N := ⟨_, rfl⟩
        rw [hN] at HT cN hN1
        clear hN
        by_cases h0 : N = 0
        · rw [if_pos h0] at HT
          subst h0
          go_wp2_with (first | (refine (c4 _).mono ?_; rintro e w' ⟨rfl, rfl⟩) | (refine (cN _).mono ?_; rintro e w' ⟨rfl, hb⟩))
          go_ret3
          rw [HT.out, HP.out]
          exact ⟨_, rfl, hb, World.ownsRow_nil _ _ _ _⟩
        · rw [if_neg h0] at HT
          go_wp2_with (first | (refine (c4 _).mono ?_; rintro e w' ⟨rfl, rfl⟩) | (refine (cN _).mono ?_; rintro e w' ⟨rfl, hb⟩))
          go_ret3
          rw [HT.out, HP.out]
          refine ⟨.slice none 0 0, ?_, hb, World.ownsRow_nil _ _ _ _⟩
          rw [Int.natCast_add]
          rfl
      | false =>
        have c4 := C4.at e4
        cases e5 : pre sSlice (tx s) with
        | true =>
          have c5 := C5.at e5
          have hs1 : 2 ≤ s.size := by
            have := pre_length e5
            rw [tx_len] at this
            exact this
          have h0 : 0 < s.size := by omega
          have hb0 : (s[0]'h0).toNat = 91 := by
            obtain ⟨l, hl⟩ := head_pre e5
            have := tx_at s 0 h0
            rw [List.drop_zero, hl] at this
            injection this with h1 _
            rw [← h1]
            rfl
          have ht := typ_slice (k := k) e1 e2 e3 e4 e5
          have hp := parts_head (k := k) e5 (by decide)
          have HT := Lib.hid ht
          have HP := Lib.hid hp
          have cN := fun w1 => HR.out 2 w1 (by omega) hs1
          have hN1 := typ_le k ((tx s).drop 2)
          rw [List.length_drop, tx_len] at hN1
          clear ht hp e1 e2 e3 e4 e5
          obtain ⟨N, hN⟩ : ∃ N, typ k ((tx s).drop 2) = N := ⟨_, rfl⟩
          simp only [hN] at HT cN hN1
          clear hN
          by_cases hN0 : N = 0
          · rw [if_pos hN0] at HT
            subst hN0
            go_wp2_with (first | (refine (c4 _).mono ?_; rintro e w' ⟨rfl, rfl⟩) | (refine (c5 _).mono ?_; rintro e w' ⟨rfl, rfl⟩) | (refine (cN _).mono ?_; rintro e w' ⟨v, r, rfl, hb⟩))
            go_ret3
            rw [HT.out, HP.out]
            exact ⟨_, rfl, hb, World.ownsRow_nil _ _ _ _⟩
          · rw [if_neg hN0] at HT
            go_wp2_with (first | (refine (c4 _).mono ?_; rintro e w' ⟨rfl, rfl⟩) | (refine (c5 _).mono ?_; rintro e w' ⟨rfl, rfl⟩) | (refine (cN _).mono ?_; rintro e w' ⟨v, r, rfl, hb⟩))
            go_ret3
            rw [HT.out, HP.out]
            refine ⟨.slice none 0 0, ?_, hb, World.ownsRow_nil _ _ _ _⟩
            rw [Int.natCast_add]
            rfl
        | false =>
          have c5 := C5.at e5
          cases e6 : pre sChan (tx s) with
          | true =>
            have c6 := C6.at e6
            have hs1 : 5 ≤ s.size := by
              have := pre_length e6
              rw [tx_len] at this
              exact this
            have h0 : 0 < s.size := by omega
            have hb0 : (s[0]'h0).toNat = 99 := by
              obtain ⟨l, hl⟩ := head_pre e6
              have := tx_at s 0 h0
              rw [List.drop_zero, hl] at this
              injection this with h1 _
              rw [← h1]
              rfl
            have ht := typ_chan (k := k) e1 e2 e3 e4 e5 e6
            have hp := parts_head (k := k) e6 (by decide)
            have HT := Lib.hid ht
            have HP := Lib.hid hp
            have cN := fun w1 => HR.out 5 w1 (by omega) hs1
            have hN1 := typ_le k ((tx s).drop 5)
            rw [List.length_drop, tx_len] at hN1
            clear ht hp e1 e2 e3 e4 e5 e6
            obtain ⟨N, hN⟩ : ∃ N, typ k ((tx s).drop 5) = N := ⟨_, rfl⟩
            simp only [hN] at HT cN hN1
            clear hN
            by_cases hN0 : N = 0
            · rw [if_pos hN0] at HT
              subst hN0
              go_wp2_with (first | (refine (c4 _).mono ?_; rintro e w' ⟨rfl, rfl⟩) | (refine (c5 _).mono ?_; rintro e w' ⟨rfl, rfl⟩) | (refine (c6 _).mono ?_; rintro e w' ⟨rfl, rfl⟩) | (refine (cN _).mono ?_; rintro e w' ⟨v, r, rfl, hb⟩))
              go_ret3
              rw [HT.out, HP.out]
              exact ⟨_, rfl, hb, World.ownsRow_nil _ _ _ _⟩
            · rw [if_neg hN0] at HT
              go_wp2_with (first | (refine (c4 _).mono ?_; rintro e w' ⟨rfl, rfl⟩) | (refine (c5 _).mono ?_; rintro e w' ⟨rfl, rfl⟩) | (refine (c6 _).mono ?_; rintro e w' ⟨rfl, rfl⟩) | (refine (cN _).mono ?_; rintro e w' ⟨v, r, rfl, hb⟩))
              go_ret3
              rw [HT.out, HP.out]
              refine ⟨.slice none 0 0, ?_, hb, World.ownsRow_nil _ _ _ _⟩
              rw [Int.natCast_add]
              rfl
          | false =>
            have c6 := C6.at e6
            cases e7 : pre sFunc (tx s) with
            | true =>
              have c7 := C7.at e7
              have ht := typ_func (k := k) e1 e2 e3 e4 e5 e6 e7
              have hp := parts_func (k := k) e7
              have HT := Lib.hid ht
              have HP := Lib.hid hp
              have cN := fun w1 => HF.out w1 e7
              clear ht hp e1 e2 e3 e4 e5 e6 e7
              go_wp2_with (first | (refine (c4 _).mono ?_; rintro e w' ⟨rfl, rfl⟩) | (refine (c5 _).mono ?_; rintro e w' ⟨rfl, rfl⟩) | (refine (c6 _).mono ?_; rintro e w' ⟨rfl, rfl⟩) | (refine (c7 _).mono ?_; rintro e w' ⟨rfl, rfl⟩) | (refine (cN _).mono ?_; rintro e w' ⟨v, rfl, hb, ho⟩; have HO := Lib.hid ho; clear ho))
              go_ret3
              rw [HT.out, HP.out]
              exact ⟨_, rfl, hb, HO.out⟩
            | false =>
              have c7 := C7.at e7
              have ht := typ_not (k := k) e1 e2 e3 e4 e5 e6 e7
              have hp := parts_nofunc (k := k) e7
              have HT := Lib.hid ht
              have HP := Lib.hid hp
              clear ht hp e1 e2 e3 e4 e5 e6 e7
              go_wp2_with (first | (refine (c4 _).mono ?_; rintro e w' ⟨rfl, rfl⟩) | (refine (c5 _).mono ?_; rintro e w' ⟨rfl, rfl⟩) | (refine (c6 _).mono ?_; rintro e w' ⟨rfl, rfl⟩) | (refine (c7 _).mono ?_; rintro e w' ⟨rfl, rfl⟩))
              go_ret3
              rw [HT.out, HP.out]
              exact ⟨_, rfl, Below.refl _ _, World.ownsRow_nil _ _ _ _⟩

theorem reads_all : ∀ k, ReadsC k
  | 0 => fun _ _ h => by omega
  | k + 1 => reads_step k (reads_all k) (func_any k (reads_all k))

end Go.Proofs.Ytoaodlfmhioigaa.TS
end

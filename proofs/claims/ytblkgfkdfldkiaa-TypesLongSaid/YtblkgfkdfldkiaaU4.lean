import Derived.Test.YtblkgfkdfldkiaaU3
namespace Go.Proofs.Ytblkgfkdfldkiaa
open Go.RowKit TypesText

/-- A place behind a type; -1: none stands there. -/
def endv (T a : Nat) : Int := if T = 0 then -1 else ((a + T : Nat) : Int)

def EndC (k : Nat) : Prop := ∀ (s : ByteArray) (a : Nat) (w : World), a ≤ s.size → s.size < k + a → s.size ≤ 4000000 →
  Calls Try.prog 33 #[.string s, .int .i64 a] w fun e w' => e = .returned (.int .i64 (endv (typ k ((tx s).drop a)) a)) ∧ Below w.heap.size w w'

def FunC (k : Nat) : Prop := ∀ (s : ByteArray) (a : Nat) (w : World), a ≤ s.size → s.size < k + a + 1 → s.size ≤ 4000000 → pre sFunc ((tx s).drop a) = true →
  Calls Try.prog 32 #[.string s, .int .i64 a] w fun e w' => ∃ v, e = .returned (.tuple #[.int .i64 (endv (func (typ k) ((tx s).drop a)).1 a), v, strV (func (typ k) ((tx s).drop a)).2.2]) ∧ Below w.heap.size w w' ∧
    w'.ownsRow w.heap.size 9 1 v (func (typ k) ((tx s).drop a)).2.1.length ((func (typ k) ((tx s).drop a)).2.1.map strV)

theorem begin_from (s : ByteArray) (n : Nat) (l : Array UInt8) (w : World) :
    Calls Try.prog 27 #[.string (s.extract n s.size), .string ⟨l⟩] w fun e w' => e = .returned (.bool (pre l.toList ((tx s).drop n))) ∧ w' = w := by
  have := begins_any (s.extract n s.size) ⟨l⟩ w
  rw [tx_from] at this
  exact this

theorem endv_zero (a : Nat) : endv 0 a = -1 := rfl
theorem endv_pos {T : Nat} (h : T ≠ 0) (a : Nat) : endv T a = (a : Int) + T := by rw [endv, if_neg h]; omega

set_option maxHeartbeats 1600000 in
set_option maxRecDepth 100000 in
theorem fun_step (k : Nat) (hR : EndC k) : FunC k := by
  intro s a w ha hsk hsz hpre
  obtain ⟨i0, hi, hz0, hz1, hz2⟩ := info_parts Try.info9
  obtain ⟨S, hS⟩ : ∃ S, (tx s).drop a = S := ⟨_, rfl⟩
  rw [hS] at hpre ⊢
  have hst := At.start (k := k) hpre
  have hlen : S.length = s.size - a := by rw [← hS, List.length_drop, tx_len]
  have h5 : 5 ≤ S.length := by have := pre_length hpre; simpa [sFunc] using this
  have HD : Hid (∀ j, S.drop j = (tx s).drop (a + j)) := by intro j; rw [← hS, List.drop_drop]
  have HS := Lib.hid hst
  clear hst hpre
  have HR : Hid (∀ (m : Nat) (w1 : World), a + 5 ≤ m → m ≤ s.size → Calls Try.prog 33 #[.string s, .int .i64 m] w1 fun e w2 => e = .returned (.int .i64 (endv (typ k ((tx s).drop m)) m)) ∧ Below w1.heap.size w1 w2) :=
    fun m w1 h5 hm => hR s m w1 hm (by omega) hsz
  clear hR hS
  have HC : Hid (∀ n w1, Calls Try.prog 27 #[.string (s.extract n s.size), .string ⟨#[41]⟩] w1 fun e w' => e = .returned (.bool (pre sClose ((tx s).drop n))) ∧ w' = w1) := fun n w1 => begin_from s n _ w1
  have HM : Hid (∀ n w1, Calls Try.prog 27 #[.string (s.extract n s.size), .string ⟨#[44]⟩] w1 fun e w' => e = .returned (.bool (pre sComma ((tx s).drop n))) ∧ w' = w1) := fun n w1 => begin_from s n _ w1
  have HL := Lib.hid (fun m => typ_le k ((tx s).drop m))
  go_enter Try.func32, Try.ntmps32
  go_wp2_with fail
  go_loopw [1, 7] (fun i v wr => ∃ (p n : Nat) (acc : List Bytes), i = .int .i64 p ∧ p = a + n ∧ At k S n acc ∧ wr.ownsRow w.heap.size 9 1 v acc.length (acc.map strV) ∧ Below w.heap.size w wr) (fun i _ _ => s.size - (intOf i).toNat)
  case atStart => exact ⟨a + 5, 5, [], by go_num, rfl, HS.out, World.ownsRow_nil _ _ _ _, Below.refl _ _⟩
  case round =>
    obtain ⟨p, n, acc, rfl, hp, hat, hown, hbel⟩ := hrel
    have h5 := hat.from5
    have hle := hat.le
    have hfew := hat.few
    have hsz2 := hbel.size
    obtain ⟨sa, sc, rfl⟩ := ownsRow_shape hown
    have HO := Lib.hid hown
    have HB := Lib.hid hbel
    have HAT := Lib.hid hat
    clear hown hbel hat
    have c1 := fun w1 => HC.out p w1
    have hd0 := HD.out n
    have hd1 := HD.out (n + 1)
    rw [← hp] at hd0
    rw [show a + (n + 1) = p + 1 by omega] at hd1
    have hp5 : a + 5 ≤ p := by omega
    have hple : p ≤ s.size := by omega
    replace hfew : acc.length ≤ p := by omega
    have HP := Lib.hid hp
    clear hp h5 hle
    cases hcl : pre sClose ((tx s).drop p) with
    | true =>
      rw [hcl] at c1
      have hn1 : p + 1 ≤ s.size := by
        have := pre_length hcl
        rw [List.length_drop, tx_len] at this
        simp [sClose] at this
        omega
      have hf := HAT.out.close (by rw [hd0]; exact hcl)
      have c2 := fun w1 => HR.out (p + 1) w1 (by omega) hn1
      have hl := HL.out (p + 1)
      rw [List.length_drop, tx_len] at hl
      have hx := extract_strV s (p + 1) (p + 1 + typ k ((tx s).drop (p + 1)))
      rw [Nat.add_sub_cancel_left] at hx
      rw [hd1] at hf
      have HF := Lib.hid hf
      have HX := Lib.hid hx
      clear hf hx hcl hd0 hd1
      obtain ⟨T, hT⟩ : ∃ T, typ k ((tx s).drop (p + 1)) = T := ⟨_, rfl⟩
      simp only [hT] at c2 hl HX HF
      clear hT
      have hc1 : ((p + 1 : Nat) : Int) = (p : Int) + 1 := by omega
      by_cases hT0 : T = 0
      · subst hT0
        rw [endv_zero, hc1] at c2
        go_wp2_with (first | (with_reducible refine (c1 _).mono ?_; rintro e w' ⟨rfl, rfl⟩) | (with_reducible refine (c2 _).mono ?_; rintro e w' ⟨rfl, hb⟩))
        go_ret3
        rw [HF.out]
        refine ⟨.slice sa acc.length sc, ?_, HB.out.trans (hb.mono hsz2), ownsRow_below HO.out hb⟩
        rw [endv_pos (by omega)]
        rw [show (p : Int) + 1 = (a : Int) + ((n + 1 + 0 : Nat) : Int) by have := HP.out; omega]
        rfl
      · rw [endv_pos hT0, hc1] at c2
        go_wp2_with (first | (with_reducible refine (c1 _).mono ?_; rintro e w' ⟨rfl, rfl⟩) | (with_reducible refine (c2 _).mono ?_; rintro e w' ⟨rfl, hb⟩))
        have hq : p + 1 + T ≤ s.size := by omega
        go_quiet (fail)
        go_wp2_with fail
        go_ret3
        rw [HF.out]
        refine ⟨.slice sa acc.length sc, ?_, draws_below (HB.out.trans (hb.mono hsz2)) _, ?_⟩
        · rw [endv_pos (by omega)]
          rw [show (p : Int) + 1 + T = (a : Int) + ((n + 1 + T : Nat) : Int) by have := HP.out; omega, ← HX.out]; rfl
        · exact ownsRow_below HO.out (draws_below hb _)
    | false =>
      rw [hcl] at c1
      by_cases hac : acc = []
      · have HM2 : Hid (acc = [] ∧ n = n ∨ acc ≠ [] ∧ pre sComma (S.drop n) = true ∧ n = n + 1) := .inl ⟨hac, rfl⟩
        have c2 := fun w1 => HR.out p w1 (by omega) (by omega)
        have hl := HL.out p
        rw [List.length_drop, tx_len] at hl
        have hal : acc.length = 0 := by rw [hac]; rfl
        have hcl2 : pre sClose (S.drop n) = false := by rw [hd0]; exact hcl
        clear hac hcl
        obtain ⟨T, hT⟩ : ∃ T, typ k ((tx s).drop p) = T := ⟨_, rfl⟩
        have HTT : Hid (typ k (S.drop n) = T) := by show typ k (S.drop n) = T; rw [hd0]; exact hT
        have HDD := Lib.hid hd0
        rw [hT] at c2 hl
        clear hT hd0 hd1
        obtain ⟨L, hL⟩ : ∃ L, acc.length = L := ⟨_, rfl⟩
        rw [hL] at HO hfew hal ⊢
        have HLL := Lib.hid hL
        clear hL
        subst hal
        have hq : p + T ≤ s.size := by omega
        have hx := extract_strV s p (p + T)
        rw [Nat.add_sub_cancel_left] at hx
        have HX := Lib.hid hx
        clear hx
        by_cases hT0 : T = 0
        · have hf := HAT.out.none hcl2 HM2.out (HTT.out.trans hT0)
          have HF := Lib.hid hf
          clear hf hcl2
          subst hT0
          rw [endv_zero] at c2
          go_wp2_with (first | (with_reducible refine (c1 _).mono ?_; rintro e w' ⟨rfl, rfl⟩) | (with_reducible refine (c2 _).mono ?_; rintro e w' ⟨rfl, hb⟩; have HB2 := Lib.hid (HB.out.trans (hb.mono hsz2)); clear hb))
          go_ret3
          rw [HF.out]
          exact ⟨_, rfl, HB2.out, World.ownsRow_nil _ _ _ _⟩
        · have hnx := HAT.out.next hcl2 HM2.out (by rw [HTT.out]; exact hT0)
          rw [HTT.out] at hnx
          have HNX := Lib.hid hnx
          clear hnx hcl2
          rw [endv_pos hT0] at c2
          go_wp2_with (first | (with_reducible refine (c1 _).mono ?_; rintro e w' ⟨rfl, rfl⟩) | (with_reducible refine (c2 _).mono ?_; rintro e w' ⟨rfl, hb⟩; have HO2 := Lib.hid (ownsRow_below HO.out hb); have HB2 := Lib.hid (HB.out.trans (hb.mono hsz2)); have hsz3 := hb.size; clear hb) | (at_builtin; refine wpList_append_own _ rfl _ _ 26 rfl w.heap.size 9 i0 (.string ⟨#[]⟩) 1 16 Try.underlying26 hi hz0 hz1 hz2 rfl (by decide) _ _ _ rfl (HO2.out.alloc _) ⟨w'.heap.size, 0, none⟩ 1 1 [.string (s.extract p (p + T))] rfl rfl ?c1 ?c2 ?c3 ?c4 ?c5 ?grow))
          case c1 => intro j u hj; match j, hj with | 0, hj => simp at hj; subst hj; simp [Addr.add]
          case c2 => intro u hu; simp at hu; subst hu; rfl
          case c3 => unfold maxLen; omega
          case c4 => omega
          case c5 => simp only [World.size_alloc]; omega
          case grow =>
            intro v' w1 hown1 hgrow _
            have HO1 := Lib.hid hown1
            have HB1 := Lib.hid ((HB2.out.alloc (by omega) (.cells #[.string (s.extract p (p + T))] 9)).grown hgrow (by simp; omega) (fun k hk => (HO2.out.lt k hk).1))
            clear hown1 hgrow
            go_wp2_with fail
            go_roundw
            case rel =>
              refine ⟨p + T, n + T, acc ++ [(S.drop n).take T], by go_num, by have := HP.out; omega, HNX.out, ?_, HB1.out⟩
              have h1 := HO1.out
              rw [HX.out, ← HDD.out] at h1
              rw [List.length_append, HLL.out, List.map_append]
              exact h1
            case measure => simp [intOf]; omega
      · have hal : 0 < acc.length := List.length_pos_iff.2 hac
        have c3 := fun w1 => HM.out p w1
        have hcl2 : pre sClose (S.drop n) = false := by rw [hd0]; exact hcl
        obtain ⟨L, hL⟩ : ∃ L, acc.length = L := ⟨_, rfl⟩
        rw [hL] at HO hfew hal ⊢
        have HLL := Lib.hid hL
        clear hL hcl
        cases hcm : pre sComma ((tx s).drop p) with
        | false =>
          rw [hcm] at c3
          have hf := HAT.out.nocomma hcl2 hac (by rw [hd0]; exact hcm)
          have HF := Lib.hid hf
          clear hf hcl2 hcm hac hd0 hd1
          go_wp2_with (first | (with_reducible refine (c1 _).mono ?_; rintro e w' ⟨rfl, rfl⟩) | (with_reducible refine (c3 _).mono ?_; rintro e w' ⟨rfl, rfl⟩))
          go_ret3
          rw [HF.out]
          exact ⟨_, rfl, HB.out, World.ownsRow_nil _ _ _ _⟩
        | true =>
          rw [hcm] at c3
          have hn1 : p + 1 ≤ s.size := by
            have := pre_length hcm
            rw [List.length_drop, tx_len] at this
            simp [sComma] at this
            omega
          have HM2 : Hid (acc = [] ∧ n + 1 = n ∨ acc ≠ [] ∧ pre sComma (S.drop n) = true ∧ n + 1 = n + 1) := .inr ⟨hac, by rw [hd0]; exact hcm, rfl⟩
          have c2 := fun w1 => HR.out (p + 1) w1 (by omega) hn1
          have hl := HL.out (p + 1)
          rw [List.length_drop, tx_len] at hl
          clear hac hcm
          obtain ⟨T, hT⟩ : ∃ T, typ k ((tx s).drop (p + 1)) = T := ⟨_, rfl⟩
          have HTT : Hid (typ k (S.drop (n + 1)) = T) := by show typ k (S.drop (n + 1)) = T; rw [hd1]; exact hT
          have HDD := Lib.hid hd1
          rw [hT] at c2 hl
          clear hT hd0 hd1
          have hq : p + 1 + T ≤ s.size := by omega
          have hx := extract_strV s (p + 1) (p + 1 + T)
          rw [Nat.add_sub_cancel_left] at hx
          have HX := Lib.hid hx
          clear hx
          have hc1 : ((p + 1 : Nat) : Int) = (p : Int) + 1 := by omega
          by_cases hT0 : T = 0
          · have hf := HAT.out.none hcl2 HM2.out (HTT.out.trans hT0)
            have HF := Lib.hid hf
            clear hf hcl2
            subst hT0
            rw [endv_zero, hc1] at c2
            go_wp2_with (first | (with_reducible refine (c1 _).mono ?_; rintro e w' ⟨rfl, rfl⟩) | (with_reducible refine (c3 _).mono ?_; rintro e w' ⟨rfl, rfl⟩) | (with_reducible refine (c2 _).mono ?_; rintro e w' ⟨rfl, hb⟩; have HB2 := Lib.hid (HB.out.trans (hb.mono hsz2)); clear hb))
            go_ret3
            rw [HF.out]
            exact ⟨_, rfl, HB2.out, World.ownsRow_nil _ _ _ _⟩
          · have hnx := HAT.out.next hcl2 HM2.out (by rw [HTT.out]; exact hT0)
            rw [HTT.out] at hnx
            have HNX := Lib.hid hnx
            clear hnx hcl2
            rw [endv_pos hT0, hc1] at c2
            go_wp2_with (first | (with_reducible refine (c1 _).mono ?_; rintro e w' ⟨rfl, rfl⟩) | (with_reducible refine (c3 _).mono ?_; rintro e w' ⟨rfl, rfl⟩) | (with_reducible refine (c2 _).mono ?_; rintro e w' ⟨rfl, hb⟩; have HO2 := Lib.hid (ownsRow_below HO.out hb); have HB2 := Lib.hid (HB.out.trans (hb.mono hsz2)); have hsz3 := hb.size; clear hb) | (at_builtin; refine wpList_append_own _ rfl _ _ 26 rfl w.heap.size 9 i0 (.string ⟨#[]⟩) 1 16 Try.underlying26 hi hz0 hz1 hz2 rfl (by decide) _ _ _ rfl (HO2.out.alloc _) ⟨w'.heap.size, 0, none⟩ 1 1 [.string (s.extract (p + 1) (p + 1 + T))] rfl rfl ?c1 ?c2 ?c3 ?c4 ?c5 ?grow))
            case c1 => intro j u hj; match j, hj with | 0, hj => simp at hj; subst hj; simp [Addr.add]
            case c2 => intro u hu; simp at hu; subst hu; rfl
            case c3 => unfold maxLen; omega
            case c4 => omega
            case c5 => simp only [World.size_alloc]; omega
            case grow =>
              intro v' w1 hown1 hgrow _
              have HO1 := Lib.hid hown1
              have HB1 := Lib.hid ((HB2.out.alloc (by omega) (.cells #[.string (s.extract (p + 1) (p + 1 + T))] 9)).grown hgrow (by simp; omega) (fun k hk => (HO2.out.lt k hk).1))
              clear hown1 hgrow
              go_wp2_with fail
              go_roundw
              case rel =>
                refine ⟨p + 1 + T, n + 1 + T, acc ++ [(S.drop (n + 1)).take T], by go_num, by have := HP.out; omega, HNX.out, ?_, HB1.out⟩
                have h1 := HO1.out
                rw [HX.out, ← HDD.out] at h1
                rw [List.length_append, HLL.out, List.map_append]
                exact h1
              case measure => simp [intOf]; omega

end Go.Proofs.Ytblkgfkdfldkiaa

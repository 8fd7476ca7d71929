/- A part of the proof of TypesWrittenSaid. No condition. -/
import Derived.Test.YtoaodlfmhioigaaM38
import Derived.OwnWalk
set_option linter.unusedSimpArgs false
set_option linter.unusedVariables false
section
namespace TypesText

/-- A function type's params, and its result. -/
def parts : Nat → Bytes → List Bytes × Bytes
  | 0, _ => ([], [])
  | k + 1, s =>
    if pre sFunc s = true then
      match pars (typ k) (s.length + 1) s 5 [] with
      | none => ([], [])
      | some (n, ps) => (ps, (s.drop n).take (typ k (s.drop n)))
    else ([], [])

/-- What a function's type is, from its first byte on: its length, its params, its result. -/
def func (rec : Bytes → Nat) (s : Bytes) : Nat × List Bytes × Bytes :=
  match pars rec (s.length + 1) s 5 [] with
  | none => (0, [], [])
  | some (n, ps) => (n + rec (s.drop n), ps, (s.drop n).take (rec (s.drop n)))

end TypesText
namespace Go.Proofs.Ytoaodlfmhioigaa.TS
open Go.RowKit TypesText

theorem Try.info9 : (Try.prog.info? 9).map (fun i => (i.zero, i.size, i.bytes)) = some (some (.string ⟨#[]⟩), 1, 16) := by kernel_rfl

/-- A text as a value. -/
def strV (b : Bytes) : Value := .string ⟨b.toArray⟩

theorem extract_strV (s : ByteArray) (a c : Nat) : Value.string (s.extract a c) = strV (((tx s).drop a).take (c - a)) := by
  rw [← tx_part]
  rfl

theorem ownsRow_below {B : Nat} {e : TypeId} {size : Nat} {v : Value} {n : Nat} {xs : List Value} {w w' : World} (h : w.ownsRow B e size v n xs) (hb : Below w.heap.size w w') : w'.ownsRow B e size v n xs := by
  refine ⟨h.1, ?_⟩
  rcases h.2 with h2 | ⟨g, cap, cur, h1, h2, h3, h4⟩
  · exact .inl h2
  · refine .inr ⟨g, cap, cur, h1, h2, ?_, h4⟩
    rw [hb.block g ?_]
    · exact h3
    · exact (Array.getElem?_eq_some_iff.1 h3).1

/-- What read gives. -/
def ReadsC (k : Nat) : Prop := ∀ (s : ByteArray) (w : World), s.size < k → s.size ≤ 4000000 →
  Calls Try.prog 19 #[.string s] w fun e w' => ∃ v, e = .returned (.tuple #[.int .i64 (typ k (tx s) : Nat), v, strV (parts k (tx s)).2]) ∧ Below w.heap.size w w' ∧
    w'.ownsRow w.heap.size 9 1 v (parts k (tx s)).1.length ((parts k (tx s)).1.map strV)

/-- What function gives. -/
def FuncC (k : Nat) : Prop := ∀ (s : ByteArray) (w : World), s.size < k + 1 → s.size ≤ 4000000 → pre sFunc (tx s) = true →
  Calls Try.prog 38 #[.string s] w fun e w' => ∃ v, e = .returned (.tuple #[.int .i64 ((func (typ k) (tx s)).1 : Nat), v, strV (func (typ k) (tx s)).2.2]) ∧ Below w.heap.size w w' ∧
    w'.ownsRow w.heap.size 9 1 v (func (typ k) (tx s)).2.1.length ((func (typ k) (tx s)).2.1.map strV)

/-- Where a loop over a function's params stands. -/
structure At (k : Nat) (s : Bytes) (n : Nat) (acc : List Bytes) : Prop where
  from5 : 5 ≤ n
  le : n ≤ s.length
  few : acc.length ≤ n
  same : ∃ f, s.length + 1 ≤ n + f ∧ pars (typ k) f s n acc = pars (typ k) (s.length + 1) s 5 []

theorem At.start {k : Nat} {s : Bytes} (h : pre sFunc s = true) : At k s 5 [] := by
  have := pre_length h
  simp [sFunc] at this
  exact ⟨Nat.le_refl _, this, by simp, s.length + 1, by omega, rfl⟩

theorem At.step {k : Nat} {s : Bytes} {n : Nat} {acc : List Bytes} (h : At k s n acc) : ∃ f, s.length ≤ n + f ∧
    (if pre sClose (s.drop n) = true then some (n + 1, acc)
    else if acc ≠ [] ∧ pre sComma (s.drop n) = false then none
    else
      let m := if acc = [] then n else n + 1
      if typ k (s.drop m) = 0 then none else pars (typ k) f s (m + typ k (s.drop m)) (acc ++ [(s.drop m).take (typ k (s.drop m))])) = pars (typ k) (s.length + 1) s 5 [] := by
  obtain ⟨f, hf, hs⟩ := h.same
  cases f with
  | zero => have := h.le; omega
  | succ f => exact ⟨f, by omega, by rw [← hs]; rfl⟩

theorem At.close {k : Nat} {s : Bytes} {n : Nat} {acc : List Bytes} (h : At k s n acc) (hc : pre sClose (s.drop n) = true) :
    func (typ k) s = (n + 1 + typ k (s.drop (n + 1)), acc, (s.drop (n + 1)).take (typ k (s.drop (n + 1)))) := by
  obtain ⟨f, _, hs⟩ := h.step
  rw [if_pos hc] at hs
  unfold func
  rw [← hs]

theorem At.nocomma {k : Nat} {s : Bytes} {n : Nat} {acc : List Bytes} (h : At k s n acc) (hc : pre sClose (s.drop n) = false) (ha : acc ≠ []) (hm : pre sComma (s.drop n) = false) :
    func (typ k) s = (0, [], []) := by
  obtain ⟨f, _, hs⟩ := h.step
  rw [if_neg (by rw [hc]; simp), if_pos ⟨ha, hm⟩] at hs
  unfold func
  rw [← hs]

theorem At.none {k : Nat} {s : Bytes} {n m : Nat} {acc : List Bytes} (h : At k s n acc) (hc : pre sClose (s.drop n) = false) (hm : acc = [] ∧ m = n ∨ acc ≠ [] ∧ pre sComma (s.drop n) = true ∧ m = n + 1) (h0 : typ k (s.drop m) = 0) :
    func (typ k) s = (0, [], []) := by
  obtain ⟨f, _, hs⟩ := h.step
  have hm2 : (if acc = [] then n else n + 1) = m := by
    rcases hm with ⟨h1, h2⟩ | ⟨h1, _, h2⟩
    · rw [if_pos h1, h2]
    · rw [if_neg h1, h2]
  rw [if_neg (by rw [hc]; simp), if_neg (by rcases hm with ⟨h1, _⟩ | ⟨_, h2, _⟩ <;> simp_all)] at hs
  simp only [hm2, h0, if_true] at hs
  unfold func
  rw [← hs]

theorem At.next {k : Nat} {s : Bytes} {n m : Nat} {acc : List Bytes} (h : At k s n acc) (hc : pre sClose (s.drop n) = false) (hm : acc = [] ∧ m = n ∨ acc ≠ [] ∧ pre sComma (s.drop n) = true ∧ m = n + 1) (h0 : typ k (s.drop m) ≠ 0) :
    At k s (m + typ k (s.drop m)) (acc ++ [(s.drop m).take (typ k (s.drop m))]) := by
  obtain ⟨f, hf, hs⟩ := h.step
  have hm2 : (if acc = [] then n else n + 1) = m := by
    rcases hm with ⟨h1, h2⟩ | ⟨h1, _, h2⟩
    · rw [if_pos h1, h2]
    · rw [if_neg h1, h2]
  rw [if_neg (by rw [hc]; simp), if_neg (by rcases hm with ⟨h1, _⟩ | ⟨_, h2, _⟩ <;> simp_all)] at hs
  simp only [hm2, h0, if_false] at hs
  have h5 := h.from5
  have hl := h.few
  have hd := typ_le k (s.drop m)
  rw [List.length_drop] at hd
  have hnm : n ≤ m := by rcases hm with ⟨_, h2⟩ | ⟨_, _, h2⟩ <;> omega
  refine ⟨by omega, by omega, by simp; omega, f, by omega, hs⟩

end Go.Proofs.Ytoaodlfmhioigaa.TS
end

section
namespace Go.Proofs.Ytoaodlfmhioigaa.TS
open Go.RowKit TypesText

theorem draws_below {B : Nat} {w w' : World} (h : Below B w w') (q : Nat) : Below B w (w'.drewN q) := h.trans ⟨rfl, rfl, rfl, Nat.le_refl _, fun _ _ => rfl⟩

theorem size_extract (s : ByteArray) (n : Nat) : (s.extract n s.size).size = s.size - n := by
  rw [← tx_len, tx_from, List.length_drop, tx_len]

theorem close_any (s : ByteArray) (n : Nat) (w : World) :
    Calls Try.prog 20 #[.string (s.extract n s.size), .string ⟨#[41]⟩] w fun e w' => e = .returned (.bool (pre sClose ((tx s).drop n))) ∧ w' = w := by
  have := hasPrefix_any (s.extract n s.size) ⟨#[41]⟩ w
  rw [tx_from] at this
  exact this

theorem comma_any (s : ByteArray) (n : Nat) (w : World) :
    Calls Try.prog 20 #[.string (s.extract n s.size), .string ⟨#[44]⟩] w fun e w' => e = .returned (.bool (pre sComma ((tx s).drop n))) ∧ w' = w := by
  have := hasPrefix_any (s.extract n s.size) ⟨#[44]⟩ w
  rw [tx_from] at this
  exact this

theorem ownsRow_shape {B : Nat} {e : TypeId} {size : Nat} {v : Value} {n : Nat} {xs : List Value} {w : World} (h : w.ownsRow B e size v n xs) : ∃ a c, v = .slice a n c := by
  rcases h.2 with ⟨h1, h2⟩ | ⟨g, cap, cur, h1, _⟩
  · subst h2; exact ⟨none, 0, h1⟩
  · exact ⟨_, cap, h1⟩

set_option maxHeartbeats 1600000 in
set_option maxRecDepth 100000 in
theorem func_any (k : Nat) (hR : ReadsC k) : FuncC k := by
  intro s w hsk hsz hpre
  obtain ⟨i0, hi, hz0, hz1, hz2⟩ := info_parts Try.info9
  have hst := At.start (k := k) hpre
  have HS := Lib.hid hst
  clear hst hpre
  have HR : Hid (∀ (m : Nat) (w1 : World), 5 ≤ m → m ≤ s.size → Calls Try.prog 19 #[.string (s.extract m s.size)] w1 fun e w2 => ∃ v r, e = .returned (.tuple #[.int .i64 (typ k ((tx s).drop m) : Nat), v, r]) ∧ Below w1.heap.size w1 w2) := by
    intro m w1 h5 hm
    refine (hR (s.extract m s.size) w1 (by rw [size_extract]; omega) (by rw [size_extract]; omega)).mono ?_
    rintro e w2 ⟨v, rfl, hb, _⟩
    rw [tx_from]
    exact ⟨v, _, rfl, hb⟩
  clear hR
  have HC := Lib.hid (close_any s)
  have HM := Lib.hid (comma_any s)
  have HL := Lib.hid (fun m => typ_le k ((tx s).drop m))
  go_enter Try.func38, Try.ntmps38
  go_wp2_with fail
  go_loopw [2, 3] (fun i v wr => ∃ (n : Nat) (acc : List Bytes), i = .int .i64 n ∧ At k (tx s) n acc ∧ wr.ownsRow w.heap.size 9 1 v acc.length (acc.map strV) ∧ Below w.heap.size w wr) (fun i _ _ => s.size - (intOf i).toNat)
  case atStart => exact ⟨5, [], rfl, HS.out, World.ownsRow_nil _ _ _ _, Below.refl _ _⟩
  case round =>
    obtain ⟨n, acc, rfl, hat, hown, hbel⟩ := hrel
    have h5 := hat.from5
    have hle := hat.le
    rw [tx_len] at hle
    have hfew := hat.few
    have hsz2 := hbel.size
    obtain ⟨sa, sc, rfl⟩ := ownsRow_shape hown
    have HO := Lib.hid hown
    have HB := Lib.hid hbel
    have HAT := Lib.hid hat
    clear hown hbel hat
    have c1 := fun w1 => HC.out n w1
    cases hcl : pre sClose ((tx s).drop n) with
    | true =>
      rw [hcl] at c1
      have hn1 : n + 1 ≤ s.size := by
        have := pre_length hcl
        rw [List.length_drop, tx_len] at this
        simp [sClose] at this
        omega
      have hf := HAT.out.close hcl
      have c2 := fun w1 => HR.out (n + 1) w1 (by omega) hn1
      have hl := HL.out (n + 1)
      rw [List.length_drop, tx_len] at hl
      have hx := extract_strV s (n + 1) (n + 1 + typ k ((tx s).drop (n + 1)))
      rw [Nat.add_sub_cancel_left] at hx
      have HF := Lib.hid hf
      have HX := Lib.hid hx
      have HCL := Lib.hid hcl
      clear hf hx hcl
      obtain ⟨T, hT⟩ : ∃ T, typ k ((tx s).drop (n + 1)) = T := ⟨_, rfl⟩
      simp only [hT] at c2 hl HX HF
      clear hT
      go_wp2_with (first | (refine (c1 _).mono ?_; rintro e w' ⟨rfl, rfl⟩) | (refine (c2 _).mono ?_; rintro e w' ⟨v, r, rfl, hb⟩))
      have hq : n + 1 + T ≤ s.size := by omega
      go_quiet (fail)
      go_wp2_with fail
      go_ret3
      rw [HF.out]
      have hc : ((n + 1 + T : Nat) : Int) = n + 1 + T := by omega
      refine ⟨.slice sa acc.length sc, ?_, draws_below (HB.out.trans (hb.mono hsz2)) _, ?_⟩
      · rw [hc, ← HX.out]; rfl
      · exact ownsRow_below HO.out (draws_below hb _)
    | false =>
      rw [hcl] at c1
      by_cases ha : acc = []
      · have HM2 : Hid (acc = [] ∧ n = n ∨ acc ≠ [] ∧ pre sComma ((tx s).drop n) = true ∧ n = n + 1) := .inl ⟨ha, rfl⟩
        have c2 := fun w1 => HR.out n w1 h5 hle
        have hl := HL.out n
        rw [List.length_drop, tx_len] at hl
        have hal : acc.length = 0 := by rw [ha]; rfl
        clear ha
        obtain ⟨T, hT⟩ : ∃ T, typ k ((tx s).drop n) = T := ⟨_, rfl⟩
        have HTT := Lib.hid hT
        rw [hT] at c2 hl
        clear hT
        obtain ⟨L, hL⟩ : ∃ L, acc.length = L := ⟨_, rfl⟩
        rw [hL] at HO hfew hal ⊢
        have HLL := Lib.hid hL
        clear hL
        subst hal
        · skip
          have hq : n + T ≤ s.size := by omega
          have hx := extract_strV s (n) (n + T)
          rw [Nat.add_sub_cancel_left] at hx
          have HX := Lib.hid hx
          clear hx
          by_cases hT0 : T = 0
          · have hf := HAT.out.none hcl HM2.out (HTT.out.trans hT0)
            have HF := Lib.hid hf
            clear hf hcl
            go_wp2_with (first | (refine (c1 _).mono ?_; rintro e w' ⟨rfl, rfl⟩) | (refine (c2 _).mono ?_; rintro e w' ⟨v, r, rfl, hb⟩; have HO2 := Lib.hid (ownsRow_below HO.out hb); have HB2 := Lib.hid (HB.out.trans (hb.mono hsz2)); have hsz3 := hb.size; clear hb))
            go_ret3
            rw [HF.out]
            exact ⟨_, rfl, HB2.out, World.ownsRow_nil _ _ _ _⟩
          · have hnx := HAT.out.next hcl HM2.out (by rw [HTT.out]; exact hT0)
            rw [HTT.out] at hnx
            have HNX := Lib.hid hnx
            clear hnx hcl
            go_wp2_with (first | (refine (c1 _).mono ?_; rintro e w' ⟨rfl, rfl⟩) | (refine (c2 _).mono ?_; rintro e w' ⟨v, r, rfl, hb⟩; have HO2 := Lib.hid (ownsRow_below HO.out hb); have HB2 := Lib.hid (HB.out.trans (hb.mono hsz2)); have hsz3 := hb.size; clear hb) | (at_builtin; refine wpList_append_own _ rfl _ _ 32 rfl w.heap.size 9 i0 (.string ⟨#[]⟩) 1 16 Try.underlying32 hi hz0 hz1 hz2 rfl (by decide) _ _ _ rfl (HO2.out.alloc _) ⟨w'.heap.size, 0, none⟩ 1 1 [.string (s.extract n (n + T))] rfl rfl ?c1 ?c2 ?c3 ?c4 ?c5 ?grow))
            case c1 => intro j u hj; match j, hj with | 0, hj => simp at hj; subst hj; simp [Addr.add]
            case c2 => intro u hu; simp at hu; subst hu; rfl
            case c3 => unfold maxLen; omega
            case c4 => omega
            case c5 => simp only [World.size_alloc]; omega
            case grow =>
              intro v' w1 hown1 hgrow _
              have HO1 := Lib.hid hown1
              have HB1 := Lib.hid ((HB2.out.alloc (by omega) (.cells #[.string (s.extract n (n + T))] 9)).grown hgrow (by simp; omega) (fun k hk => (HO2.out.lt k hk).1))
              clear hown1 hgrow
              go_wp2_with fail
              go_roundw
              case rel =>
                refine ⟨n + T, acc ++ [((tx s).drop (n)).take T], by go_num, HNX.out, ?_, HB1.out⟩
                have h1 := HO1.out
                rw [HX.out] at h1
                rw [List.length_append, HLL.out, List.map_append]
                exact h1
              case measure => simp [intOf]; omega
      · have hal : 0 < acc.length := List.length_pos_iff.2 ha
        have c3 := fun w1 => HM.out n w1
        obtain ⟨L, hL⟩ : ∃ L, acc.length = L := ⟨_, rfl⟩
        rw [hL] at HO hfew hal ⊢
        have HLL := Lib.hid hL
        clear hL
        cases hcm : pre sComma ((tx s).drop n) with
        | false =>
          rw [hcm] at c3
          have hf := HAT.out.nocomma hcl ha hcm
          have HF := Lib.hid hf
          clear hf hcl hcm ha
          go_wp2_with (first | (refine (c1 _).mono ?_; rintro e w' ⟨rfl, rfl⟩) | (refine (c3 _).mono ?_; rintro e w' ⟨rfl, rfl⟩))
          go_ret3
          rw [HF.out]
          exact ⟨_, rfl, HB.out, World.ownsRow_nil _ _ _ _⟩
        | true =>
          rw [hcm] at c3
          have hn1 : n + 1 ≤ s.size := by
            have := pre_length hcm
            rw [List.length_drop, tx_len] at this
            simp [sComma] at this
            omega
          have HM2 : Hid (acc = [] ∧ n + 1 = n ∨ acc ≠ [] ∧ pre sComma ((tx s).drop n) = true ∧ n + 1 = n + 1) := .inr ⟨ha, hcm, rfl⟩
          have c2 := fun w1 => HR.out (n + 1) w1 (by omega) hn1
          have hl := HL.out (n + 1)
          rw [List.length_drop, tx_len] at hl
          clear ha hcm
          obtain ⟨T, hT⟩ : ∃ T, typ k ((tx s).drop (n + 1)) = T := ⟨_, rfl⟩
          have HTT := Lib.hid hT
          rw [hT] at c2 hl
          clear hT
          · skip
            have hq : n + 1 + T ≤ s.size := by omega
            have hx := extract_strV s (n + 1) (n + 1 + T)
            rw [Nat.add_sub_cancel_left] at hx
            have HX := Lib.hid hx
            clear hx
            by_cases hT0 : T = 0
            · have hf := HAT.out.none hcl HM2.out (HTT.out.trans hT0)
              have HF := Lib.hid hf
              clear hf hcl
              go_wp2_with (first | (refine (c1 _).mono ?_; rintro e w' ⟨rfl, rfl⟩) | (refine (c3 _).mono ?_; rintro e w' ⟨rfl, rfl⟩) | (refine (c2 _).mono ?_; rintro e w' ⟨v, r, rfl, hb⟩; have HO2 := Lib.hid (ownsRow_below HO.out hb); have HB2 := Lib.hid (HB.out.trans (hb.mono hsz2)); have hsz3 := hb.size; clear hb))
              go_ret3
              rw [HF.out]
              exact ⟨_, rfl, HB2.out, World.ownsRow_nil _ _ _ _⟩
            · have hnx := HAT.out.next hcl HM2.out (by rw [HTT.out]; exact hT0)
              rw [HTT.out] at hnx
              have HNX := Lib.hid hnx
              clear hnx hcl
              go_wp2_with (first | (refine (c1 _).mono ?_; rintro e w' ⟨rfl, rfl⟩) | (refine (c3 _).mono ?_; rintro e w' ⟨rfl, rfl⟩) | (refine (c2 _).mono ?_; rintro e w' ⟨v, r, rfl, hb⟩; have HO2 := Lib.hid (ownsRow_below HO.out hb); have HB2 := Lib.hid (HB.out.trans (hb.mono hsz2)); have hsz3 := hb.size; clear hb) | (at_builtin; refine wpList_append_own _ rfl _ _ 32 rfl w.heap.size 9 i0 (.string ⟨#[]⟩) 1 16 Try.underlying32 hi hz0 hz1 hz2 rfl (by decide) _ _ _ rfl (HO2.out.alloc _) ⟨w'.heap.size, 0, none⟩ 1 1 [.string (s.extract (n + 1) (n + 1 + T))] rfl rfl ?c1 ?c2 ?c3 ?c4 ?c5 ?grow))
              case c1 => intro j u hj; match j, hj with | 0, hj => simp at hj; subst hj; simp [Addr.add]
              case c2 => intro u hu; simp at hu; subst hu; rfl
              case c3 => unfold maxLen; omega
              case c4 => omega
              case c5 => simp only [World.size_alloc]; omega
              case grow =>
                intro v' w1 hown1 hgrow _
                have HO1 := Lib.hid hown1
                have HB1 := Lib.hid ((HB2.out.alloc (by omega) (.cells #[.string (s.extract (n + 1) (n + 1 + T))] 9)).grown hgrow (by simp; omega) (fun k hk => (HO2.out.lt k hk).1))
                clear hown1 hgrow
                go_wp2_with fail
                go_roundw
                case rel =>
                  refine ⟨n + 1 + T, acc ++ [((tx s).drop (n + 1)).take T], by go_num, HNX.out, ?_, HB1.out⟩
                  have h1 := HO1.out
                  rw [HX.out] at h1
                  rw [List.length_append, HLL.out, List.map_append]
                  exact h1
                case measure => simp [intOf]; omega
end Go.Proofs.Ytoaodlfmhioigaa.TS
end

import Derived.Test.YtblkgfkdfldkiaaT9
namespace Go.Proofs.Ytblkgfkdfldkiaa
open Go.RowKit TypesText

set_option maxHeartbeats 400000 in
theorem begins_any (s p : ByteArray) (w : World) :
    Calls Try.prog 27 #[.string s, .string p] w fun e w' => e = .returned (.bool (pre (tx p) (tx s))) ∧ w' = w := by
  by_cases h : p.size ≤ s.size
  · have e : ((s.extract 0 p.size).toList == p.toList) = pre (tx p) (tx s) := by
      rw [pre_iff, tx_len, Lib.extract_toList, Lib.toList_data, List.drop_zero, Nat.sub_zero]
    have E := Lib.hid e
    clear e
    go_enter Try.func27, Try.ntmps27
    go_wp2
    go_ret
    exact ⟨by rw [← E.out]; rfl, rfl⟩
  · have e : pre (tx p) (tx s) = false := by
      rw [Bool.eq_false_iff]
      intro h1
      have := pre_length h1
      rw [tx_len, tx_len] at this
      exact h this
    have E := Lib.hid e
    clear e
    go_enter Try.func27, Try.ntmps27
    go_wp2
    go_ret
    exact ⟨by rw [E.out]; rfl, rfl⟩

/-- A place where a word stands between blanks. -/
def Stands (l s : Bytes) (i : Nat) : Prop := (l.drop i).take (s.length + 2) = 32 :: s ++ [32]

theorem stands_fits {l s : Bytes} {i : Nat} (h : Stands l s i) : i + s.length + 2 ≤ l.length := by
  have := congrArg List.length h
  simp at this
  omega

open Classical in
/-- Does a word stand in a list of words? -/
noncomputable def inList (l s : Bytes) : Bool := decide (s ≠ [] ∧ ∃ i, Stands l s i)

theorem inList_iff (l s : Bytes) : inList l s = true ↔ s ≠ [] ∧ ∃ i, Stands l s i := by simp [inList]

set_option maxHeartbeats 800000 in
theorem in_any (s l : ByteArray) (w : World) (hs : s.size ≤ 4000000) (hl : l.size ≤ 4000000) :
    Calls Try.prog 48 #[.string s, .string l] w fun e w' => e = .returned (.bool (inList (tx l) (tx s))) ∧ w' = w := by
  have HR := Lib.hid (inList_iff (tx l) (tx s))
  obtain ⟨R, hR⟩ : ∃ R, inList (tx l) (tx s) = R := ⟨_, rfl⟩
  rw [hR] at HR ⊢
  clear hR
  obtain ⟨T, hT⟩ : ∃ T : ByteArray, ({ data := #[32] } ++ s ++ { data := #[32] } : ByteArray) = T := ⟨_, rfl⟩
  have hTt : tx T = 32 :: tx s ++ [32] := by rw [← hT]; simp [tx]
  have hTs : T.size = s.size + 2 := by rw [← tx_len, hTt, ← tx_len s]; simp
  have HT := Lib.hid hTt
  have key : ∀ i, i + (s.size + 2) ≤ l.size → (((l.extract i (i + (s.size + 2))).toList == T.toList) = true ↔ Stands (tx l) (tx s) i) := by
    intro i hi
    rw [toList_tx, toList_tx, tx_part, Nat.add_sub_cancel_left, beq_iff_eq, HT.out, Stands, tx_len]
  have HK := Lib.hid key
  clear key hTt
  have hemp : (s.toList == []) = true ↔ tx s = [] := by rw [toList_tx, beq_iff_eq]
  obtain ⟨Z, hZ⟩ : ∃ Z, (s.toList == []) = Z := ⟨_, rfl⟩
  have hne : (s.toList != []) = !Z := by rw [← hZ]; rfl
  rw [hZ] at hemp
  have HZ := Lib.hid hemp
  clear hemp
  go_enter Try.func48, Try.ntmps48
  rw [← hZ] at hne
  rw [hZ] at hne
  go_wp2_with fail
  clear hT
  go_loopw [6] (fun i wr => ∃ n : Nat, i = .int .i64 n ∧ n ≤ l.size ∧ (∀ j, j < n → tx s ≠ [] → ¬ Stands (tx l) (tx s) j) ∧ wr = w) (fun i _ => l.size + 1 - (intOf i).toNat)
  case atStart => exact ⟨0, rfl, by omega, by intro j hj; omega, rfl⟩
  case round =>
    obtain ⟨n, rfl, hn, hbef, rfl⟩ := hrel
    have HB := Lib.hid hbef
    clear hbef
    by_cases hfit : n + (s.size + 2) ≤ l.size
    · have hk := HK.out n hfit
      obtain ⟨E, hE⟩ : ∃ E, ((l.extract n (n + (s.size + 2))).toList == T.toList) = E := ⟨_, rfl⟩
      rw [hE] at hk
      have HKE := Lib.hid hk
      clear hk
      cases Z with
      | true =>
        simp only [Bool.not_true] at hne
        go_wp2_with fail
        go_roundw
        case rel => exact ⟨n + 1, by go_num, by omega, by intro j _ hsn; exact absurd (HZ.out.1 rfl) hsn, by trivial⟩
        case measure => simp [intOf]; omega
      | false =>
        simp only [Bool.not_false] at hne
        cases E with
        | true =>
          go_wp2_with fail
          go_ret
          rw [HR.out.2 ⟨fun h => (by have := HZ.out.2 h; cases this), n, HKE.out.1 (by trivial)⟩]
          exact ⟨rfl, rfl⟩
        | false =>
          go_wp2_with fail
          go_roundw
          case rel =>
            refine ⟨n + 1, by go_num, by omega, ?_, by trivial⟩
            intro j hj hsn
            by_cases hjn : j = n
            · subst hjn
              intro h
              have := HKE.out.2 h
              cases this
            · exact HB.out j (by omega) hsn
          case measure => simp [intOf]; omega
    · go_wp2_with fail
      go_ret
      rw [show R = false from by
        rw [Bool.eq_false_iff]
        intro h
        obtain ⟨hsn, i, hi⟩ := HR.out.1 h
        by_cases hin : i < n
        · exact absurd hi (HB.out i hin hsn)
        · have := stands_fits hi
          rw [tx_len, tx_len] at this
          omega]
      exact ⟨rfl, rfl⟩
end Go.Proofs.Ytblkgfkdfldkiaa

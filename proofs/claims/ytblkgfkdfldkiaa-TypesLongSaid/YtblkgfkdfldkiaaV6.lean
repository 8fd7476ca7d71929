import Derived.Test.YtblkgfkdfldkiaaV5
namespace Go.Proofs.Ytblkgfkdfldkiaa
open Go.RowKit TypesText

theorem fn_long (n m : Nat) (f t : ByteArray) (w : World) (hs : f.size + t.size ≤ 3000000) (hf : tx f = sFunc ++ joinl (chain n) m) (ht : tx t = chain n) :
    Calls Try.prog 14 #[.string (f ++ ⟨#[41]⟩ ++ t)] w fun e w' => ∃ a c, e = .returned (.tuple #[.slice a m c, .string t, .bool true]) ∧ Below w.heap.size w w' ∧
      ∀ j, j < m → ∃ g, a = some ⟨g, 0, none⟩ ∧ ∀ w2 : World, Below w'.heap.size w' w2 → w2.cell? ⟨g, j, none⟩ = some (.string t) := by
  have c := func14_any (f ++ ⟨#[41]⟩ ++ t) w (by rw [size_app, size_app]; show f.size + 1 + t.size ≤ _; omega)
  obtain ⟨h1, h2⟩ := long_func n m
  rw [tx_app, tx_app, hf, ht, show tx ⟨#[41]⟩ = [41] from rfl, h1, h2] at c
  refine c.mono ?_
  rintro e w' ⟨v, rfl, hb, ho⟩
  obtain ⟨a, c, rfl⟩ := ownsRow_shape ho
  simp only [List.length_replicate] at ho ⊢
  refine ⟨a, c, by rw [← ht]; rfl, hb, ?_⟩
  intro j hj
  have ho2 : w'.ownsRow w.heap.size 9 1 (.slice a m c) (List.replicate m (chain n)).length ((List.replicate m (chain n)).map strV) := by rw [List.length_replicate]; exact ho
  obtain ⟨g, cap, h3, hc⟩ := row_form ho2 (by simp; omega)
  injection h3 with h3 _ _
  refine ⟨g, h3, ?_⟩
  intro w2 hb2
  have k0 := hc j (chain n) (by rw [List.getElem?_replicate, if_pos hj])
  have hg := World.block_lt_of_cell? w' _ k0
  rw [Below.cell hb2 hg, k0, ← ht]
  rfl

theorem el_chainC (k : Nat) (c : ByteArray) (w : World) (hs : c.size ≤ 3000000) (hc : tx c = chain (k + 1)) :
    Calls Try.prog 13 #[.string c] w fun e w' => ∃ d : ByteArray, e = .returned (.tuple #[.string d, .bool true]) ∧ Below w.heap.size w w' ∧ tx d = chain k := by
  have h := elem_any c w (by omega)
  rw [hc, elem_chain] at h
  refine h.mono ?_
  rintro e w' ⟨rfl, hb⟩
  exact ⟨⟨(chain k).toArray⟩, rfl, hb, rfl⟩

set_option maxHeartbeats 3200000 in
theorem long_in (N M : Nat) (hN : N ≤ 300) (hM : M ≤ 300) (w : World) : Calls Try.prog 5 #[.int .i64 N, .int .i64 M] w fun e w' => e = .returned (.bool true) ∧ Below w.heap.size w w' := by
  have cA := anchor_any
  have HB := Lib.hid (Below.refl w.heap.size w)
  have hsz := Nat.le_refl w.heap.size
  go_enter Try.func5, Try.ntmps5
  go_wp2_with (with_reducible refine (cA _).mono ?_; rintro e w' ⟨rfl, hb⟩; have HB := Lib.hid (HB.out.trans (hb.mono hsz)); have hsz := Nat.le_trans hsz hb.size; clear hb)
  go_loopw [6, 5] (fun i v wr => ∃ (k : Nat) (c : ByteArray), i = .int .i64 k ∧ v = .string c ∧ k ≤ N ∧ tx c = chain k ∧ Below w.heap.size w wr) (fun i _ _ => N - (intOf i).toNat)
  case atStart => exact ⟨0, _, rfl, rfl, by omega, rfl, HB.out⟩
  case round =>
    obtain ⟨k, c, rfl, rfl, hk, hc, hb⟩ := hrel
    have HB := Lib.hid hb
    have hsz := hb.size
    have HC := Lib.hid hc
    have hcl := chain_len k
    rw [← hc, tx_len] at hcl
    clear hb hc
    by_cases hlt : k < N
    · by_cases hm : k % 2 = 0
      · have hm2 : Int.tmod (k : Int) 2 = 0 := by rw [Int.tmod_eq_emod_of_nonneg (by omega)]; omega
        go_wp2_with fail
        go_roundw
        case rel => exact ⟨k + 1, _, by go_num, rfl, by omega, by rw [tx_app, HC.out, chain, if_pos hm]; rfl, HB.out⟩
        case measure => simp [intOf]; omega
      · have hm2 : ¬ Int.tmod (k : Int) 2 = 0 := by rw [Int.tmod_eq_emod_of_nonneg (by omega)]; omega
        go_wp2_with fail
        go_roundw
        case rel => exact ⟨k + 1, _, by go_num, rfl, by omega, by rw [tx_app, HC.out, chain, if_neg hm]; rfl, HB.out⟩
        case measure => simp [intOf]; omega
    · obtain rfl : k = N := by omega
      go_wp2_with fail
      have hjl := fun i => joinl_len (chain k) i
      have HJL := Lib.hid hjl
      clear hjl
      have hcc : (chain k).length = c.size := by rw [← HC.out, tx_len]
      go_loopw [8, 7] (fun i v wr => ∃ (j : Nat) (f : ByteArray), i = .int .i64 j ∧ v = .string f ∧ j ≤ M ∧ tx f = sFunc ++ joinl (chain k) j ∧ Below w.heap.size w wr) (fun i _ _ => M - (intOf i).toNat)
      case atStart => exact ⟨0, _, rfl, rfl, by omega, rfl, HB.out⟩
      case round =>
        obtain ⟨j, f, rfl, rfl, hj, hf, hb⟩ := hrel
        have HB := Lib.hid hb
        have hsz := hb.size
        have HF := Lib.hid hf
        have hfl : f.size ≤ 500000 := by
          have h1 := congrArg List.length hf
          rw [tx_len, List.length_append] at h1
          have h2 := HJL.out j
          rw [hcc] at h2
          have h3 : j * (c.size + 1) ≤ 300 * 1504 := Nat.mul_le_mul (by omega) (by omega)
          simp only [sFunc, List.length_cons, List.length_nil] at h1
          omega
        clear hb hf
        by_cases hlt2 : j < M
        · by_cases hj0 : j = 0
          · subst hj0
            go_wp2_with fail
            go_roundw
            case rel => exact ⟨1, _, rfl, rfl, by omega, by rw [tx_app, HF.out, HC.out]; rfl, HB.out⟩
            case measure => simp [intOf]; omega
          · have hj1 : 0 < j := by omega
            go_wp2_with fail
            go_roundw
            case rel => exact ⟨j + 1, _, by go_num, rfl, by omega, by rw [tx_app, tx_app, HF.out, HC.out, joinl, if_pos hj1, List.append_assoc, List.append_assoc, List.append_assoc], HB.out⟩
            case measure => simp [intOf]; omega
        · obtain rfl : j = M := by omega
          have c14 := fun w1 => fn_long k j f c w1 (by omega) HF.out HC.out
          have c15 : ∀ w1, Calls Try.prog 15 #[.string (c ++ ⟨#[32]⟩)] w1 fun e w' => e = .returned (.bool false) ∧ Below w1.heap.size w1 w' := by
            intro w1
            have := valid_any (c ++ ⟨#[32]⟩) w1 (by rw [size_app]; show c.size + 1 ≤ _; omega)
            rw [tx_app, HC.out, show tx ⟨#[32]⟩ = [32] from rfl, blank_chain] at this
            exact this
          have hn0 : nilable (chain k) = decide (0 < k) := by
            cases k with
            | zero => decide
            | succ k => rw [nilable_chain]; rfl
          have c16 : ∀ w1, Calls Try.prog 16 #[.string c] w1 fun e w' => e = .returned (.bool (decide (0 < k))) ∧ Below w1.heap.size w1 w' := by
            intro w1
            have := nilable_any c w1 (by omega)
            rw [HC.out, hn0] at this
            exact this
          clear hn0
          have hpost : k = 0 ∨ 0 < k := by omega
          rcases hpost with hz | hp
          · subst hz
            rw [show decide (0 < 0) = false from rfl] at c16
            go_wp2_with (first | (with_reducible refine (c14 _).mono ?_; rintro e w14 ⟨a, cc, rfl, hb, hcells⟩; have HB := Lib.hid (HB.out.trans (hb.mono hsz)); have HCE := Lib.hid hcells; have HBB := Lib.hid (Below.refl w14.heap.size w14); have hszz := Nat.le_refl w14.heap.size; have hsz := Nat.le_trans hsz hb.size; clear hb hcells) | (with_reducible refine (c16 _).mono ?_; rintro e w2 ⟨rfl, hb⟩; have HB := Lib.hid (HB.out.trans (hb.mono hsz)); have HBB := Lib.hid (HBB.out.trans (hb.mono hszz)); have hszz := Nat.le_trans hszz hb.size; have hsz := Nat.le_trans hsz hb.size; clear hb) | (with_reducible refine (c15 _).mono ?_; rintro e w3 ⟨rfl, hb⟩; have HB := Lib.hid (HB.out.trans (hb.mono hsz)); have HBB := Lib.hid (HBB.out.trans (hb.mono hszz)); have hszz := Nat.le_trans hszz hb.size; have hsz := Nat.le_trans hsz hb.size; clear hb))
            have hkk : 0 ≤ 300 := by omega
            go_loopw [96] (fun i wr => ∃ q : Nat, i = .int .i64 q ∧ q ≤ j ∧ Below w.heap.size w wr ∧ Below w14.heap.size w14 wr) (fun i _ => j - (intOf i).toNat)
            case atStart => exact ⟨0, rfl, by omega, HB.out, HBB.out⟩
            case round =>
              obtain ⟨q, rfl, hq, hb, hbb⟩ := hrel
              have HB := Lib.hid hb
              have HBB := Lib.hid hbb
              clear hb hbb
              by_cases hlt3 : q < j
              · obtain ⟨g, rfl, hcell⟩ := HCE.out q hlt3
                have hk1 := hcell _ HBB.out
                clear hcell
                go_wp2_with fail
                go_roundw
                case rel => exact ⟨q + 1, by go_num, by omega, HB.out, HBB.out⟩
                case measure => simp [intOf]; omega
              · go_wp2_with fail
                go_loopw [14, 5] (fun i v wr => ∃ (q : Nat) (d : ByteArray), i = .int .i64 q ∧ v = .string d ∧ q ≤ 300 ∧ tx d = chain q ∧ Below w.heap.size w wr) (fun i _ _ => (intOf i).toNat)
                case atStart => exact ⟨0, c, rfl, rfl, hkk, HC.out, HB.out⟩
                case round =>
                  obtain ⟨q, d, rfl, rfl, hq, hd, hb⟩ := hrel
                  have HB := Lib.hid hb
                  have hsz := hb.size
                  have HD := Lib.hid hd
                  clear hb hd
                  cases q with
                  | zero =>
                    have hdl : (d.toList == [105, 110, 116]) = true := by rw [toList_tx, HD.out]; rfl
                    go_wp2_with fail
                    go_ret
                    exact ⟨rfl, HB.out⟩
                  | succ q =>
                    have hdz : d.size ≤ 2000 := by have h := chain_len (q + 1); rw [← HD.out, tx_len] at h; omega
                    have c13 := fun w1 => el_chainC q d w1 (by omega) HD.out
                    clear hdz
                    go_wp2_with (with_reducible refine (c13 _).mono ?_; rintro e w13 ⟨d2, rfl, hb, hd2⟩; have HB := Lib.hid (HB.out.trans (hb.mono hsz)); have HD2 := Lib.hid hd2; clear hb hd2)
                    go_roundw
                    case rel => exact ⟨q, d2, by go_num, rfl, by omega, HD2.out, HB.out⟩
                    case measure => simp [intOf]
          · have hdec : decide (0 < k) = true := by simpa using hp
            rw [hdec] at c16
            clear hdec
            go_wp2_with (first | (with_reducible refine (c14 _).mono ?_; rintro e w14 ⟨a, cc, rfl, hb, hcells⟩; have HB := Lib.hid (HB.out.trans (hb.mono hsz)); have HCE := Lib.hid hcells; have HBB := Lib.hid (Below.refl w14.heap.size w14); have hszz := Nat.le_refl w14.heap.size; have hsz := Nat.le_trans hsz hb.size; clear hb hcells) | (with_reducible refine (c16 _).mono ?_; rintro e w2 ⟨rfl, hb⟩; have HB := Lib.hid (HB.out.trans (hb.mono hsz)); have HBB := Lib.hid (HBB.out.trans (hb.mono hszz)); have hszz := Nat.le_trans hszz hb.size; have hsz := Nat.le_trans hsz hb.size; clear hb) | (with_reducible refine (c15 _).mono ?_; rintro e w3 ⟨rfl, hb⟩; have HB := Lib.hid (HB.out.trans (hb.mono hsz)); have HBB := Lib.hid (HBB.out.trans (hb.mono hszz)); have hszz := Nat.le_trans hszz hb.size; have hsz := Nat.le_trans hsz hb.size; clear hb))
            have hkk : k ≤ 300 := by omega
            go_loopw [96] (fun i wr => ∃ q : Nat, i = .int .i64 q ∧ q ≤ j ∧ Below w.heap.size w wr ∧ Below w14.heap.size w14 wr) (fun i _ => j - (intOf i).toNat)
            case atStart => exact ⟨0, rfl, by omega, HB.out, HBB.out⟩
            case round =>
              obtain ⟨q, rfl, hq, hb, hbb⟩ := hrel
              have HB := Lib.hid hb
              have HBB := Lib.hid hbb
              clear hb hbb
              by_cases hlt3 : q < j
              · obtain ⟨g, rfl, hcell⟩ := HCE.out q hlt3
                have hk1 := hcell _ HBB.out
                clear hcell
                go_wp2_with fail
                go_roundw
                case rel => exact ⟨q + 1, by go_num, by omega, HB.out, HBB.out⟩
                case measure => simp [intOf]; omega
              · go_wp2_with fail
                go_loopw [14, 5] (fun i v wr => ∃ (q : Nat) (d : ByteArray), i = .int .i64 q ∧ v = .string d ∧ q ≤ 300 ∧ tx d = chain q ∧ Below w.heap.size w wr) (fun i _ _ => (intOf i).toNat)
                case atStart => exact ⟨k, c, rfl, rfl, hkk, HC.out, HB.out⟩
                case round =>
                  obtain ⟨q, d, rfl, rfl, hq, hd, hb⟩ := hrel
                  have HB := Lib.hid hb
                  have hsz := hb.size
                  have HD := Lib.hid hd
                  clear hb hd
                  cases q with
                  | zero =>
                    have hdl : (d.toList == [105, 110, 116]) = true := by rw [toList_tx, HD.out]; rfl
                    go_wp2_with fail
                    go_ret
                    exact ⟨rfl, HB.out⟩
                  | succ q =>
                    have hdz : d.size ≤ 2000 := by have h := chain_len (q + 1); rw [← HD.out, tx_len] at h; omega
                    have c13 := fun w1 => el_chainC q d w1 (by omega) HD.out
                    clear hdz
                    go_wp2_with (with_reducible refine (c13 _).mono ?_; rintro e w13 ⟨d2, rfl, hb, hd2⟩; have HB := Lib.hid (HB.out.trans (hb.mono hsz)); have HD2 := Lib.hid hd2; clear hb hd2)
                    go_roundw
                    case rel => exact ⟨q, d2, by go_num, rfl, by omega, HD2.out, HB.out⟩
                    case measure => simp [intOf]

theorem long_any (a b : Int) (w : World) : Calls Try.prog 5 #[.int .i64 a, .int .i64 b] w fun e w' => e = .returned (.bool true) ∧ Below w.heap.size w w' := by
  by_cases h : (0 ≤ a ∧ a ≤ 300) ∧ 0 ≤ b ∧ b ≤ 300
  · obtain ⟨⟨h1, h2⟩, h3, h4⟩ := h
    obtain ⟨n, rfl⟩ := Int.eq_ofNat_of_zero_le h1
    obtain ⟨m, rfl⟩ := Int.eq_ofNat_of_zero_le h3
    exact long_in n m (by omega) (by omega) w
  · have cA := anchor_any
    by_cases h1 : a < 0
    · go_enter Try.func5, Try.ntmps5
      go_wp2_with (with_reducible refine (cA _).mono ?_; rintro e w' ⟨rfl, hb⟩)
      go_ret
      exact ⟨rfl, hb⟩
    by_cases h2 : 300 < a
    · go_enter Try.func5, Try.ntmps5
      go_wp2_with (with_reducible refine (cA _).mono ?_; rintro e w' ⟨rfl, hb⟩)
      go_ret
      exact ⟨rfl, hb⟩
    by_cases h3 : b < 0
    · go_enter Try.func5, Try.ntmps5
      go_wp2_with (with_reducible refine (cA _).mono ?_; rintro e w' ⟨rfl, hb⟩)
      go_ret
      exact ⟨rfl, hb⟩
    · have h4 : 300 < b := by omega
      clear h
      go_enter Try.func5, Try.ntmps5
      go_wp2_with (with_reducible refine (cA _).mono ?_; rintro e w' ⟨rfl, hb⟩)
      go_ret
      exact ⟨rfl, hb⟩

end Go.Proofs.Ytblkgfkdfldkiaa

import Derived.Test.YtoffodgjpeeenaaL1
import Derived.OpenShut
namespace Go.Proofs.Ytoffodgjpeeenaa
open Go.RowKit

/-- A slice of integers that came in, as a list. -/
theorem isrow_view {w : World} {a : Option Addr} {len cap : Nat} {zs : List Int}
    (h : (a = none ∧ len = 0 ∧ cap = 0 ∧ zs = []) ∨ ∃ x, a = some x ∧ len ≤ cap ∧ cap ≤ maxLen ∧ zs.length = cap ∧ (∀ i, i < zs.length → w.cell? (x.add i) = some (.int .i64 (zs.getD i 0))) ∧ ∀ n ∈ zs, (Lit.int .i64 n).wf = true) :
    ∃ xs : List Int, xs.length = len ∧ View w (.slice a len cap) xs ∧ (∀ x ∈ xs, -9223372036854775808 ≤ x ∧ x ≤ 9223372036854775807) ∧ ∀ k, (Value.slice a len cap).ownBlock = some k → xs ≠ [] → k < w.heap.size := by
  rcases h with ⟨rfl, rfl, rfl, rfl⟩ | ⟨x, rfl, hl, hm, hz, hc, hw⟩
  · exact ⟨[], rfl, ⟨none, 0, rfl, Nat.le_refl _, fun h => absurd rfl h⟩, by simp, by simp [Value.ownBlock]⟩
  · have hlen : (zs.take len).length = len := by simp; omega
    refine ⟨zs.take len, hlen, ⟨some x, cap, by rw [hlen], by omega, fun hne => ?_⟩, ?_, ?_⟩
    · have h0 : 0 < zs.length := by
        rcases Nat.eq_zero_or_pos zs.length with h | h
        · exact absurd (by simp [List.length_eq_zero_iff.1 h]) hne
        · exact h
      obtain ⟨b, o, spot⟩ := x
      have hs : spot = none := by simpa [Addr.add] using World.cell?_spot (hc 0 h0)
      subst hs
      refine ⟨b, o, rfl, fun i hi => ?_⟩
      have hi2 : i < zs.length := by simp at hi; omega
      have := hc i hi2
      rw [Addr.add_lit] at this
      rw [this]; simp [List.getD, List.getElem?_eq_getElem hi2]
    · intro y hy
      exact bounds_i64 (hw y (List.mem_of_mem_take hy))
    · intro k hk hne
      have h0 : 0 < zs.length := by
        rcases Nat.eq_zero_or_pos zs.length with h | h
        · exact absurd (by simp [List.length_eq_zero_iff.1 h]) hne
        · exact h
      have := World.block_lt_of_cell? _ _ (hc 0 h0)
      simp [Value.ownBlock] at hk
      simpa [Addr.add, hk] using this

theorem isrow_len {w : World} {a : Option Addr} {len cap : Nat} {zs : List Int}
    (h : (a = none ∧ len = 0 ∧ cap = 0 ∧ zs = []) ∨ ∃ x, a = some x ∧ len ≤ cap ∧ cap ≤ maxLen ∧ zs.length = cap ∧ (∀ i, i < zs.length → w.cell? (x.add i) = some (.int .i64 (zs.getD i 0))) ∧ ∀ n ∈ zs, (Lit.int .i64 n).wf = true) : len ≤ 9223372036854775807 := by
  rcases h with ⟨_, rfl, _⟩ | ⟨_, _, h1, h2, _⟩
  · omega
  · unfold maxLen at h2; omega

theorem View.at {w : World} {a : Option Addr} {n c : Nat} {xs : List Int} (h : View w (.slice a n c) xs) (hn : xs.length = n) (hne : 0 < n) :
    ∃ b o, a = some ⟨b, o, none⟩ ∧ n ≤ c ∧ b < w.heap.size ∧ ∀ i (hi : i < xs.length), w.cell? ⟨b, o + i, none⟩ = some (.int .i64 xs[i]) := by
  obtain ⟨a', c', he, hl, hc⟩ := h
  injection he with e1 e2 e3
  subst e1; subst e3
  obtain ⟨b, o, rfl, hcell⟩ := hc (by intro e; simp [e] at hn; omega)
  exact ⟨b, o, rfl, by omega, World.block_lt_of_cell? _ _ (hcell 0 (by omega)), hcell⟩

set_option maxHeartbeats 1600000 in
/-- SchedNumbers, past its guard. -/
theorem numbers_walk (a : Option Addr) (n c : Nat) (xs : List Int) (more : Nat) (w : World) (hn : xs.length = n) (hv : View w (.slice a n c) xs) (htop : ∀ x ∈ xs, -9223372036854775808 ≤ x ∧ x ≤ 9223372036854775807) (hx : ∀ k, (Value.slice a n c).ownBlock = some k → xs ≠ [] → k < w.heap.size)
    (h1 : n ≤ 500) (h2 : more ≤ 100) :
    Calls Try.prog 6 #[.slice a n c, .int .i64 more] w fun e w' => e = .returned (.bool true) ∧ Below w.heap.size w w' := by
  have HA := Lib.hid (anchor_any w)
  have HN := Lib.hid (fun (w1 : World) (hu : UpB w.heap.size w w1) => own_new w.heap.size (.slice a n c) xs w w1 (by
    by_cases hne : xs = []
    · subst hne
      obtain ⟨a', c', he, hl, hc⟩ := hv
      exact ⟨a', c', he, hl, fun h => absurd rfl h⟩
    · exact hv.upd hu (fun k hk => by have := hx k hk hne; omega)) (by omega) (fun x hx => (htop x hx).2) hu.size hu)
  have HV := Lib.hid hv
  have HT := Lib.hid htop
  have HL := Lib.hid hn
  clear hv htop hx hn
  go_enter Try.func6, Try.ntmps6
  go_wp2_with fail
  refine HA.out.mono ?_
  rintro e w1 ⟨rfl, hu1⟩
  go_wp2_with fail
  refine (HN.out w1 hu1.out).mono ?_
  rintro e w2 ⟨b, rfl, ho2⟩
  go_wp2_with fail
  go_loopw [7, 27] (fun _ i wr => ∃ k : Nat, k ≤ n ∧ i = .int .i64 k ∧ Hid (Own w.heap.size b w wr (xs.drop k) [])) (fun _ i _ => n - (intOf i).toNat)
  case atStart => exact ⟨0, by omega, rfl, by rw [List.drop_zero]; exact ho2.out.1⟩
  case round =>
    obtain ⟨k, hk, rfl, ho⟩ := hrel
    by_cases hlt : k < n
    · have hkx : k < xs.length := by rw [HL.out]; exact hlt
      obtain ⟨ab, ao, rfl, hnc, hab, hcell⟩ := View.at HV.out HL.out (by omega)
      have kc : wr.cell? ⟨ab, ao + k, none⟩ = some (.int .i64 xs[k]) := by
        rw [World.cell?_of_block (w := w) (ho.out.2.1.block ab hab (by show ¬ w.heap.size ≤ ab; omega))]
        exact hcell k hkx
      have hd : xs.drop k = xs[k] :: xs.drop (k + 1) := List.drop_eq_getElem_cons hkx
      have ho3 := ho.out
      rw [hd] at ho3
      have HD := Lib.hid hd
      generalize hy : xs[k] = y at kc ho3
      have HO := Lib.hid ho3
      clear hcell hd hy ho3 HN
      by_cases hneg : y < 0
      · go_wp2_with fail
        refine (own_number HO.out (by have := HL.out; simp; omega)).mono ?_
        rintro e w3 ⟨rfl, ho4⟩
        have e1 : ((numOf (y :: xs.drop (k + 1))) != 0) = false := by simp [numOf]; omega
        go_wp2
        go_roundw
        case rel => exact ⟨k + 1, by omega, by go_num, ho4⟩
        case measure => simp [intOf]; omega
      · go_wp2_with fail
        refine (own_number HO.out (by have := HL.out; simp; omega)).mono ?_
        rintro e w3 ⟨rfl, ho4⟩
        have e1 : ((numOf (y :: xs.drop (k + 1))) != y) = false := by simp [numOf]; omega
        go_wp2
        go_roundw
        case rel => exact ⟨k + 1, by omega, by go_num, ho4⟩
        case measure => simp [intOf]; omega
    · have hkk : k = n := by omega
      have ho3 := ho.out
      have hd : xs.drop k = [] := List.drop_eq_nil_of_le (by rw [HL.out]; omega)
      rw [hd] at ho3
      have HO := Lib.hid ho3
      obtain ⟨wo, rfl⟩ : ∃ wo : World, wo = wr := ⟨_, rfl⟩
      clear hkk hd ho3 ho
      go_wp2_with fail
      go_loopw [39] (fun i wr => ∃ k : Nat, k ≤ more ∧ i = .int .i64 k ∧ Hid (Own w.heap.size b w wr [] [])) (fun i _ => more - (intOf i).toNat)
      case atStart => exact ⟨0, by omega, rfl, HO⟩
      case round =>
        obtain ⟨j, hj, rfl, ho⟩ := hrel
        by_cases hlt2 : j < more
        · go_wp2_with fail
          refine (own_number ho.out (by simp)).mono ?_
          rintro e w3 ⟨rfl, ho4⟩
          go_wp2
          go_roundw
          case rel => exact ⟨j + 1, by omega, by go_num, ho4⟩
          case measure => simp [intOf]; omega
        · go_wp2_with fail
          refine (own_len ho.out).mono ?_
          rintro e w3 ⟨rfl, rfl⟩
          go_wp2_with fail
          refine (own_list ho.out (by simp)).mono ?_
          rintro e w4 ⟨v, rfl, hl⟩
          obtain ⟨a4, c4, rfl, _, _⟩ := ownsRow_view hl.out.1
          go_wp2
          go_ret
          exact ⟨rfl, UpB.toBelow hl.out.2.2.2.1 (Nat.le_refl _)⟩

set_option maxHeartbeats 800000 in
theorem numbers_guard (a : Option Addr) (n c : Nat) (m : Int) (w : World) (hn : n ≤ 9223372036854775807) (h : 500 < n ∨ m < 0 ∨ 100 < m) :
    Calls Try.prog 6 #[.slice a n c, .int .i64 m] w fun e w' => e = .returned (.bool true) ∧ Below w.heap.size w w' := by
  have HA := Lib.hid (anchor_any w)
  by_cases h1 : 500 < n
  · clear h
    go_enter Try.func6, Try.ntmps6
    go_wp2_with fail
    refine HA.out.mono ?_
    rintro e w1 ⟨rfl, hu1⟩
    go_wp2
    go_ret
    exact ⟨rfl, UpB.toBelow hu1.out (Nat.le_refl _)⟩
  · by_cases h2 : m < 0
    · clear h
      go_enter Try.func6, Try.ntmps6
      go_wp2_with fail
      refine HA.out.mono ?_
      rintro e w1 ⟨rfl, hu1⟩
      go_wp2
      go_ret
      exact ⟨rfl, UpB.toBelow hu1.out (Nat.le_refl _)⟩
    · have h3 : 100 < m := by omega
      clear h
      go_enter Try.func6, Try.ntmps6
      go_wp2_with fail
      refine HA.out.mono ?_
      rintro e w1 ⟨rfl, hu1⟩
      go_wp2
      go_ret
      exact ⟨rfl, UpB.toBelow hu1.out (Nat.le_refl _)⟩

theorem numbers_any (a : Option Addr) (n c : Nat) (xs : List Int) (m : Int) (w : World) (hn : xs.length = n) (hv : View w (.slice a n c) xs) (htop : ∀ x ∈ xs, -9223372036854775808 ≤ x ∧ x ≤ 9223372036854775807) (hx : ∀ k, (Value.slice a n c).ownBlock = some k → xs ≠ [] → k < w.heap.size) (hc : n ≤ 9223372036854775807) :
    Calls Try.prog 6 #[.slice a n c, .int .i64 m] w fun e w' => e = .returned (.bool true) ∧ Below w.heap.size w w' := by
  by_cases h : 500 < n ∨ m < 0 ∨ 100 < m
  · exact numbers_guard a n c m w hc h
  · obtain ⟨k, rfl⟩ := Int.eq_ofNat_of_zero_le (a := m) (by omega)
    exact numbers_walk a n c xs k w hn hv htop hx (by omega) (by omega)

end Go.Proofs.Ytoffodgjpeeenaa

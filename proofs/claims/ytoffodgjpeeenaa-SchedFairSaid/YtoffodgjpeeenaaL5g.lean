import Derived.Test.YtoffodgjpeeenaaL5
namespace Go.Proofs.Ytoffodgjpeeenaa
open Go.RowKit

set_option maxHeartbeats 800000 in
set_option maxRecDepth 100000 in
theorem fair_guard (a : Option Addr) (n c : Nat) (a2 : Option Addr) (m c2 : Nat) (t : Int) (w : World) (hn : n ≤ 9223372036854775807) (hm : m ≤ 9223372036854775807) (h : 500 < n ∨ 200 < m ∨ t < 0 ∨ 300 < t) :
    Calls Try.prog 5 #[.slice a n c, .slice a2 m c2, .int .i64 t] w fun e w' => e = .returned (.bool true) ∧ Below w.heap.size w w' := by
  have HA := Lib.hid (anchor_any w)
  by_cases h1 : 500 < n
  · clear h
    go_enter Try.func5, Try.ntmps5
    go_wp2_with fail
    refine HA.out.mono ?_
    rintro e w1 ⟨rfl, hu1⟩
    go_wp2
    go_ret
    exact ⟨rfl, UpB.toBelow hu1.out (Nat.le_refl _)⟩
  · by_cases h2 : 200 < m
    · clear h
      go_enter Try.func5, Try.ntmps5
      go_wp2_with fail
      refine HA.out.mono ?_
      rintro e w1 ⟨rfl, hu1⟩
      go_wp2
      go_ret
      exact ⟨rfl, UpB.toBelow hu1.out (Nat.le_refl _)⟩
    · by_cases h3 : t < 0
      · clear h
        go_enter Try.func5, Try.ntmps5
        go_wp2_with fail
        refine HA.out.mono ?_
        rintro e w1 ⟨rfl, hu1⟩
        go_wp2
        go_ret
        exact ⟨rfl, UpB.toBelow hu1.out (Nat.le_refl _)⟩
      · have h4 : 300 < t := by omega
        clear h
        go_enter Try.func5, Try.ntmps5
        go_wp2_with fail
        refine HA.out.mono ?_
        rintro e w1 ⟨rfl, hu1⟩
        go_wp2
        go_ret
        exact ⟨rfl, UpB.toBelow hu1.out (Nat.le_refl _)⟩

theorem fair_any (a : Option Addr) (n c : Nat) (xs : List Int) (a2 : Option Addr) (m c2 : Nat) (ys : List Int) (t : Int) (w : World) (hn : xs.length = n) (hv : View w (.slice a n c) xs) (htop : ∀ x ∈ xs, -9223372036854775808 ≤ x ∧ x ≤ 9223372036854775807) (hx : ∀ k, (Value.slice a n c).ownBlock = some k → xs ≠ [] → k < w.heap.size)
    (hm : ys.length = m) (hv2 : View w (.slice a2 m c2) ys) (hx2 : ∀ k, (Value.slice a2 m c2).ownBlock = some k → ys ≠ [] → k < w.heap.size) (hnc : n ≤ 9223372036854775807) (hmc : m ≤ 9223372036854775807) :
    Calls Try.prog 5 #[.slice a n c, .slice a2 m c2, .int .i64 t] w fun e w' => e = .returned (.bool true) ∧ Below w.heap.size w w' := by
  by_cases h : 500 < n ∨ 200 < m ∨ t < 0 ∨ 300 < t
  · exact fair_guard a n c a2 m c2 t w hnc hmc h
  · obtain ⟨k, rfl⟩ := Int.eq_ofNat_of_zero_le (a := t) (by omega)
    exact fair_walk a n c xs a2 m c2 ys k w hn hv htop hx hm hv2 hx2 (by omega) (by omega) (by omega)

end Go.Proofs.Ytoffodgjpeeenaa

import Derived.Test.YtdbbalcicgllhaaGreatDoorA25
namespace Go.Proofs.YtdbbalcicgllhaaGreatDoor
open Go.RowKit

set_option maxRecDepth 100000 in
set_option maxHeartbeats 1600000 in
theorem dig_nn : ∀ (m : Nat), m ≤ 9223372036854775807 → ∀ (w : World),
    Calls Tryz.prog 6 #[.int .i64 (m : Int)] w fun e w' => e = .returned (.string ⟨(Lib.decDigits m).toArray⟩) ∧ Upd (fun _ => False) w w' := by
  intro m
  induction m using Nat.strongRecOn with
  | _ m ih =>
    intro hm w
    have hneg : ¬ (m : Int) < 0 := by omega
    by_cases h10 : m < 10
    · rw [decDigits_small h10]
      have hc := cvm m h10
      clear ih
      go_enter Tryz.func6, Tryz.ntmps6
      go_wp2
      go_ret
      exact ⟨by simp, Upd.alloc _ w _⟩
    · rw [decDigits_big h10]
      have hq := ih (m / 10) (by omega) (by omega)
      rw [show ((m / 10 : Nat) : Int) = (m : Int) / 10 by omega] at hq
      have hw := wi64 ((m : Int) / 10) (by omega) (by omega)
      have h2 := cvm (m % 10) (by omega)
      have h3 := fun (W W' : World) => cvm_later (m % 10) (by omega) (W := W) (W' := W')
      have hD : 48 + ((m % 10 : Nat) : Int) = IntKind.u8.wrap (IntKind.i64.wrap (48 + (m : Int).tmod 10)) := by
        rw [Int.tmod_eq_emod_of_nonneg (by omega), wi64 _ (by omega) (by omega), IntKind.wrap_u8]
        omega
      rw [hD] at h2
      simp only [hD] at h3
      obtain ⟨L, hL⟩ : ∃ L : ByteArray, (⟨(Lib.decDigits (m / 10)).toArray⟩ : ByteArray) = L := ⟨_, rfl⟩
      have hLs : L.size ≤ 21 := by
        rw [← hL, size_eq]
        exact dec_len _ (by omega)
      have hL1 : ¬ 9223372036854775807 < L.size + 1 := by omega
      have hL2 : L.size + 1 ≤ 9223372036854775807 := by omega
      rw [hL] at hq
      have HQ := Lib.hid hq
      have hres : (L ++ (⟨#[48 + UInt8.ofNat (m % 10)]⟩ : ByteArray)) = ⟨(Lib.decDigits (m / 10) ++ [UInt8.ofNat (48 + m % 10)]).toArray⟩ := by
        rw [← ByteArray.mk_append_mk, hL]
        simp
      have HRES := Lib.hid hres
      clear hres
      have h4 := h3 w _ (Upd.drew (fun _ => False) (w.alloc (.cells #[.int .u8 (IntKind.u8.wrap (IntKind.i64.wrap (48 + (m : Int).tmod 10)))] 5)))
      clear ih
      go_enter Tryz.func6, Tryz.ntmps6
      go_wp2
      go_region_with (go_at_call 6; refine (HQ.out _).mono ?_; rintro e w1 ⟨rfl, hu⟩; first | have hcv : (convert 43 9 (.slice (some ⟨w.heap.size, 0, none⟩) 1 1)).run Tryz.prog w1 = .ok (.string ⟨#[UInt8.ofNat (48 + m % 10)]⟩) w1 := h3 w.drew w1 hu | skip)
      all_goals (go_wp2; go_ret; refine ⟨?_, ?_⟩)
      all_goals first
        | exact Eq.trans (b := Ending.returned (.string (L ++ (⟨#[48 + UInt8.ofNat (m % 10)]⟩ : ByteArray)))) rfl (congrArg (fun x => Ending.returned (.string x)) HRES.out)
        | exact ((Upd.drew (fun _ => False) w).trans hu (fun _ _ h => h)).trans (Upd.alloc _ w1 _) (fun _ _ h => h)
        | exact ((Upd.alloc (fun _ => False) w _).trans (Upd.drew (fun _ => False) _) (fun _ _ h => h)).trans hu (fun _ _ h => h)

set_option maxRecDepth 100000 in
set_option maxHeartbeats 1600000 in
theorem digits_any (z : Int) (h0 : -9223372036854775808 ≤ z) (h1 : z ≤ 9223372036854775807) (w : World) :
    Calls Tryz.prog 6 #[.int .i64 z] w fun e w' => e = .returned (.string ⟨(Lib.itoa z).toArray⟩) ∧ Upd (fun _ => False) w w' := by
  by_cases hz : z < 0
  · obtain ⟨L, hL⟩ : ∃ L : ByteArray, (⟨(Lib.decDigits z.natAbs).toArray⟩ : ByteArray) = L := ⟨_, rfl⟩
    have hc := under_any z.natAbs z (by omega) (by omega) w
    have hLs : L.size ≤ 21 := by
      rw [← hL, size_eq]
      exact dec_len _ (by omega)
    have hL1 : ¬ 9223372036854775807 < 1 + L.size := by omega
    have hL2 : 1 + L.size ≤ 9223372036854775807 := by omega
    have hL3 : ¬ 9223372036854775807 < L.size + 1 := by omega
    have hL4 : L.size + 1 ≤ 9223372036854775807 := by omega
    have hres : ((⟨#[45]⟩ : ByteArray) ++ L) = ⟨(Lib.itoa z).toArray⟩ := by
      unfold Lib.itoa
      rw [if_pos hz, ← hL]
      exact ByteArray.mk_append_mk [45] _
    rw [hL] at hc
    have HRES := Lib.hid hres
    have HC := Lib.hid hc
    clear hres hc
    go_enter Tryz.func6, Tryz.ntmps6
    go_wp2_with (go_at_call 12; refine HC.out.mono ?_; rintro e w1 ⟨rfl, hu⟩)
    go_ret
    refine ⟨?_, hu⟩
    exact Eq.trans (b := Ending.returned (.string ((⟨#[45]⟩ : ByteArray) ++ L))) rfl (congrArg (fun x => Ending.returned (.string x)) HRES.out)
  · have e : Lib.itoa z = Lib.decDigits z.toNat := by
      unfold Lib.itoa
      rw [if_neg hz]
    have h := dig_nn z.toNat (by omega) w
    rw [show ((z.toNat : Nat) : Int) = z by omega] at h
    rw [e]
    exact h
end Go.Proofs.YtdbbalcicgllhaaGreatDoor

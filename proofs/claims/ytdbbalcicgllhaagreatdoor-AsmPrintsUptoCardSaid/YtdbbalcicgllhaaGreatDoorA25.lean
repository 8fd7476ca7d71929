import Derived.Test.YtdbbalcicgllhaaGreatDoorA24
import Derived.Deep.RegionWith
import Derived.Lib.ItoaMem
import Derived.Lib.ItoaLen
import Derived.Laws.BitsLemmas
namespace Go.Proofs.YtdbbalcicgllhaaGreatDoor
open Go.RowKit

theorem decDigits_small {u : Nat} (h : u < 10) : Lib.decDigits u = [UInt8.ofNat (48 + u)] := by rw [Lib.decDigits, dif_pos h]
theorem decDigits_big {u : Nat} (h : ¬ u < 10) : Lib.decDigits u = Lib.decDigits (u / 10) ++ [UInt8.ofNat (48 + u % 10)] := by rw [Lib.decDigits, dif_neg h]

/-- A byte alone is a text. -/
theorem cvd (d : Nat) (hd : d < 256) (W : World) : (convert 43 9 (.slice (some ⟨W.heap.size, 0, none⟩) 1 1)).run Tryz.prog (W.alloc (.cells #[.int .u8 (d : Int)] 5)) = .ok (.string ⟨#[UInt8.ofNat d]⟩) (W.alloc (.cells #[.int .u8 (d : Int)] 5)) := by
  have h := cv43 (UInt8.ofNat d) W
  have e : ((UInt8.ofNat d).toNat : Int) = (d : Int) := by
    rw [UInt8.toNat_ofNat']
    omega
  rw [e] at h
  exact h
/-- The same, later. -/
theorem cvd_later (d : Nat) (hd : d < 256) {W W' : World} (hu : Upd (fun _ => False) (W.alloc (.cells #[.int .u8 (d : Int)] 5)) W') : (convert 43 9 (.slice (some ⟨W.heap.size, 0, none⟩) 1 1)).run Tryz.prog W' = .ok (.string ⟨#[UInt8.ofNat d]⟩) W' := by
  refine run_convert_bytes_back (P := Tryz.prog) W' 43 9 5 ⟨W.heap.size, 0, none⟩ 1 [UInt8.ofNat d] Tryz.underlying43 Tryz.underlying5 Tryz.underlying9 (by
    intro j hj
    have : j = 0 := by simp at hj; exact hj
    subst this
    have e : ((UInt8.ofNat d).toNat : Int) = (d : Int) := by
      rw [UInt8.toNat_ofNat']
      omega
    show W'.cell? ⟨W.heap.size, 0, none⟩ = some (.int .u8 ((UInt8.ofNat d).toNat : Int))
    rw [e]
    exact hu.cell (cell_new W _ 5) (fun h => h))

theorem wi64 (n : Int) (h0 : -9223372036854775808 ≤ n) (h1 : n ≤ 9223372036854775807) : IntKind.i64.wrap n = n := by rw [IntKind.wrap_i64]; omega
theorem cvm (m : Nat) (hm : m < 10) (W : World) : (convert 43 9 (.slice (some ⟨W.heap.size, 0, none⟩) 1 1)).run Tryz.prog (W.alloc (.cells #[.int .u8 (48 + (m : Int))] 5)) = .ok (.string ⟨#[UInt8.ofNat (48 + m)]⟩) (W.alloc (.cells #[.int .u8 (48 + (m : Int))] 5)) := by
  have h := cvd (48 + m) (by omega) W
  rw [show ((48 + m : Nat) : Int) = 48 + (m : Int) by omega] at h
  exact h
theorem cvm_later (m : Nat) (hm : m < 10) {W W' : World} (hu : Upd (fun _ => False) (W.alloc (.cells #[.int .u8 (48 + (m : Int))] 5)) W') : (convert 43 9 (.slice (some ⟨W.heap.size, 0, none⟩) 1 1)).run Tryz.prog W' = .ok (.string ⟨#[UInt8.ofNat (48 + m)]⟩) W' := by
  rw [show 48 + (m : Int) = ((48 + m : Nat) : Int) by omega] at hu
  exact cvd_later (48 + m) (by omega) hu

theorem dec_len (u : Nat) (h : u ≤ 9223372036854775808) : (Lib.decDigits u).length ≤ 21 := by
  have h1 := Lib.itoa_length_le (-(u : Int)) (by omega) (by omega)
  unfold Lib.itoa at h1
  split at h1
  · rw [List.length_cons] at h1
    have e : (-(u : Int)).natAbs = u := by omega
    rw [e] at h1
    omega
  · have e : u = 0 := by omega
    subst e
    rw [decDigits_small (by decide)]
    decide

set_option maxRecDepth 100000 in
set_option maxHeartbeats 1600000 in
theorem under_any : ∀ (m : Nat) (N : Int), N = -(m : Int) → m ≤ 9223372036854775808 → ∀ (w : World),
    Calls Tryz.prog 12 #[.int .i64 N] w fun e w' => e = .returned (.string ⟨(Lib.decDigits m).toArray⟩) ∧ Upd (fun _ => False) w w' := by
  intro m
  induction m using Nat.strongRecOn with
  | _ m ih =>
    intro N hN hm w
    subst hN
    by_cases h10 : m < 10
    · rw [decDigits_small h10]
      have hc := cvm m h10
      clear ih
      go_enter Tryz.func12, Tryz.ntmps12
      go_wp2
      go_ret
      exact ⟨by simp, Upd.alloc _ w _⟩
    · rw [decDigits_big h10]
      have hq := ih (m / 10) (by omega) (-((m / 10 : Nat) : Int)) rfl (by omega)
      rw [show ((m / 10 : Nat) : Int) = (m : Int) / 10 by omega] at hq
      have hw := wi64 (-((m : Int) / 10)) (by omega) (by omega)
      have h2 := cvm (m % 10) (by omega)
      have h3 := fun (W W' : World) => cvm_later (m % 10) (by omega) (W := W) (W' := W')
      have hD : 48 + ((m % 10 : Nat) : Int) = IntKind.u8.wrap (IntKind.i64.wrap (48 + (m : Int).tmod 10)) := by
        rw [Int.tmod_eq_emod_of_nonneg (by omega), wi64 _ (by omega) (by omega), IntKind.wrap_u8]
        omega
      rw [hD] at h2
      simp only [hD] at h3
      obtain ⟨L, hL⟩ : ∃ L : ByteArray, (⟨(Lib.decDigits (m / 10)).toArray⟩ : ByteArray) = L := ⟨_, rfl⟩
      have hLs : L.size ≤ 21 := by
        rw [← hL, size_eq]
        exact dec_len _ (by omega)
      have hL1 : ¬ 9223372036854775807 < L.size + 1 := by omega
      have hL2 : L.size + 1 ≤ 9223372036854775807 := by omega
      rw [hL] at hq
      have HQ := Lib.hid hq
      have hres : (L ++ (⟨#[48 + UInt8.ofNat (m % 10)]⟩ : ByteArray)) = ⟨(Lib.decDigits (m / 10) ++ [UInt8.ofNat (48 + m % 10)]).toArray⟩ := by
        rw [← ByteArray.mk_append_mk, hL]
        simp
      have HRES := Lib.hid hres
      clear hres
      have h4 := h3 w _ (Upd.drew (fun _ => False) (w.alloc (.cells #[.int .u8 (IntKind.u8.wrap (IntKind.i64.wrap (48 + (m : Int).tmod 10)))] 5)))
      clear ih
      go_enter Tryz.func12, Tryz.ntmps12
      go_wp2
      go_region_with (go_at_call 12; refine (HQ.out _).mono ?_; rintro e w1 ⟨rfl, hu⟩; first | have hcv : (convert 43 9 (.slice (some ⟨w.heap.size, 0, none⟩) 1 1)).run Tryz.prog w1 = .ok (.string ⟨#[UInt8.ofNat (48 + m % 10)]⟩) w1 := h3 w.drew w1 hu | skip)
      all_goals (go_wp2; go_ret; refine ⟨?_, ?_⟩)
      all_goals first
        | exact Eq.trans (b := Ending.returned (.string (L ++ (⟨#[48 + UInt8.ofNat (m % 10)]⟩ : ByteArray)))) rfl (congrArg (fun x => Ending.returned (.string x)) HRES.out)
        | exact ((Upd.drew (fun _ => False) w).trans hu (fun _ _ h => h)).trans (Upd.alloc _ w1 _) (fun _ _ h => h)
        | exact ((Upd.alloc (fun _ => False) w _).trans (Upd.drew (fun _ => False) _) (fun _ _ h => h)).trans hu (fun _ _ h => h)
end Go.Proofs.YtdbbalcicgllhaaGreatDoor

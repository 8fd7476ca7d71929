import Derived.Test.YtdbbalcicgllhaaGreatDoorA23
namespace Go.Proofs.YtdbbalcicgllhaaGreatDoor
open Go.RowKit

theorem lawTbl_at (k : Nat) (h1 : 1 ≤ k) (h2 : k ≤ 56) : lawTbl[k]? = some (tbl.getD k ([], [])) := by
  obtain ⟨j, rfl⟩ : ∃ j, k = j + 1 := ⟨k - 1, by omega⟩
  have h := tbl_at (j + 1) (by omega)
  rw [← h]
  unfold lawTbl
  rw [List.getElem?_cons_succ, List.getElem?_tail]
theorem lawT1_at (k : Nat) (h1 : 1 ≤ k) (h2 : k ≤ 56) : lawT1[k]? = some (.string ⟨(nameOf k).toArray⟩) := by
  have hN : nameOf (k : Int) = (tbl.getD k ([], [])).1 := by
    unfold nameOf entry
    rw [if_pos (by omega)]
    rfl
  unfold lawT1
  rw [List.getElem?_toArray, List.getElem?_map, lawTbl_at k h1 h2, hN]
  rfl

set_option maxRecDepth 100000 in
set_option maxHeartbeats 1600000 in
theorem asmNames_any (z : Int) (h0 : -9223372036854775808 ≤ z) (h1 : z ≤ 9223372036854775807) (w : World) (ht : Tab w) :
    Calls Tryz.prog 4 #[.int .i64 z] w fun e w' => e = .returned (.bool true) ∧ Upd (fun _ => False) w w' := by
  have hnot : ∀ (x : Bool) (w : World), (Op.unary .not (.bool x)).run Tryz.prog w = .ok (.bool (!x)) w := fun _ _ => rfl
  have hA := Lib.hid (anchor_any w ht)
  clear ht
  have hT : ∀ W : World, Calls Tryz.prog 10 #[] W fun e w' => e = .returned (.tuple #[.slice (some ⟨W.heap.size, 0, none⟩) 57 57, .slice (some ⟨W.heap.size + 1, 0, none⟩) 57 57]) ∧ Upd (fun _ => False) W w' ∧ w'.heap[W.heap.size]? = some (.cells lawT1 9 (0, 0)) := fun W => by
    refine (table_any W).mono ?_
    rintro e w' ⟨rfl, rfl⟩
    refine ⟨rfl, (Upd.alloc _ W _).trans (Upd.alloc _ _ _) (fun _ _ h => h), ?_⟩
    rw [Below.heap_alloc _ _ _ (by rw [World.size_alloc]; omega)]
    exact heap_alloc_new W _
  obtain ⟨X, hX⟩ : ∃ X : ByteArray, (⟨(nameOf z).toArray⟩ : ByteArray) = X := ⟨_, rfl⟩
  have hN : ∀ W, Calls Tryz.prog 11 #[.int .i64 z] W fun e w' => e = .returned (.string X) ∧ Upd (fun _ => False) W w' := fun W => by
    have h := Name_any z h0 h1 W
    rw [hX] at h
    exact h
  by_cases hz : 1 ≤ z ∧ z ≤ 56
  · obtain ⟨k, rfl⟩ : ∃ k : Nat, z = k := ⟨z.toNat, by omega⟩
    have hk1 : (1 : Int) ≤ k := by omega
    have hk2 : (k : Int) ≤ 56 := by omega
    have hk3 : k < 57 := by omega
    have hcell := lawT1_at k (by omega) (by omega)
    rw [hX] at hcell
    have HC := Lib.hid hcell
    clear hcell hX hz
    go_enter Tryz.func4, Tryz.ntmps4
    go_wp2_with (first | (go_at_call 5; refine hA.out.mono ?_; rintro e w1 ⟨rfl, hu1⟩; have HU1 := Lib.hid hu1; clear hu1) | (go_at_call 10; refine (hT _).mono ?_; rintro e w2 ⟨rfl, hu2, hc2⟩; have HU2 := Lib.hid hu2; have q := (show w2.cell? ⟨w1.heap.size, k, none⟩ = some (.string X) by (simp [World.cell?, hc2, HC.out])); clear hu2 hc2) | (go_at_call 11; with_reducible refine (hN _).mono ?_; rintro e w3 ⟨rfl, hu3⟩; have HU3 := Lib.hid hu3; clear hu3))
    go_ret
    refine ⟨by simp, (HU1.out.trans HU2.out (fun _ _ h => h)).trans HU3.out (fun _ _ h => h)⟩
  · have hX0 : X = ⟨#[63]⟩ := by
      rw [← hX]
      unfold nameOf entry
      rw [if_neg hz]
    subst hX0
    clear hX
    by_cases hz1 : 1 ≤ z
    · have hz2 : ¬ z ≤ 56 := by omega
      clear hz
      go_enter Tryz.func4, Tryz.ntmps4
      go_wp2_with (first | (go_at_call 5; refine hA.out.mono ?_; rintro e w1 ⟨rfl, hu1⟩; have HU1 := Lib.hid hu1; clear hu1) | (go_at_call 10; refine (hT _).mono ?_; rintro e w2 ⟨rfl, hu2, hc2⟩; have HU2 := Lib.hid hu2; clear hu2 hc2) | (go_at_call 11; with_reducible refine (hN _).mono ?_; rintro e w3 ⟨rfl, hu3⟩; have HU3 := Lib.hid hu3; clear hu3))
      go_ret
      refine ⟨by simp, (HU1.out.trans HU2.out (fun _ _ h => h)).trans HU3.out (fun _ _ h => h)⟩
    · clear hz
      go_enter Tryz.func4, Tryz.ntmps4
      go_wp2_with (first | (go_at_call 5; refine hA.out.mono ?_; rintro e w1 ⟨rfl, hu1⟩; have HU1 := Lib.hid hu1; clear hu1) | (go_at_call 10; refine (hT _).mono ?_; rintro e w2 ⟨rfl, hu2, hc2⟩; have HU2 := Lib.hid hu2; clear hu2 hc2) | (go_at_call 11; with_reducible refine (hN _).mono ?_; rintro e w3 ⟨rfl, hu3⟩; have HU3 := Lib.hid hu3; clear hu3))
      go_ret
      refine ⟨by simp, (HU1.out.trans HU2.out (fun _ _ h => h)).trans HU3.out (fun _ _ h => h)⟩
end Go.Proofs.YtdbbalcicgllhaaGreatDoor

import Derived.Test.YtdbbalcicgllhaaGreatDoorA3
namespace Go.Proofs.YtdbbalcicgllhaaGreatDoor
open Go.RowKit

theorem take_flat (xs : List Bytes) (j : Nat) (h : j < xs.length) : (xs.take (j + 1)).flatten = (xs.take j).flatten ++ xs[j] := by
  rw [List.take_succ_eq_append_getElem h, List.flatten_append]
  simp
theorem size_eq (x : Bytes) : (⟨x.toArray⟩ : ByteArray).size = x.length := by simp [ByteArray.size]
theorem take_flat_le (xs : List Bytes) (j : Nat) : (xs.take j).flatten.length ≤ xs.flatten.length := by
  have h : xs.flatten = (xs.take j).flatten ++ (xs.drop j).flatten := by rw [← List.flatten_append, List.take_append_drop]
  rw [h, List.length_append]
  omega

/-- The row of what is said: in a block that is no row of bytes. -/
structure Row (t : TypeId) (g : Nat) (vs : List Value) (w : World) : Prop where
  at_ : w.heap[g]? = some (.cells vs.toArray t (0, 0))
  ne : t ≠ 5

set_option maxRecDepth 100000 in
set_option maxHeartbeats 1600000 in
theorem say_p (b g : Nat) (d : Value) (xs : List Bytes) (w : World) (out : Bytes) (h : Bd 67 [d] b w out) (hr : w.heap[g]? = some (.cells (xs.map fun x => Value.string ⟨x.toArray⟩).toArray 9 (0, 0))) (hgb : g ≠ b) (c : Nat) (hfew : out.length + xs.flatten.length ≤ 1000000000) (hl : xs.length ≤ 1000000000) :
    Calls Tryz.prog 23 #[.pointer (some ⟨b, 0, none⟩), .slice (some ⟨g, 0, none⟩) xs.length c] w fun e w' => e = .returned (.tuple #[]) ∧ Bd 67 [d] b w' (out ++ xs.flatten) ∧ WStep b w w' := by
  have hn := h.not_ws hr (by decide) hgb
  obtain ⟨L, hL⟩ : ∃ L, xs.length = L := ⟨_, rfl⟩
  have HL := Lib.hid hL
  have HR := Lib.hid hr
  have HN := Lib.hid hn
  have HB := Lib.hid h
  rw [hL] at hl ⊢
  have HF := Lib.hid hfew
  clear hL hr hn h hfew
  go_enter Tryz.func23, Tryz.ntmps23
  go_wp2
  go_loopw [8] (fun i wr => ∃ j : Nat, i = .int .i64 j ∧ j ≤ L ∧ Bd 67 [d] b wr (out ++ (xs.take j).flatten) ∧ WStep b w wr) (fun i _ => L - (intOf i).toNat)
  case atStart => exact ⟨0, rfl, Nat.zero_le _, by simpa using HB.out, WStep.refl _ _⟩
  case round =>
    obtain ⟨j, rfl, hj, hbd, hst⟩ := hrel
    have HBD := Lib.hid hbd
    have HST := Lib.hid hst
    by_cases hlt : j < L
    · have hlt2 : j < xs.length := by rw [HL.out]; exact hlt
      obtain ⟨x, hx⟩ : ∃ x, xs[j] = x := ⟨_, rfl⟩
      have hcell : wr.cell? ⟨g, j, none⟩ = some (.string ⟨x.toArray⟩) := by
        simp [World.cell?, (hst.at_ HR.out HN.out).1, List.getElem?_eq_getElem hlt2, hx]
      have hle := take_flat_le xs (j + 1)
      have htf := take_flat xs j hlt2
      rw [hx] at htf
      rw [htf, List.length_append] at hle
      have HTF := Lib.hid htf
      have hc := ws_any (ex := [d]) head67 (by decide) ⟨x.toArray⟩ HBD.out (by have := HF.out; simp only [List.length_append, size_eq]; omega)
      clear hbd hst htf hle hx hlt2
      go_wp2_with (with_reducible refine hc.mono ?_; rintro e w2 ⟨rfl, hb2, hs2⟩; have HB2 := Lib.hid hb2; have HS2 := Lib.hid hs2; clear hb2 hs2)
      go_roundw
      case rel => exact ⟨j + 1, by go_num, by omega, by rw [HTF.out, ← List.append_assoc]; exact HB2.out, HST.out.trans HS2.out⟩
      case measure => simp [intOf]; omega
    · have hj2 : j = L := by omega
      have hall : xs.take j = xs := by rw [hj2, ← HL.out]; exact List.take_length
      rw [hall] at hbd
      have HALL := Lib.hid hbd
      clear hbd hst hall HBD
      go_wp2_with fail
      go_end0
      exact ⟨rfl, HALL.out, HST.out⟩
end Go.Proofs.YtdbbalcicgllhaaGreatDoor

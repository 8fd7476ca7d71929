import Derived.Test.YtdbbalcicgllhaaGreatDoorA4
import Derived.Deep.RegionHeld3
import Derived.Deep.DrawnRows
import Derived.Deep.CutRange
import Derived.Stop.Asserts
namespace Go.Proofs.YtdbbalcicgllhaaGreatDoor
open Go.RowKit

/-- What is said: a text, or a number. -/
inductive Part where
  | s (x : Bytes)
  | n (z : Int)
def Part.v : Part → Value
  | .s x => .iface 9 (.string ⟨x.toArray⟩)
  | .n z => .iface 3 (.int .i64 z)
def Part.t : Part → Bytes
  | .s x => x
  | .n z => Lib.itoa z
def Part.ok : Part → Prop
  | .s _ => True
  | .n z => -9223372036854775808 ≤ z ∧ z ≤ 9223372036854775807
def ptxt (l : List Part) : Bytes := (l.map Part.t).flatten

theorem ta99 (v : Value) (w : World) : (Instr.typeAssert (.iface 9 v) 20 9 true).run Tryz.prog w = .ok (.tuple #[v, .bool true]) w := by kernel_rfl
theorem ta39 (v : Value) (w : World) : (Instr.typeAssert (.iface 3 v) 20 9 true).run Tryz.prog w = .ok (.tuple #[.string ⟨#[]⟩, .bool false]) w := by kernel_rfl
theorem ta33 (v : Value) (w : World) : (Instr.typeAssert (.iface 3 v) 20 3 true).run Tryz.prog w = .ok (.tuple #[v, .bool true]) w := by kernel_rfl
theorem Tab.ws {b : Nat} {w w' : World} (h : Tab w) (hs : WStep b w w') (hn : ¬ WS b w 0) : Tab w' := h.upd hs.up hn

set_option maxRecDepth 100000 in
set_option maxHeartbeats 1600000 in
theorem say_a (b g : Nat) (xs : List Part) (w : World) (out : Bytes) (h : Bd 49 [] b w out) (hr : w.heap[g]? = some (.cells (xs.map Part.v).toArray 20 (0, 0))) (hgb : g ≠ b) (ht : Tab w) (h0b : ¬ WS b w 0) (c : Nat) (hfew : out.length + (ptxt xs).length ≤ 1000000000) (hl : xs.length ≤ 1000000000) (hok : ∀ x ∈ xs, x.ok) :
    Calls Tryz.prog 14 #[.pointer (some ⟨b, 0, none⟩), .slice (some ⟨g, 0, none⟩) xs.length c] w fun e w' => e = .returned (.tuple #[]) ∧ Bd 49 [] b w' (out ++ ptxt xs) ∧ WStep b w w' := by
  have hn := h.not_ws hr (by decide) hgb
  obtain ⟨L, hL⟩ : ∃ L, xs.length = L := ⟨_, rfl⟩
  have HL := Lib.hid hL
  have HR := Lib.hid hr
  have HN := Lib.hid hn
  have HB := Lib.hid h
  have HT := Lib.hid ht
  have H0 := Lib.hid h0b
  have HOK := Lib.hid hok
  rw [hL] at hl ⊢
  have HF := Lib.hid hfew
  clear hL hr hn h hfew ht h0b hok
  go_enter Tryz.func14, Tryz.ntmps14
  go_wp2
  go_loopw [10] (fun i wr => ∃ j : Nat, i = .int .i64 j ∧ j ≤ L ∧ Bd 49 [] b wr (out ++ ptxt (xs.take j)) ∧ WStep b w wr) (fun i _ => L - (intOf i).toNat)
  case atStart => exact ⟨0, rfl, Nat.zero_le _, by simpa [ptxt] using HB.out, WStep.refl _ _⟩
  case round =>
    obtain ⟨j, rfl, hj, hbd, hst⟩ := hrel
    have HBD := Lib.hid hbd
    have HST := Lib.hid hst
    by_cases hlt : j < L
    · have hlt2 : j < xs.length := by rw [HL.out]; exact hlt
      obtain ⟨x, hx⟩ : ∃ x, xs[j] = x := ⟨_, rfl⟩
      have hcell : wr.cell? ⟨g, j, none⟩ = some x.v := by
        simp [World.cell?, (hst.at_ HR.out HN.out).1, List.getElem?_eq_getElem hlt2, hx]
      have hle := take_flat_le (xs.map Part.t) (j + 1)
      have htf := take_flat (xs.map Part.t) j (by simpa using hlt2)
      rw [List.getElem_map, hx, ← List.map_take, ← List.map_take] at htf
      rw [← List.map_take, htf, List.length_append] at hle
      have HTF := Lib.hid htf
      have hxo := HOK.out x (hx ▸ List.getElem_mem hlt2)
      have HTW := Lib.hid (HT.out.ws hst H0.out)
      have hlen : (out ++ ptxt (xs.take j)).length + x.t.length ≤ 1000000000 := by
        have := HF.out
        unfold ptxt at this ⊢
        rw [List.length_append]
        omega
      have HLEN := Lib.hid hlen
      clear hbd hst htf hle hx hlt2 hlen
      cases x with
      | s x =>
        simp only [Part.v] at hcell
        have a99 := ta99
        have hc := ws_any (ex := []) head49 (by decide) ⟨x.toArray⟩ HBD.out (by have := HLEN.out; rw [size_eq]; exact this)
        go_wp2_with (with_reducible refine hc.mono ?_; rintro e w2 ⟨rfl, hb2, hs2⟩; have HB2 := Lib.hid hb2; have HS2 := Lib.hid hs2; clear hb2 hs2)
        go_roundw
        case rel => exact ⟨j + 1, by go_num, by omega, by unfold ptxt at HB2 ⊢; rw [HTF.out, ← List.append_assoc]; exact HB2.out, HST.out.trans HS2.out⟩
        case measure => simp [intOf]; omega
      | n x =>
        simp only [Part.v] at hcell
        have a39 := ta39
        have a33 := ta33
        go_wp2
        have hlen : (out ++ ptxt (xs.take j)).length + (⟨(Lib.itoa x).toArray⟩ : ByteArray).size ≤ 1000000000 := by have := HLEN.out; rw [size_eq]; exact this
        have HLE := Lib.hid hlen
        have HXO := Lib.hid hxo
        clear hlen hxo
        go_region_held3 (fun _ => True) (go_keep)
          ((first | (go_at_call 19; refine (itoa_any x HXO.out.1 HXO.out.2 _ (by first | exact HTW.out | exact HTW.out.upd (Upd.drew (fun _ => False) _) (fun h => h))).mono ?_; rintro e w1 ⟨rfl, hu1⟩; have hb1 := (HBD.out.new (Upd.drew (fun _ => False) wr)).new hu1; have hs1 := WStep.new HBD.out.lt ((Upd.drew (fun _ => False) wr).trans hu1 (fun _ _ h => h))) | (go_at_call 18; refine (ws_any (ex := []) head49 (by decide) ⟨(Lib.itoa x).toArray⟩ hb1 HLE.out).mono ?_; rintro e w2 ⟨rfl, hb2, hs2⟩)))
        all_goals (go_wp2_with fail; go_roundw)
        case rel => exact ⟨j + 1, by go_num, by omega, by unfold ptxt at hb2 ⊢; rw [HTF.out, ← List.append_assoc]; exact hb2, (HST.out.trans hs1).trans hs2⟩
        case measure => simp [intOf]; omega
    · have hj2 : j = L := by omega
      have hall : xs.take j = xs := by rw [hj2, ← HL.out]; exact List.take_length
      rw [hall] at hbd
      have HALL := Lib.hid hbd
      clear hbd hst hall HBD
      go_wp2_with fail
      go_end0
      exact ⟨rfl, HALL.out, HST.out⟩
end Go.Proofs.YtdbbalcicgllhaaGreatDoor

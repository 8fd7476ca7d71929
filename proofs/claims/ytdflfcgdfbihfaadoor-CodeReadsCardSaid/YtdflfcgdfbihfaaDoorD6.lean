import Derived.Test.YtdflfcgdfbihfaaDoorD5
namespace Go.Proofs.YtdflfcgdfbihfaaDoor
open Go.RowKit CodeText

set_option maxRecDepth 100000 in
set_option maxHeartbeats 1600000 in
theorem each_ins (B Q : Nat) (l : List Ins) (a : Option Addr) (c : Nat) (S : Nat → Prop) (out : Bytes) (w : World) (h : Wr B Q w out) (hl : l.length ≤ 900000) (hfew : out.length + (weach wins l).length ≤ 900000) (hQB : Q < B)
    (hV : ∀ x ∈ l, (VIns x ∧ x.list.length ≤ 900000)) (hrow : RowV DIns 6 w S (.slice a l.length c) l) (hS : ∀ k, S k → k ≠ Q ∧ k < B) (C : Nat) (hC : w.cell? ⟨C, 0, none⟩ = some (.pointer (some ⟨Q, 0, none⟩))) (hCQ : C ≠ Q) (hCB : C < B) :
    Calls Tryd.prog 31 #[.pointer (some ⟨Q, 0, none⟩), .slice a l.length c, .func (.func 32) #[] #[.pointer (some ⟨C, 0, none⟩)]] w fun e w' => e = .returned (.tuple #[]) ∧ Upd (QS B Q) w w' ∧ Wr B Q w' (out ++ weach wins l) := by
  have hW : Hid (weach wins l = wnum l.length ++ (l.map wins).flatten) := rfl
  have c0 := wnum_any B Q l.length (fits_len (by omega)) out w h (by rw [hW.out, List.length_append] at hfew; omega) hQB
  rw [hW.out, List.length_append] at hfew
  have hfl := Lib.hid (flat_le wins l)
  have HROW := Lib.hid hrow
  have HVV := Lib.hid hV
  obtain ⟨L, hL⟩ : ∃ L, l.length = L := ⟨_, rfl⟩
  have HL := Lib.hid hL
  rw [hL] at hl hfew c0 ⊢
  rw [hL] at HROW
  have HFW := Lib.hid hfew
  clear h hL hfew hrow hV
  go_enter Tryd.func31, Tryd.ntmps31
  go_wp2_with (with_reducible refine c0.mono ?_; rintro e w1 ⟨rfl, hu, hwr, hkp⟩; have HU1 := Lib.hid hu; have HW1 := Lib.hid hwr; clear hu hwr hkp)
  go_loopw [14] (fun i wr => ∃ j : Nat, i = .int .i64 j ∧ j ≤ L ∧ Upd (QS B Q) w wr ∧ Wr B Q wr (out ++ wnum L ++ ((l.take j).map wins).flatten)) (fun i _ => L - (intOf i).toNat)
  case atStart => exact ⟨0, rfl, Nat.zero_le _, HU1.out, by simpa using HW1.out⟩
  case round =>
    obtain ⟨j, rfl, hj, hup, hwr⟩ := hrel
    have HUP := Lib.hid hup
    have HWR := Lib.hid hwr
    by_cases hlt : j < L
    · have hlt2 : j < l.length := by rw [HL.out]; exact hlt
      have hrw := RowV.dest (HROW.out.upd stIns hup (fun k hk _ hq => by have := hS k hk; unfold QS at hq; omega)) j hlt2
      obtain ⟨g, vs, rfl, hvl, hvc, hD⟩ := hrw
      have hst := flat_step wins l j hlt2
      have hle := hfl.out (j + 1)
      have hF := HFW.out
      have hVx := HVV.out l[j] (List.getElem_mem hlt2)
      obtain ⟨x, hx⟩ : ∃ x, l[j]'hlt2 = x := ⟨_, rfl⟩
      rw [hx] at hD hst hVx
      rw [hst, List.length_append] at hle
      have HST := Lib.hid hst
      obtain ⟨OD, hOD⟩ : ∃ y, out ++ wnum L ++ ((l.take j).map wins).flatten = y := ⟨_, rfl⟩
      have hol : OD.length + (wins x).length ≤ 900000 := by rw [← hOD, List.length_append, List.length_append]; omega
      rw [hOD] at HWR
      have HOD := Lib.hid hOD
      have hCw := hup.cell hC (fun hq => by unfold QS at hq; simp only at hq; omega)
      obtain ⟨la, lc, rfl, hrx⟩ := hD.dest; have h0 := hvc 0 _ rfl; have h1 := hvc 1 _ rfl; have h2 := hvc 2 _ rfl; have h3 := hvc 3 _ rfl; have h4 := hvc 4 _ rfl; have h5 := hvc 5 _ rfl; rw [Nat.add_zero] at h0; have hc := wins_any B Q C x la lc S OD (wr.alloc (.cells #[.int .i64 x.op, .int .i64 x.a, .int .i64 x.b, .int .i64 x.c, .int .i64 x.d, .slice la x.list.length lc] 54 (0, 0))) (HWR.out.upd (Upd.alloc (fun _ => False) wr _) (fun h => h) (fun _ _ _ h => h)) hVx.2 hol hQB hVx.1 (hrx.upd stInt (Upd.alloc (fun _ => False) wr _) (fun _ _ _ h => h)) hS (keep_cell hCw _) hCQ hCB; clear hrx
      clear hup hwr hst hx hOD hle hF hvl hvc hlt2
      go_wp2_with (with_reducible refine hc.mono ?_; rintro e w2 ⟨rfl, hu, hwr⟩; have HE := Lib.hid ((Upd.alloc (QS B Q) wr _).trans hu (fun _ _ h => h)); have HE2 := Lib.hid hwr; clear hu hwr)
      go_roundw
      case rel => exact ⟨j + 1, by go_num, by omega, HUP.out.trans HE.out (fun _ _ h => h), by rw [HST.out, ← List.append_assoc, HOD.out]; exact HE2.out⟩
      case measure => simp [intOf]; omega
    · have hj2 : j = L := by omega
      have hall : l.take j = l := by rw [hj2, ← HL.out]; exact List.take_length
      have HALL := Lib.hid hall
      clear hup hwr hall
      go_wp2_with fail
      go_end0
      exact ⟨rfl, HUP.out, by rw [hW.out, ← List.append_assoc, HL.out]; have := HWR.out; rw [HALL.out] at this; exact this⟩

end Go.Proofs.YtdflfcgdfbihfaaDoor

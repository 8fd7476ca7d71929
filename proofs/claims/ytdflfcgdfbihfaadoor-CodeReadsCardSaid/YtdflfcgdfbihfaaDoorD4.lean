import Derived.Test.YtdflfcgdfbihfaaDoorD3
namespace Go.Proofs.YtdflfcgdfbihfaaDoor
open Go.RowKit CodeText

theorem RowV.dest {α : Type} {D : DT α} {sz : Nat} {w : World} {S : Nat → Prop} {a : Option Addr} {n c : Nat} {l : List α} (h : RowV D sz w S (.slice a n c) l) (j : Nat) (hj : j < l.length) :
    ∃ g vs, a = some ⟨g, 0, none⟩ ∧ vs.length = sz ∧ (∀ i u, vs[i]? = some u → w.cell? ⟨g, j * sz + i, none⟩ = some u) ∧ D w S vs l[j] := by
  obtain ⟨a', c', hv, hne⟩ := h
  injection hv with hv _ _
  obtain ⟨g, _, _, hg, hc⟩ := hne (by intro h0; rw [h0] at hj; simp at hj)
  obtain ⟨vs, h1, h2, h3⟩ := hc j hj
  exact ⟨g, vs, by rw [hv]; exact hg, h1, h2, h3⟩
theorem DInt.dest {w : World} {S : Nat → Prop} {vs : List Value} {x : Int} (h : DInt w S vs x) : vs = [.int .i64 x] := h
theorem DStr.dest {w : World} {S : Nat → Prop} {vs : List Value} {x : Bytes} (h : DStr w S vs x) : vs = [.string ⟨x.toArray⟩] := h
theorem DFlags.dest {w : World} {S : Nat → Prop} {vs : List Value} {x : List Bool} (h : DFlags w S vs x) : ∃ la lc, vs = [.slice la x.length lc] ∧ RowV DBool 1 w S (.slice la x.length lc) x := by
  obtain ⟨v, rfl, ⟨la, lc, rfl, h1⟩⟩ := h
  exact ⟨la, lc, rfl, ⟨la, lc, rfl, h1⟩⟩

set_option maxRecDepth 100000 in
set_option maxHeartbeats 1600000 in
theorem each_int (B Q : Nat) (l : List Int) (a : Option Addr) (c : Nat) (S : Nat → Prop) (out : Bytes) (w : World) (h : Wr B Q w out) (hl : l.length ≤ 900000) (hfew : out.length + (weach wnum l).length ≤ 900000) (hQB : Q < B)
    (hV : ∀ x ∈ l, Fits x) (hrow : RowV DInt 1 w S (.slice a l.length c) l) (hS : ∀ k, S k → k ≠ Q ∧ k < B) :
    Calls Tryd.prog 33 #[.pointer (some ⟨Q, 0, none⟩), .slice a l.length c, .func (.func 30) #[.pointer (some ⟨Q, 0, none⟩)] #[]] w fun e w' => e = .returned (.tuple #[]) ∧ Upd (QS B Q) w w' ∧ Wr B Q w' (out ++ weach wnum l) := by
  have hW : Hid (weach wnum l = wnum l.length ++ (l.map wnum).flatten) := rfl
  have c0 := wnum_any B Q l.length (fits_len (by omega)) out w h (by rw [hW.out, List.length_append] at hfew; omega) hQB
  rw [hW.out, List.length_append] at hfew
  have hfl := Lib.hid (flat_le wnum l)
  have HROW := Lib.hid hrow
  have HVV := Lib.hid hV
  obtain ⟨L, hL⟩ : ∃ L, l.length = L := ⟨_, rfl⟩
  have HL := Lib.hid hL
  rw [hL] at hl hfew c0 ⊢
  rw [hL] at HROW
  have HFW := Lib.hid hfew
  clear h hL hfew hrow hV
  go_enter Tryd.func33, Tryd.ntmps33
  go_wp2_with (with_reducible refine c0.mono ?_; rintro e w1 ⟨rfl, hu, hwr, hkp⟩; have HU1 := Lib.hid hu; have HW1 := Lib.hid hwr; clear hu hwr hkp)
  go_loopw [14] (fun i wr => ∃ j : Nat, i = .int .i64 j ∧ j ≤ L ∧ Upd (QS B Q) w wr ∧ Wr B Q wr (out ++ wnum L ++ ((l.take j).map wnum).flatten)) (fun i _ => L - (intOf i).toNat)
  case atStart => exact ⟨0, rfl, Nat.zero_le _, HU1.out, by simpa using HW1.out⟩
  case round =>
    obtain ⟨j, rfl, hj, hup, hwr⟩ := hrel
    have HUP := Lib.hid hup
    have HWR := Lib.hid hwr
    by_cases hlt : j < L
    · have hlt2 : j < l.length := by rw [HL.out]; exact hlt
      have hrw := RowV.dest (HROW.out.upd stInt hup (fun k hk _ hq => by have := hS k hk; unfold QS at hq; omega)) j hlt2
      obtain ⟨g, vs, rfl, hvl, hvc, hD⟩ := hrw
      have hst := flat_step wnum l j hlt2
      have hle := hfl.out (j + 1)
      have hF := HFW.out
      have hVx := HVV.out l[j] (List.getElem_mem hlt2)
      obtain ⟨x, hx⟩ : ∃ x, l[j]'hlt2 = x := ⟨_, rfl⟩
      rw [hx] at hD hst hVx
      rw [hst, List.length_append] at hle
      have HST := Lib.hid hst
      obtain ⟨OD, hOD⟩ : ∃ y, out ++ wnum L ++ ((l.take j).map wnum).flatten = y := ⟨_, rfl⟩
      have hol : OD.length + (wnum x).length ≤ 900000 := by rw [← hOD, List.length_append, List.length_append]; omega
      rw [hOD] at HWR
      have HOD := Lib.hid hOD
      skip
      obtain rfl := hD.dest; have hcx := hvc 0 _ rfl; rw [Nat.mul_one, Nat.add_zero] at hcx; have hc := wnum_any B Q x hVx OD wr HWR.out (by omega) hQB
      clear hup hwr hst hx hOD hle hF hvl hvc hlt2
      go_wp2_with (with_reducible refine hc.mono ?_; rintro e w2 ⟨rfl, hu, hwr, _⟩; have HE := Lib.hid hu; have HE2 := Lib.hid hwr; clear hu hwr)
      go_roundw
      case rel => exact ⟨j + 1, by go_num, by omega, HUP.out.trans HE.out (fun _ _ h => h), by rw [HST.out, ← List.append_assoc, HOD.out]; exact HE2.out⟩
      case measure => simp [intOf]; omega
    · have hj2 : j = L := by omega
      have hall : l.take j = l := by rw [hj2, ← HL.out]; exact List.take_length
      have HALL := Lib.hid hall
      clear hup hwr hall
      go_wp2_with fail
      go_end0
      exact ⟨rfl, HUP.out, by rw [hW.out, ← List.append_assoc, HL.out]; have := HWR.out; rw [HALL.out] at this; exact this⟩

set_option maxRecDepth 100000 in
set_option maxHeartbeats 1600000 in
theorem each_text (B Q : Nat) (l : List Bytes) (a : Option Addr) (c : Nat) (S : Nat → Prop) (out : Bytes) (w : World) (h : Wr B Q w out) (hl : l.length ≤ 900000) (hfew : out.length + (weach wtext l).length ≤ 900000) (hQB : Q < B)
    (hV : ∀ x ∈ l, x.length < 9223372036854775808) (hrow : RowV DStr 1 w S (.slice a l.length c) l) (hS : ∀ k, S k → k ≠ Q ∧ k < B) :
    Calls Tryd.prog 24 #[.pointer (some ⟨Q, 0, none⟩), .slice a l.length c, .func (.func 25) #[.pointer (some ⟨Q, 0, none⟩)] #[]] w fun e w' => e = .returned (.tuple #[]) ∧ Upd (QS B Q) w w' ∧ Wr B Q w' (out ++ weach wtext l) := by
  have hW : Hid (weach wtext l = wnum l.length ++ (l.map wtext).flatten) := rfl
  have c0 := wnum_any B Q l.length (fits_len (by omega)) out w h (by rw [hW.out, List.length_append] at hfew; omega) hQB
  rw [hW.out, List.length_append] at hfew
  have hfl := Lib.hid (flat_le wtext l)
  have HROW := Lib.hid hrow
  have HVV := Lib.hid hV
  obtain ⟨L, hL⟩ : ∃ L, l.length = L := ⟨_, rfl⟩
  have HL := Lib.hid hL
  rw [hL] at hl hfew c0 ⊢
  rw [hL] at HROW
  have HFW := Lib.hid hfew
  clear h hL hfew hrow hV
  go_enter Tryd.func24, Tryd.ntmps24
  go_wp2_with (with_reducible refine c0.mono ?_; rintro e w1 ⟨rfl, hu, hwr, hkp⟩; have HU1 := Lib.hid hu; have HW1 := Lib.hid hwr; clear hu hwr hkp)
  go_loopw [14] (fun i wr => ∃ j : Nat, i = .int .i64 j ∧ j ≤ L ∧ Upd (QS B Q) w wr ∧ Wr B Q wr (out ++ wnum L ++ ((l.take j).map wtext).flatten)) (fun i _ => L - (intOf i).toNat)
  case atStart => exact ⟨0, rfl, Nat.zero_le _, HU1.out, by simpa using HW1.out⟩
  case round =>
    obtain ⟨j, rfl, hj, hup, hwr⟩ := hrel
    have HUP := Lib.hid hup
    have HWR := Lib.hid hwr
    by_cases hlt : j < L
    · have hlt2 : j < l.length := by rw [HL.out]; exact hlt
      have hrw := RowV.dest (HROW.out.upd stStr hup (fun k hk _ hq => by have := hS k hk; unfold QS at hq; omega)) j hlt2
      obtain ⟨g, vs, rfl, hvl, hvc, hD⟩ := hrw
      have hst := flat_step wtext l j hlt2
      have hle := hfl.out (j + 1)
      have hF := HFW.out
      have hVx := HVV.out l[j] (List.getElem_mem hlt2)
      obtain ⟨x, hx⟩ : ∃ x, l[j]'hlt2 = x := ⟨_, rfl⟩
      rw [hx] at hD hst hVx
      rw [hst, List.length_append] at hle
      have HST := Lib.hid hst
      obtain ⟨OD, hOD⟩ : ∃ y, out ++ wnum L ++ ((l.take j).map wtext).flatten = y := ⟨_, rfl⟩
      have hol : OD.length + (wtext x).length ≤ 900000 := by rw [← hOD, List.length_append, List.length_append]; omega
      rw [hOD] at HWR
      have HOD := Lib.hid hOD
      skip
      obtain rfl := hD.dest; have hcx := hvc 0 _ rfl; rw [Nat.mul_one, Nat.add_zero] at hcx; have hc := wtext_any B Q ⟨x.toArray⟩ OD wr HWR.out hol hQB
      clear hup hwr hst hx hOD hle hF hvl hvc hlt2
      go_wp2_with (with_reducible refine hc.mono ?_; rintro e w2 ⟨rfl, hu, hwr, _⟩; have HE := Lib.hid hu; have HE2 := Lib.hid hwr; clear hu hwr)
      go_roundw
      case rel => exact ⟨j + 1, by go_num, by omega, HUP.out.trans HE.out (fun _ _ h => h), by rw [HST.out, ← List.append_assoc, HOD.out]; exact HE2.out⟩
      case measure => simp [intOf]; omega
    · have hj2 : j = L := by omega
      have hall : l.take j = l := by rw [hj2, ← HL.out]; exact List.take_length
      have HALL := Lib.hid hall
      clear hup hwr hall
      go_wp2_with fail
      go_end0
      exact ⟨rfl, HUP.out, by rw [hW.out, ← List.append_assoc, HL.out]; have := HWR.out; rw [HALL.out] at this; exact this⟩

set_option maxRecDepth 100000 in
set_option maxHeartbeats 1600000 in
theorem each_flags (B Q : Nat) (l : List (List Bool)) (a : Option Addr) (c : Nat) (S : Nat → Prop) (out : Bytes) (w : World) (h : Wr B Q w out) (hl : l.length ≤ 900000) (hfew : out.length + (weach wflags l).length ≤ 900000) (hQB : Q < B)
    (hV : ∀ x ∈ l, x.length ≤ 900000) (hrow : RowV DFlags 1 w S (.slice a l.length c) l) (hS : ∀ k, S k → k ≠ Q ∧ k < B) :
    Calls Tryd.prog 27 #[.pointer (some ⟨Q, 0, none⟩), .slice a l.length c, .func (.func 26) #[.pointer (some ⟨Q, 0, none⟩)] #[]] w fun e w' => e = .returned (.tuple #[]) ∧ Upd (QS B Q) w w' ∧ Wr B Q w' (out ++ weach wflags l) := by
  have hW : Hid (weach wflags l = wnum l.length ++ (l.map wflags).flatten) := rfl
  have c0 := wnum_any B Q l.length (fits_len (by omega)) out w h (by rw [hW.out, List.length_append] at hfew; omega) hQB
  rw [hW.out, List.length_append] at hfew
  have hfl := Lib.hid (flat_le wflags l)
  have HROW := Lib.hid hrow
  have HVV := Lib.hid hV
  obtain ⟨L, hL⟩ : ∃ L, l.length = L := ⟨_, rfl⟩
  have HL := Lib.hid hL
  rw [hL] at hl hfew c0 ⊢
  rw [hL] at HROW
  have HFW := Lib.hid hfew
  clear h hL hfew hrow hV
  go_enter Tryd.func27, Tryd.ntmps27
  go_wp2_with (with_reducible refine c0.mono ?_; rintro e w1 ⟨rfl, hu, hwr, hkp⟩; have HU1 := Lib.hid hu; have HW1 := Lib.hid hwr; clear hu hwr hkp)
  go_loopw [14] (fun i wr => ∃ j : Nat, i = .int .i64 j ∧ j ≤ L ∧ Upd (QS B Q) w wr ∧ Wr B Q wr (out ++ wnum L ++ ((l.take j).map wflags).flatten)) (fun i _ => L - (intOf i).toNat)
  case atStart => exact ⟨0, rfl, Nat.zero_le _, HU1.out, by simpa using HW1.out⟩
  case round =>
    obtain ⟨j, rfl, hj, hup, hwr⟩ := hrel
    have HUP := Lib.hid hup
    have HWR := Lib.hid hwr
    by_cases hlt : j < L
    · have hlt2 : j < l.length := by rw [HL.out]; exact hlt
      have hrw := RowV.dest (HROW.out.upd stFlags hup (fun k hk _ hq => by have := hS k hk; unfold QS at hq; omega)) j hlt2
      obtain ⟨g, vs, rfl, hvl, hvc, hD⟩ := hrw
      have hst := flat_step wflags l j hlt2
      have hle := hfl.out (j + 1)
      have hF := HFW.out
      have hVx := HVV.out l[j] (List.getElem_mem hlt2)
      obtain ⟨x, hx⟩ : ∃ x, l[j]'hlt2 = x := ⟨_, rfl⟩
      rw [hx] at hD hst hVx
      rw [hst, List.length_append] at hle
      have HST := Lib.hid hst
      obtain ⟨OD, hOD⟩ : ∃ y, out ++ wnum L ++ ((l.take j).map wflags).flatten = y := ⟨_, rfl⟩
      have hol : OD.length + (wflags x).length ≤ 900000 := by rw [← hOD, List.length_append, List.length_append]; omega
      rw [hOD] at HWR
      have HOD := Lib.hid hOD
      skip
      obtain ⟨la, lc, rfl, hrx⟩ := hD.dest; have hcx := hvc 0 _ rfl; rw [Nat.mul_one, Nat.add_zero] at hcx; have hc := wflags_any B Q x la lc OD wr HWR.out hVx hol hQB (flags_view hrx hS); clear hrx
      clear hup hwr hst hx hOD hle hF hvl hvc hlt2
      go_wp2_with (with_reducible refine hc.mono ?_; rintro e w2 ⟨rfl, hu, hwr, _⟩; have HE := Lib.hid hu; have HE2 := Lib.hid hwr; clear hu hwr)
      go_roundw
      case rel => exact ⟨j + 1, by go_num, by omega, HUP.out.trans HE.out (fun _ _ h => h), by rw [HST.out, ← List.append_assoc, HOD.out]; exact HE2.out⟩
      case measure => simp [intOf]; omega
    · have hj2 : j = L := by omega
      have hall : l.take j = l := by rw [hj2, ← HL.out]; exact List.take_length
      have HALL := Lib.hid hall
      clear hup hwr hall
      go_wp2_with fail
      go_end0
      exact ⟨rfl, HUP.out, by rw [hW.out, ← List.append_assoc, HL.out]; have := HWR.out; rw [HALL.out] at this; exact this⟩

end Go.Proofs.YtdflfcgdfbihfaaDoor

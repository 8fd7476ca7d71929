import Derived.Test.YtdflfcgdfbihfaaDoorD2
namespace Go.Proofs.YtdflfcgdfbihfaaDoor
open Go.RowKit CodeText

theorem flat_step {α : Type} (w : α → Bytes) (l : List α) (i : Nat) (h : i < l.length) : ((l.take (i + 1)).map w).flatten = ((l.take i).map w).flatten ++ w l[i] := by
  rw [List.take_add_one, List.getElem?_eq_getElem h]
  simp only [List.map_append, List.flatten_append, Option.toList_some, List.map_cons, List.map_nil, List.flatten_cons, List.flatten_nil, List.append_nil]

theorem flat_le {α : Type} (w : α → Bytes) (l : List α) (i : Nat) : ((l.take i).map w).flatten.length ≤ (l.map w).flatten.length := by
  conv => rhs; rw [← List.take_append_drop i l]
  rw [List.map_append, List.flatten_append, List.length_append]
  omega

set_option maxRecDepth 100000 in
set_option maxHeartbeats 800000 in
theorem wflags_any (B Q : Nat) (l : List Bool) (a : Option Addr) (c : Nat) (out : Bytes) (w : World) (h : Wr B Q w out) (hl : l.length ≤ 900000) (hfew : out.length + (wflags l).length ≤ 900000) (hQB : Q < B)
    (hv : ∀ w', Upd (QS B Q) w w' → Keep Q w w' → ∀ i (h : i < l.length), ∃ g, a = some ⟨g, 0, none⟩ ∧ w'.cell? ⟨g, i, none⟩ = some (.bool l[i])) :
    Calls Tryd.prog 26 #[.pointer (some ⟨Q, 0, none⟩), .slice a l.length c] w fun e w' => e = .returned (.tuple #[]) ∧ Upd (QS B Q) w w' ∧ Wr B Q w' (out ++ wflags l) ∧ Keep Q w w' := by
  have hW : Hid (wflags l = wnum l.length ++ (l.map wflag).flatten) := rfl
  have c0 := wnum_any B Q l.length (fits_len (by omega)) out w h (by rw [hW.out, List.length_append] at hfew; omega) hQB
  have cN := Lib.hid (fun (n : Int) (hn : Fits n) (o : Bytes) (u : World) (hu : Wr B Q u o) (ho : o.length ≤ 900000) => wnum_any B Q n hn o u hu ho hQB)
  have HV := Lib.hid hv
  rw [hW.out, List.length_append] at hfew
  have hfl := Lib.hid (flat_le wflag l)
  obtain ⟨L, hL⟩ : ∃ L, l.length = L := ⟨_, rfl⟩
  have HL := Lib.hid hL
  rw [hL] at hl hfew c0 ⊢
  have HFW := Lib.hid hfew
  clear h hv hL hfew
  go_enter Tryd.func26, Tryd.ntmps26
  go_wp2_with (with_reducible refine c0.mono ?_; rintro e w1 ⟨rfl, hu, hwr, hkp⟩; have HU1 := Lib.hid hu; have HW1 := Lib.hid hwr; have HK1 := Lib.hid hkp; clear hu hwr hkp)
  go_loopw [12] (fun i wr => ∃ j : Nat, i = .int .i64 j ∧ j ≤ L ∧ Upd (QS B Q) w wr ∧ Wr B Q wr (out ++ wnum L ++ ((l.take j).map wflag).flatten) ∧ Keep Q w wr) (fun i _ => L - (intOf i).toNat)
  case atStart => exact ⟨0, rfl, Nat.zero_le _, HU1.out, by simpa using HW1.out, HK1.out⟩
  case round =>
    obtain ⟨j, rfl, hj, hup, hwr, hkp⟩ := hrel
    have HUP := Lib.hid hup
    have HWR := Lib.hid hwr
    have HKP := Lib.hid hkp
    have hup' := hup.size
    by_cases hlt : j < L
    · obtain ⟨g, rfl, hcell⟩ := HV.out wr hup hkp j (by rw [HL.out]; exact hlt)
      have hst := flat_step wflag l j (by rw [HL.out]; exact hlt)
      have hle := hfl.out j
      have hF := HFW.out
      obtain ⟨x, hx⟩ : ∃ x, l[j]'(by rw [HL.out]; exact hlt) = x := ⟨_, rfl⟩
      rw [hx] at hcell hst
      have HST := Lib.hid hst
      obtain ⟨OD, hOD⟩ : ∃ y, out ++ wnum L ++ ((l.take j).map wflag).flatten = y := ⟨_, rfl⟩
      have hol : OD.length ≤ 900000 := by rw [← hOD, List.length_append, List.length_append]; omega
      rw [hOD] at HWR
      have HOD := Lib.hid hOD
      have hc := cN.out (if x = true then 1 else 0) (by cases x <;> (unfold Fits; simp)) OD wr HWR.out hol
      clear hup hwr hkp hst hx hOD hle hF
      cases x with
      | true =>
        rw [if_pos rfl] at hc
        go_wp2_with (with_reducible refine hc.mono ?_; rintro e w2 ⟨rfl, hu, hwr, hkp⟩; have HE := Lib.hid hu; have HE2 := Lib.hid hwr; have HE3 := Lib.hid hkp; clear hu hwr hkp)
        go_roundw
        case rel => exact ⟨j + 1, by go_num, by omega, HUP.out.trans HE.out (fun _ _ h => h), by rw [HST.out, ← List.append_assoc, HOD.out]; exact HE2.out, HKP.out.trans HE3.out hup'⟩
        case measure => simp [intOf]; omega
      | false =>
        rw [if_neg (by simp)] at hc
        go_wp2_with (with_reducible refine hc.mono ?_; rintro e w2 ⟨rfl, hu, hwr, hkp⟩; have HE := Lib.hid hu; have HE2 := Lib.hid hwr; have HE3 := Lib.hid hkp; clear hu hwr hkp)
        go_roundw
        case rel => exact ⟨j + 1, by go_num, by omega, HUP.out.trans HE.out (fun _ _ h => h), by rw [HST.out, ← List.append_assoc, HOD.out]; exact HE2.out, HKP.out.trans HE3.out hup'⟩
        case measure => simp [intOf]; omega
    · have hj2 : j = L := by omega
      have hall : l.take j = l := by rw [hj2, ← HL.out]; exact List.take_length
      have HALL := Lib.hid hall
      clear hup hwr hkp hall
      go_wp2_with fail
      go_end0
      exact ⟨rfl, HUP.out, by rw [hW.out, ← List.append_assoc, HL.out]; have := HWR.out; rw [HALL.out] at this; exact this, HKP.out⟩

/-- A row of flags that lies apart from the writer. -/
theorem flags_view {B Q : Nat} {S : Nat → Prop} {l : List Bool} {a : Option Addr} {n c : Nat} {w : World} (h : RowV DBool 1 w S (.slice a n c) l) (hS : ∀ k, S k → k ≠ Q ∧ k < B) :
    ∀ w', Upd (QS B Q) w w' → Keep Q w w' → ∀ i (h : i < l.length), ∃ g, a = some ⟨g, 0, none⟩ ∧ w'.cell? ⟨g, i, none⟩ = some (.bool l[i]) := by
  intro w' hu _ i hi
  obtain ⟨a', c', hv, hne⟩ := h.upd stBool hu (fun k hk _ hq => by have := hS k hk; unfold QS at hq; omega)
  injection hv with hv _ _
  obtain ⟨g, _, _, hg, hc⟩ := hne (by intro h0; rw [h0] at hi; simp at hi)
  obtain ⟨vs, h1, h2, h3⟩ := hc i hi
  refine ⟨g, by rw [hv]; exact hg, ?_⟩
  unfold DBool at h3
  subst h3
  have := h2 0 _ rfl
  simpa using this

end Go.Proofs.YtdflfcgdfbihfaaDoor

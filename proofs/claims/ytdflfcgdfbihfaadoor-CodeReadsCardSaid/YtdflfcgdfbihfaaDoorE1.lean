import Derived.Test.YtdflfcgdfbihfaaDoorD8
import Derived.Test.YtdflfcgdfbihfaaDoorC13
namespace Go.Proofs.YtdflfcgdfbihfaaDoor
open Go.RowKit CodeText

theorem row_bool {S : Nat → Prop} {l : List Bool} {a : Option Addr} {n c : Nat} {w w' : World} (h : RowV DBool 1 w S (.slice a n c) l) (hu : Upd (fun _ => False) w w') (i : Nat) (hi : i < l.length) :
    ∃ g, a = some ⟨g, 0, none⟩ ∧ w'.cell? ⟨g, i, none⟩ = some (.bool l[i]) := by
  obtain ⟨a', c', hv, hne⟩ := h.upd stBool hu (fun _ _ _ h => h)
  injection hv with hv _ _
  obtain ⟨g, _, _, hg, hc⟩ := hne (by intro h0; rw [h0] at hi; simp at hi)
  obtain ⟨vs, h1, h2, h3⟩ := hc i hi
  refine ⟨g, by rw [hv]; exact hg, ?_⟩
  unfold DBool at h3
  subst h3
  have := h2 0 _ rfl
  simpa using this

theorem row_int {S : Nat → Prop} {l : List Int} {a : Option Addr} {n c : Nat} {w w' : World} (h : RowV DInt 1 w S (.slice a n c) l) (hu : Upd (fun _ => False) w w') (i : Nat) (hi : i < l.length) :
    ∃ g, a = some ⟨g, 0, none⟩ ∧ w'.cell? ⟨g, i, none⟩ = some (.int .i64 l[i]) := by
  obtain ⟨a', c', hv, hne⟩ := h.upd stInt hu (fun _ _ _ h => h)
  injection hv with hv _ _
  obtain ⟨g, _, _, hg, hc⟩ := hne (by intro h0; rw [h0] at hi; simp at hi)
  obtain ⟨vs, h1, h2, h3⟩ := hc i hi
  refine ⟨g, by rw [hv]; exact hg, ?_⟩
  unfold DInt at h3
  subst h3
  have := h2 0 _ rfl
  simpa using this

set_option maxRecDepth 100000 in
set_option maxHeartbeats 800000 in
theorem flags_eq (l : List Bool) (a a' : Option Addr) (c c' : Nat) (S S' : Nat → Prop) (w : World) (hl : l.length ≤ 900000)
    (h1 : RowV DBool 1 w S (.slice a l.length c) l) (h2 : RowV DBool 1 w S' (.slice a' l.length c') l) :
    Calls Tryd.prog 22 #[.slice a l.length c, .slice a' l.length c'] w fun e w' => e = .returned (.bool true) ∧ w' = w := by
  obtain ⟨L, hL⟩ : ∃ L, l.length = L := ⟨_, rfl⟩
  have HL := Lib.hid hL
  rw [hL] at hl h1 h2 ⊢
  have H1 := Lib.hid h1
  have H2 := Lib.hid h2
  clear h1 h2 hL
  go_enter Tryd.func22, Tryd.ntmps22
  go_wp2
  go_loopw [14] (fun i wr => ∃ j : Nat, i = .int .i64 j ∧ j ≤ L ∧ wr = w) (fun i _ => L - (intOf i).toNat)
  case atStart => exact ⟨0, rfl, Nat.zero_le _, rfl⟩
  case round =>
    obtain ⟨j, rfl, hj, rfl⟩ := hrel
    by_cases hlt : j < L
    · obtain ⟨g, rfl, hcell⟩ := row_bool H1.out (Upd.refl _ _) j (by rw [HL.out]; exact hlt)
      obtain ⟨g', rfl, hcell'⟩ := row_bool H2.out (Upd.refl _ _) j (by rw [HL.out]; exact hlt)
      obtain ⟨x, hx⟩ : ∃ x, l[j]'(by rw [HL.out]; exact hlt) = x := ⟨_, rfl⟩
      rw [hx] at hcell hcell'
      clear hx
      go_wp2
      go_roundw
      case rel => exact ⟨j + 1, by go_num, by omega, by trivial⟩
      case measure => simp [intOf]; omega
    · go_wp2
      go_ret
      exact ⟨rfl, rfl⟩

set_option maxRecDepth 100000 in
set_option maxHeartbeats 800000 in
theorem ints_eq (l : List Int) (a a' : Option Addr) (c c' : Nat) (S S' : Nat → Prop) (w : World) (hl : l.length ≤ 900000)
    (h1 : RowV DInt 1 w S (.slice a l.length c) l) (h2 : RowV DInt 1 w S' (.slice a' l.length c') l) :
    Calls Tryd.prog 23 #[.slice a l.length c, .slice a' l.length c'] w fun e w' => e = .returned (.bool true) ∧ w' = w := by
  obtain ⟨L, hL⟩ : ∃ L, l.length = L := ⟨_, rfl⟩
  have HL := Lib.hid hL
  rw [hL] at hl h1 h2 ⊢
  have H1 := Lib.hid h1
  have H2 := Lib.hid h2
  clear h1 h2 hL
  go_enter Tryd.func23, Tryd.ntmps23
  go_wp2
  go_loopw [14] (fun i wr => ∃ j : Nat, i = .int .i64 j ∧ j ≤ L ∧ wr = w) (fun i _ => L - (intOf i).toNat)
  case atStart => exact ⟨0, rfl, Nat.zero_le _, rfl⟩
  case round =>
    obtain ⟨j, rfl, hj, rfl⟩ := hrel
    by_cases hlt : j < L
    · obtain ⟨g, rfl, hcell⟩ := row_int H1.out (Upd.refl _ _) j (by rw [HL.out]; exact hlt)
      obtain ⟨g', rfl, hcell'⟩ := row_int H2.out (Upd.refl _ _) j (by rw [HL.out]; exact hlt)
      obtain ⟨x, hx⟩ : ∃ x, l[j]'(by rw [HL.out]; exact hlt) = x := ⟨_, rfl⟩
      rw [hx] at hcell hcell'
      clear hx
      go_wp2
      go_roundw
      case rel => exact ⟨j + 1, by go_num, by omega, by trivial⟩
      case measure => simp [intOf]; omega
    · go_wp2
      go_ret
      exact ⟨rfl, rfl⟩

end Go.Proofs.YtdflfcgdfbihfaaDoor

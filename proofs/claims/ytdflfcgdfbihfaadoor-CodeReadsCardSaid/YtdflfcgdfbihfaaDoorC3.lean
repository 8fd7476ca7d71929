import Derived.Test.YtdflfcgdfbihfaaDoorC2
namespace Go.Proofs.YtdflfcgdfbihfaaDoor
open Go.RowKit CodeText

theorem rnum_err {s : St} (h : (rnum s).2.2 = true) : (rnum s).1 = 0 := by
  unfold rnum at h ⊢
  split
  · rfl
  · rename_i hs
    rw [if_neg hs] at h
    cases hu : unum 0 0 s.1 with
    | none => rfl
    | some x => rw [hu] at h; cases h

/-- What a reader's cells hold. -/
theorem Rd.cells {E : Addr} {R I : Nat} {w : World} {l : Bytes} {b : Bool} (h : Rd E R I w (l, b)) :
    (∃ a c, w.cell? ⟨R, 0, none⟩ = some (.slice a l.length c) ∧ l.length ≤ c ∧ c ≤ 9223372036854775807 ∧ ((a = none ∧ c = 0) ∨ ∃ o, a = some ⟨I, o, none⟩ ∧ ∀ i (h : i < l.length), w.cell? ⟨I, o + i, none⟩ = some (.int .u8 l[i].toNat))) ∧
    (b = false → w.cell? ⟨R, 1, none⟩ = some .nilIface) ∧ w.frozen? ⟨R, 0, none⟩ = false ∧ w.frozen? ⟨R, 1, none⟩ = false ∧ w.cell? ⟨0, 0, none⟩ = some (.iface 94 (.pointer (some E))) ∧ l.length ≤ 1000000 := by
  obtain ⟨⟨v, e, k1, ⟨a, c, rfl, k2, k4, k5⟩, k3⟩, hg, hf, ha, hb, _⟩ := h
  refine ⟨⟨a, c, by simp [World.cell?, k1], k2, k4, k5⟩, ?_, by simp [World.frozen?, k1], by simp [World.frozen?, k1], hg, hf⟩
  rintro rfl
  rcases k3 with ⟨_, rfl⟩ | ⟨k3, _⟩
  · simp [World.cell?, k1]
  · cases k3

set_option maxHeartbeats 800000 in
theorem size_any (E : Addr) (R I : Nat) (s : St) (w : World) (h : Rd E R I w s) :
    Calls Tryd.prog 34 #[.pointer (some ⟨R, 0, none⟩)] w fun e w' => e = .returned (.int .i64 (rsize s).1) ∧ Upd (RS R) w w' ∧ Rd E R I w' (rsize s).2 := by
  have cN := num_any E R I s w h
  have he := rnum_err (s := s)
  have hd : rsize s = if (rnum s).1 < 0 ∨ ((rnum s).2.1.length : Int) < (rnum s).1 then (0, ((rnum s).2.1, true)) else ((rnum s).1.toNat, (rnum s).2) := rfl
  obtain ⟨⟨n, l, b⟩, hn⟩ : ∃ x, rnum s = x := ⟨_, rfl⟩
  rw [hn] at cN hd he
  simp only at cN hd he
  clear hn h
  by_cases hneg : n < 0
  · have hb : b = false := by cases b with | false => rfl | true => have := he rfl; omega
    subst hb
    rw [if_pos (.inl hneg)] at hd
    have HD := Lib.hid hd
    clear hd he
    go_enter Tryd.func34, Tryd.ntmps34
    go_wp2_with (with_reducible refine cN.mono ?_; rintro e w1 ⟨rfl, hu, hr⟩; have HR := Lib.hid hr; have HU := Lib.hid hu; obtain ⟨⟨a, c, h0, h1, h2, h3⟩, h4, h5, h6, h7, h8⟩ := hr.cells; have h9 := h4 rfl; clear h3 h4 hr hu)
    go_ret
    rw [HD.out]
    have hf := num_fail HR.out ⟨#[97, 32, 115, 105, 122, 101]⟩
    exact ⟨rfl, HU.out.trans hf.1 (fun k _ hk => hk), hf.2⟩
  · by_cases hbig : (l.length : Int) < n
    · have hb : b = false := by cases b with | false => rfl | true => have := he rfl; omega
      subst hb
      rw [if_pos (.inr hbig)] at hd
      have HD := Lib.hid hd
      clear hd he
      go_enter Tryd.func34, Tryd.ntmps34
      go_wp2_with (with_reducible refine cN.mono ?_; rintro e w1 ⟨rfl, hu, hr⟩; have HR := Lib.hid hr; have HU := Lib.hid hu; obtain ⟨⟨a, c, h0, h1, h2, h3⟩, h4, h5, h6, h7, h8⟩ := hr.cells; have h9 := h4 rfl; clear h3 h4 hr hu)
      go_ret
      rw [HD.out]
      have hf := num_fail HR.out ⟨#[97, 32, 115, 105, 122, 101]⟩
      exact ⟨rfl, HU.out.trans hf.1 (fun k _ hk => hk), hf.2⟩
    · rw [if_neg (by omega)] at hd
      have HD := Lib.hid hd
      clear hd he
      go_enter Tryd.func34, Tryd.ntmps34
      go_wp2_with (with_reducible refine cN.mono ?_; rintro e w1 ⟨rfl, hu, hr⟩; have HR := Lib.hid hr; have HU := Lib.hid hu; obtain ⟨⟨a, c, h0, h1, h2, h3⟩, h4, h5, h6, h7, h8⟩ := hr.cells; clear h3 h4 hr hu)
      go_ret
      rw [HD.out]
      refine ⟨?_, HU.out, HR.out⟩
      show Ending.returned (.int .i64 n) = .returned (.int .i64 ((n.toNat : Nat) : Int))
      rw [Int.toNat_of_nonneg (by omega)]

theorem flag_any (E : Addr) (R I : Nat) (s : St) (w : World) (h : Rd E R I w s) :
    Calls Tryd.prog 12 #[.pointer (some ⟨R, 0, none⟩)] w fun e w' => e = .returned (.bool (rflag s).1) ∧ Upd (RS R) w w' ∧ Rd E R I w' (rflag s).2 := by
  have cN := num_any E R I s w h
  have hd : rflag s = (decide ((rnum s).1 ≠ 0), (rnum s).2) := rfl
  rw [hd]
  obtain ⟨⟨n, t⟩, hn⟩ : ∃ x, rnum s = x := ⟨_, rfl⟩
  rw [hn] at cN ⊢
  simp only at cN ⊢
  clear hn h hd
  by_cases h0 : n = 0
  · subst h0
    go_enter Tryd.func12, Tryd.ntmps12
    go_wp2_with (with_reducible refine cN.mono ?_; rintro e w1 ⟨rfl, hu, hr⟩)
    go_ret
    exact ⟨rfl, hu, hr⟩
  · go_enter Tryd.func12, Tryd.ntmps12
    go_wp2_with (with_reducible refine cN.mono ?_; rintro e w1 ⟨rfl, hu, hr⟩)
    go_ret
    exact ⟨by simp [h0], hu, hr⟩

end Go.Proofs.YtdflfcgdfbihfaaDoor

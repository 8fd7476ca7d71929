import Derived.Test.YtdflfcgdfbihfaaDoorC1
namespace Go.Proofs.YtdflfcgdfbihfaaDoor
open Go.RowKit CodeText

theorem rnum_some {l t : Bytes} {v : Nat} (h : unum 0 0 l = some (v, t)) : rnum (l, false) = (zig v, (t, false)) := by
  unfold rnum
  rw [if_neg (by simp)]
  simp only [h]
theorem rnum_none {l : Bytes} (h : unum 0 0 l = none) : rnum (l, false) = (0, (l, true)) := by
  unfold rnum
  rw [if_neg (by simp)]
  simp only [h]
theorem rnum_bad (l : Bytes) : rnum (l, true) = (0, (l, true)) := by unfold rnum; rw [if_pos rfl]

theorem zig_form (v : Nat) (hv : v < 2 ^ 64) : bits .xor .i64 (wrap64 ((v : Int) / 2)) (wrap64 (-wrap64 (bits .and .u64 (v : Int) 1))) = zig v := by
  have ha : bits .and .u64 (v : Int) 1 = (v : Int) % 2 := Lib.u64_and1 _ (by omega) (by omega)
  rw [ha]
  have hd : wrap64 ((v : Int) / 2) = ((v / 2 : Nat) : Int) := by
    unfold wrap64; omega
  rw [hd]
  rcases Nat.mod_two_eq_zero_or_one v with h | h
  · have h2 : (v : Int) % 2 = 0 := by omega
    rw [h2, show wrap64 (-wrap64 0) = 0 by unfold wrap64; omega]
    exact zig_even v hv h
  · have h2 : (v : Int) % 2 = 1 := by omega
    rw [h2, show wrap64 (-wrap64 1) = -1 by unfold wrap64; omega]
    exact zig_odd v hv h

theorem num_end {E : Addr} {R I : Nat} {l : Bytes} {w : World} (h : Rd E R I w (l, false)) {v j : Nat} (hr : unum 0 0 l = some (v, l.drop j)) {a a' : Option Addr} {c n' c' : Nat} (hc : w.cell? ⟨R, 0, none⟩ = some (.slice a l.length c))
    (hj : j ≤ l.length) (hn : n' = l.length - j) (hc' : c' = c - j) (ha : a' = a ∧ c = j ∨ (∃ o, a = some ⟨I, o, none⟩ ∧ a' = some ⟨I, o + j, none⟩) ∨ (a = none ∧ a' = none)) :
    Upd (RS R) w (w.setCell ⟨R, 0, none⟩ (.slice a' n' c')) ∧ Rd E R I (w.setCell ⟨R, 0, none⟩ (.slice a' n' c')) (rnum (l, false)).2 := by
  subst hn; subst hc'
  have hu : Upd (RS R) w (w.setCell ⟨R, 0, none⟩ (.slice a' (l.length - j) (c - j))) := Upd.setCell w _ _ rfl
  refine ⟨hu, ?_⟩
  rw [rnum_some hr]
  obtain ⟨⟨v0, e0, k1, k2, k3⟩, hg, hf, hn1, hn2, hn3⟩ := h
  have hv0 : v0 = .slice a l.length c := by
    have : w.cell? ⟨R, 0, none⟩ = some v0 := by simp [World.cell?, k1]
    rw [this] at hc
    exact Option.some.inj hc
  rcases k3 with ⟨_, rfl⟩ | ⟨k3, _⟩
  · refine ⟨⟨.slice a' (l.length - j) (c - j), .nilIface, ?_, ?_, .inl ⟨rfl, rfl⟩⟩, hu.cell hg (fun h0 => hn2 h0.symm), by have : l.length ≤ 1000000 := hf; rw [List.length_drop]; omega, hn1, hn2, Nat.lt_of_lt_of_le hn3 hu.size⟩
    · simp [World.setCell, Array.getElem?_modify, k1]
    · exact ((k2.drop hv0 j hj).2 a' ha).upd hu (fun h0 => hn1 h0.symm)
  · cases k3

theorem num_fail {E : Addr} {R I : Nat} {l : Bytes} {w : World} (h : Rd E R I w (l, false)) (x : ByteArray) :
    Upd (RS R) w (w.setCell ⟨R, 1, none⟩ (.iface 78 (.agg #[.string x, short E]))) ∧ Rd E R I (w.setCell ⟨R, 1, none⟩ (.iface 78 (.agg #[.string x, short E]))) (l, true) := by
  have hu : Upd (RS R) w (w.setCell ⟨R, 1, none⟩ (.iface 78 (.agg #[.string x, short E]))) := Upd.setCell w _ _ rfl
  refine ⟨hu, ?_⟩
  obtain ⟨⟨v0, e0, k1, k2, k3⟩, hg, hf, hn1, hn2, hn3⟩ := h
  refine ⟨⟨v0, _, ?_, k2.upd hu (fun h0 => hn1 h0.symm), .inr ⟨rfl, x, rfl⟩⟩, hu.cell hg (fun h0 => hn2 h0.symm), hf, hn1, hn2, Nat.lt_of_lt_of_le hn3 hu.size⟩
  simp [World.setCell, Array.getElem?_modify, k1]

theorem Rd.c0 {E : Addr} {R I : Nat} {w : World} {s : St} (h : Rd E R I w s) : ∃ a n c e, w.heap[R]? = some (.cells #[.slice a n c, e] 43 (0, 0)) ∧ n = s.1.length := by
  obtain ⟨v, e, k1, ⟨a, c, k2, _⟩, _⟩ := h.at_
  subst k2
  exact ⟨a, _, c, e, k1, rfl⟩

set_option maxHeartbeats 400000 in
theorem num_err (E : Addr) (R I : Nat) (l : Bytes) (w : World) (h : Rd E R I w (l, true)) :
    Calls Tryd.prog 17 #[.pointer (some ⟨R, 0, none⟩)] w fun e w' => e = .returned (.int .i64 0) ∧ w' = w := by
  obtain ⟨v, e, k1, _, k3⟩ := h.at_
  rcases k3 with ⟨k3, _⟩ | ⟨_, x, rfl⟩
  · cases k3
  have h1 : w.cell? ⟨R, 1, none⟩ = some (.iface 78 (.agg #[.string x, short E])) := by simp [World.cell?, k1]
  clear k1 h
  go_enter Tryd.func17, Tryd.ntmps17
  go_wp2
  go_ret
  exact ⟨rfl, rfl⟩

set_option maxRecDepth 100000 in
set_option maxHeartbeats 3200000 in
theorem num_ok (E : Addr) (R I : Nat) (l : Bytes) (w : World) (h : Rd E R I w (l, false)) :
    Calls Tryd.prog 17 #[.pointer (some ⟨R, 0, none⟩)] w fun e w' => e = .returned (.int .i64 (rnum (l, false)).1) ∧ Upd (RS R) w w' ∧ Rd E R I w' (rnum (l, false)).2 := by
  have HH := Lib.hid h
  obtain ⟨v, e, k1, ⟨a, c, rfl, hlc, hcm, hsrc⟩, k3⟩ := h.at_
  have hfew := h.few
  have hg : w.cell? ⟨0, 0, none⟩ = some (.iface 94 (.pointer (some E))) := h.glob
  rcases k3 with ⟨_, rfl⟩ | ⟨k3, _⟩
  · skip
    have h0 : w.cell? ⟨R, 0, none⟩ = some (.slice a l.length c) := by simp [World.cell?, k1]
    have h1 : w.cell? ⟨R, 1, none⟩ = some .nilIface := by simp [World.cell?, k1]
    have f0 : w.frozen? ⟨R, 0, none⟩ = false := by simp [World.frozen?, k1]
    have f1 : w.frozen? ⟨R, 1, none⟩ = false := by simp [World.frozen?, k1]
    have HS := Lib.hid hsrc
    have HK := Lib.hid k1
    clear hsrc k1 h
    go_enter Tryd.func17, Tryd.ntmps17
    go_wp2
    go_loopw [3, 4] (fun vu vk wr => ∃ k acc : Nat, vu = .int .u64 acc ∧ vk = .int .i64 k ∧ k ≤ 10 ∧ k ≤ l.length ∧ acc < 2 ^ (7 * k) ∧ (k = 10 → acc < 2 ^ 64) ∧ unum 0 0 l = unum k acc (l.drop k) ∧ wr = w) (fun _ vk _ => l.length - (intOf vk).toNat)
    case atStart => exact ⟨0, 0, rfl, rfl, by omega, by omega, by decide, by omega, rfl, rfl⟩
    case round =>
      obtain ⟨k, acc, rfl, rfl, hk10, hkn, hacc, hac2, hun, rfl⟩ := hrel
      by_cases hk : k < l.length
      · by_cases hk9 : k < 10
        · rcases HS.out with ⟨_, hc0⟩ | ⟨o, rfl, hcell⟩
          · omega
          have hc := hcell k hk
          have hdrop : l.drop k = l[k] :: l.drop (k + 1) := List.drop_eq_getElem_cons hk
          rw [hdrop] at hun
          generalize l[k] = b at hc hun
          have hb256 : b.toNat < 256 := b.toNat_lt
          clear hcell hdrop
          have hks : k = 0 ∨ k = 1 ∨ k = 2 ∨ k = 3 ∨ k = 4 ∨ k = 5 ∨ k = 6 ∨ k = 7 ∨ k = 8 ∨ k = 9 := by omega
          rcases hks with rfl | rfl | rfl | rfl | rfl | rfl | rfl | rfl | rfl | rfl
          · obtain rfl : acc = 0 := by simpa using hacc
            replace hc : wr.cell? ⟨I, o, none⟩ = some (.int .u8 b.toNat) := hc
            have hv : bits .or .u64 0 (IntKind.u64.wrap (IntKind.u64.wrap (bits .and .u8 (b.toNat : Int) 127))) = (((0 + b.toNat % 128 * 2 ^ 0) % 2 ^ 64 : Nat) : Int) := by
              have := byte_or 0 0 b (by decide) (by omega)
              simpa using this
            have HV : Hid ((0 + b.toNat % 128 * 2 ^ 0) % 2 ^ 64 < 2 ^ 7) := by
              have e1 : (2 : Nat) ^ 0 = 1 := by decide
              have e2 : (2 : Nat) ^ 7 = 128 := by decide
              have e3 : (2 : Nat) ^ 64 = 18446744073709551616 := by decide
              have h9 : 0 < 2 ^ 0 := by decide
              show _ < _
              rw [e1, e2, e3]; rw [e1] at h9; omega
            by_cases hb : b.toNat < 128
            · have HUN : Hid (unum 0 0 l = some ((0 + b.toNat % 128 * 2 ^ 0) % 2 ^ 64, l.drop 1)) := by
                show unum 0 0 l = _
                rw [hun, unum, if_neg (by omega), if_pos hb, Nat.mod_eq_of_lt hb]
              obtain ⟨v, hvv⟩ : ∃ x, (0 + b.toNat % 128 * 2 ^ 0) % 2 ^ 64 = x := ⟨_, rfl⟩
              rw [hvv] at hv HV HUN
              have HC := Lib.hid h0
              clear hvv hacc hac2 hun
              go_wp2
              all_goals go_ret
              all_goals rw [zig_form v (Nat.lt_of_lt_of_le HV.out (by decide)), rnum_some HUN.out]
              all_goals refine ⟨rfl, ?_⟩
              all_goals rw [← rnum_some HUN.out]
              all_goals first | exact num_end HH.out HUN.out HC.out (by omega) (by omega) (by omega) (.inl ⟨rfl, by first | rfl | omega⟩) | exact num_end HH.out HUN.out HC.out (by omega) (by omega) (by omega) (.inr (.inl ⟨o, rfl, rfl⟩))
            · have HUN : Hid (unum 0 0 l = unum 1 ((0 + b.toNat % 128 * 2 ^ 0) % 2 ^ 64) (l.drop 1)) := by
                show unum 0 0 l = _
                rw [hun, unum, if_neg (by omega), if_neg hb]
              obtain ⟨v, hvv⟩ : ∃ x, (0 + b.toNat % 128 * 2 ^ 0) % 2 ^ 64 = x := ⟨_, rfl⟩
              rw [hvv] at hv HV HUN
              clear hvv hacc hac2 hun
              go_wp2
              refine ⟨⟨1, v, rfl, rfl, by omega, by omega, HV.out, fun h10 => by omega, HUN.out, trivial⟩, by simp [intOf]; omega⟩
          · have hv : bits .or .u64 (acc : Int) (IntKind.u64.wrap (IntKind.u64.wrap (bits .and .u8 (b.toNat : Int) 127) * 128)) = (((acc + b.toNat % 128 * 2 ^ 7) % 2 ^ 64 : Nat) : Int) := byte_or acc 7 b hacc (by omega)
            have HV : Hid ((acc + b.toNat % 128 * 2 ^ 7) % 2 ^ 64 < 2 ^ 14) := by
              have e1 : (2 : Nat) ^ 7 = 128 := by decide
              have e2 : (2 : Nat) ^ 14 = 16384 := by decide
              have e3 : (2 : Nat) ^ 64 = 18446744073709551616 := by decide
              have h9 : acc < 2 ^ 7 := hacc
              show _ < _
              rw [e1, e2, e3]; rw [e1] at h9; omega
            by_cases hb : b.toNat < 128
            · have HUN : Hid (unum 0 0 l = some ((acc + b.toNat % 128 * 2 ^ 7) % 2 ^ 64, l.drop 2)) := by
                show unum 0 0 l = _
                rw [hun, unum, if_neg (by omega), if_pos hb, Nat.mod_eq_of_lt hb]
              obtain ⟨v, hvv⟩ : ∃ x, (acc + b.toNat % 128 * 2 ^ 7) % 2 ^ 64 = x := ⟨_, rfl⟩
              rw [hvv] at hv HV HUN
              have HC := Lib.hid h0
              clear hvv hacc hac2 hun
              go_wp2
              all_goals go_ret
              all_goals rw [zig_form v (Nat.lt_of_lt_of_le HV.out (by decide)), rnum_some HUN.out]
              all_goals refine ⟨rfl, ?_⟩
              all_goals rw [← rnum_some HUN.out]
              all_goals first | exact num_end HH.out HUN.out HC.out (by omega) (by omega) (by omega) (.inl ⟨rfl, by first | rfl | omega⟩) | exact num_end HH.out HUN.out HC.out (by omega) (by omega) (by omega) (.inr (.inl ⟨o, rfl, rfl⟩))
            · have HUN : Hid (unum 0 0 l = unum 2 ((acc + b.toNat % 128 * 2 ^ 7) % 2 ^ 64) (l.drop 2)) := by
                show unum 0 0 l = _
                rw [hun, unum, if_neg (by omega), if_neg hb]
              obtain ⟨v, hvv⟩ : ∃ x, (acc + b.toNat % 128 * 2 ^ 7) % 2 ^ 64 = x := ⟨_, rfl⟩
              rw [hvv] at hv HV HUN
              clear hvv hacc hac2 hun
              go_wp2
              refine ⟨⟨2, v, rfl, rfl, by omega, by omega, HV.out, fun h10 => by omega, HUN.out, trivial⟩, by simp [intOf]; omega⟩
          · have hv : bits .or .u64 (acc : Int) (IntKind.u64.wrap (IntKind.u64.wrap (bits .and .u8 (b.toNat : Int) 127) * 16384)) = (((acc + b.toNat % 128 * 2 ^ 14) % 2 ^ 64 : Nat) : Int) := byte_or acc 14 b hacc (by omega)
            have HV : Hid ((acc + b.toNat % 128 * 2 ^ 14) % 2 ^ 64 < 2 ^ 21) := by
              have e1 : (2 : Nat) ^ 14 = 16384 := by decide
              have e2 : (2 : Nat) ^ 21 = 2097152 := by decide
              have e3 : (2 : Nat) ^ 64 = 18446744073709551616 := by decide
              have h9 : acc < 2 ^ 14 := hacc
              show _ < _
              rw [e1, e2, e3]; rw [e1] at h9; omega
            by_cases hb : b.toNat < 128
            · have HUN : Hid (unum 0 0 l = some ((acc + b.toNat % 128 * 2 ^ 14) % 2 ^ 64, l.drop 3)) := by
                show unum 0 0 l = _
                rw [hun, unum, if_neg (by omega), if_pos hb, Nat.mod_eq_of_lt hb]
              obtain ⟨v, hvv⟩ : ∃ x, (acc + b.toNat % 128 * 2 ^ 14) % 2 ^ 64 = x := ⟨_, rfl⟩
              rw [hvv] at hv HV HUN
              have HC := Lib.hid h0
              clear hvv hacc hac2 hun
              go_wp2
              all_goals go_ret
              all_goals rw [zig_form v (Nat.lt_of_lt_of_le HV.out (by decide)), rnum_some HUN.out]
              all_goals refine ⟨rfl, ?_⟩
              all_goals rw [← rnum_some HUN.out]
              all_goals first | exact num_end HH.out HUN.out HC.out (by omega) (by omega) (by omega) (.inl ⟨rfl, by first | rfl | omega⟩) | exact num_end HH.out HUN.out HC.out (by omega) (by omega) (by omega) (.inr (.inl ⟨o, rfl, rfl⟩))
            · have HUN : Hid (unum 0 0 l = unum 3 ((acc + b.toNat % 128 * 2 ^ 14) % 2 ^ 64) (l.drop 3)) := by
                show unum 0 0 l = _
                rw [hun, unum, if_neg (by omega), if_neg hb]
              obtain ⟨v, hvv⟩ : ∃ x, (acc + b.toNat % 128 * 2 ^ 14) % 2 ^ 64 = x := ⟨_, rfl⟩
              rw [hvv] at hv HV HUN
              clear hvv hacc hac2 hun
              go_wp2
              refine ⟨⟨3, v, rfl, rfl, by omega, by omega, HV.out, fun h10 => by omega, HUN.out, trivial⟩, by simp [intOf]; omega⟩
          · have hv : bits .or .u64 (acc : Int) (IntKind.u64.wrap (IntKind.u64.wrap (bits .and .u8 (b.toNat : Int) 127) * 2097152)) = (((acc + b.toNat % 128 * 2 ^ 21) % 2 ^ 64 : Nat) : Int) := byte_or acc 21 b hacc (by omega)
            have HV : Hid ((acc + b.toNat % 128 * 2 ^ 21) % 2 ^ 64 < 2 ^ 28) := by
              have e1 : (2 : Nat) ^ 21 = 2097152 := by decide
              have e2 : (2 : Nat) ^ 28 = 268435456 := by decide
              have e3 : (2 : Nat) ^ 64 = 18446744073709551616 := by decide
              have h9 : acc < 2 ^ 21 := hacc
              show _ < _
              rw [e1, e2, e3]; rw [e1] at h9; omega
            by_cases hb : b.toNat < 128
            · have HUN : Hid (unum 0 0 l = some ((acc + b.toNat % 128 * 2 ^ 21) % 2 ^ 64, l.drop 4)) := by
                show unum 0 0 l = _
                rw [hun, unum, if_neg (by omega), if_pos hb, Nat.mod_eq_of_lt hb]
              obtain ⟨v, hvv⟩ : ∃ x, (acc + b.toNat % 128 * 2 ^ 21) % 2 ^ 64 = x := ⟨_, rfl⟩
              rw [hvv] at hv HV HUN
              have HC := Lib.hid h0
              clear hvv hacc hac2 hun
              go_wp2
              all_goals go_ret
              all_goals rw [zig_form v (Nat.lt_of_lt_of_le HV.out (by decide)), rnum_some HUN.out]
              all_goals refine ⟨rfl, ?_⟩
              all_goals rw [← rnum_some HUN.out]
              all_goals first | exact num_end HH.out HUN.out HC.out (by omega) (by omega) (by omega) (.inl ⟨rfl, by first | rfl | omega⟩) | exact num_end HH.out HUN.out HC.out (by omega) (by omega) (by omega) (.inr (.inl ⟨o, rfl, rfl⟩))
            · have HUN : Hid (unum 0 0 l = unum 4 ((acc + b.toNat % 128 * 2 ^ 21) % 2 ^ 64) (l.drop 4)) := by
                show unum 0 0 l = _
                rw [hun, unum, if_neg (by omega), if_neg hb]
              obtain ⟨v, hvv⟩ : ∃ x, (acc + b.toNat % 128 * 2 ^ 21) % 2 ^ 64 = x := ⟨_, rfl⟩
              rw [hvv] at hv HV HUN
              clear hvv hacc hac2 hun
              go_wp2
              refine ⟨⟨4, v, rfl, rfl, by omega, by omega, HV.out, fun h10 => by omega, HUN.out, trivial⟩, by simp [intOf]; omega⟩
          · have hv : bits .or .u64 (acc : Int) (IntKind.u64.wrap (IntKind.u64.wrap (bits .and .u8 (b.toNat : Int) 127) * 268435456)) = (((acc + b.toNat % 128 * 2 ^ 28) % 2 ^ 64 : Nat) : Int) := byte_or acc 28 b hacc (by omega)
            have HV : Hid ((acc + b.toNat % 128 * 2 ^ 28) % 2 ^ 64 < 2 ^ 35) := by
              have e1 : (2 : Nat) ^ 28 = 268435456 := by decide
              have e2 : (2 : Nat) ^ 35 = 34359738368 := by decide
              have e3 : (2 : Nat) ^ 64 = 18446744073709551616 := by decide
              have h9 : acc < 2 ^ 28 := hacc
              show _ < _
              rw [e1, e2, e3]; rw [e1] at h9; omega
            by_cases hb : b.toNat < 128
            · have HUN : Hid (unum 0 0 l = some ((acc + b.toNat % 128 * 2 ^ 28) % 2 ^ 64, l.drop 5)) := by
                show unum 0 0 l = _
                rw [hun, unum, if_neg (by omega), if_pos hb, Nat.mod_eq_of_lt hb]
              obtain ⟨v, hvv⟩ : ∃ x, (acc + b.toNat % 128 * 2 ^ 28) % 2 ^ 64 = x := ⟨_, rfl⟩
              rw [hvv] at hv HV HUN
              have HC := Lib.hid h0
              clear hvv hacc hac2 hun
              go_wp2
              all_goals go_ret
              all_goals rw [zig_form v (Nat.lt_of_lt_of_le HV.out (by decide)), rnum_some HUN.out]
              all_goals refine ⟨rfl, ?_⟩
              all_goals rw [← rnum_some HUN.out]
              all_goals first | exact num_end HH.out HUN.out HC.out (by omega) (by omega) (by omega) (.inl ⟨rfl, by first | rfl | omega⟩) | exact num_end HH.out HUN.out HC.out (by omega) (by omega) (by omega) (.inr (.inl ⟨o, rfl, rfl⟩))
            · have HUN : Hid (unum 0 0 l = unum 5 ((acc + b.toNat % 128 * 2 ^ 28) % 2 ^ 64) (l.drop 5)) := by
                show unum 0 0 l = _
                rw [hun, unum, if_neg (by omega), if_neg hb]
              obtain ⟨v, hvv⟩ : ∃ x, (acc + b.toNat % 128 * 2 ^ 28) % 2 ^ 64 = x := ⟨_, rfl⟩
              rw [hvv] at hv HV HUN
              clear hvv hacc hac2 hun
              go_wp2
              refine ⟨⟨5, v, rfl, rfl, by omega, by omega, HV.out, fun h10 => by omega, HUN.out, trivial⟩, by simp [intOf]; omega⟩
          · have hv : bits .or .u64 (acc : Int) (IntKind.u64.wrap (IntKind.u64.wrap (bits .and .u8 (b.toNat : Int) 127) * 34359738368)) = (((acc + b.toNat % 128 * 2 ^ 35) % 2 ^ 64 : Nat) : Int) := byte_or acc 35 b hacc (by omega)
            have HV : Hid ((acc + b.toNat % 128 * 2 ^ 35) % 2 ^ 64 < 2 ^ 42) := by
              have e1 : (2 : Nat) ^ 35 = 34359738368 := by decide
              have e2 : (2 : Nat) ^ 42 = 4398046511104 := by decide
              have e3 : (2 : Nat) ^ 64 = 18446744073709551616 := by decide
              have h9 : acc < 2 ^ 35 := hacc
              show _ < _
              rw [e1, e2, e3]; rw [e1] at h9; omega
            by_cases hb : b.toNat < 128
            · have HUN : Hid (unum 0 0 l = some ((acc + b.toNat % 128 * 2 ^ 35) % 2 ^ 64, l.drop 6)) := by
                show unum 0 0 l = _
                rw [hun, unum, if_neg (by omega), if_pos hb, Nat.mod_eq_of_lt hb]
              obtain ⟨v, hvv⟩ : ∃ x, (acc + b.toNat % 128 * 2 ^ 35) % 2 ^ 64 = x := ⟨_, rfl⟩
              rw [hvv] at hv HV HUN
              have HC := Lib.hid h0
              clear hvv hacc hac2 hun
              go_wp2
              all_goals go_ret
              all_goals rw [zig_form v (Nat.lt_of_lt_of_le HV.out (by decide)), rnum_some HUN.out]
              all_goals refine ⟨rfl, ?_⟩
              all_goals rw [← rnum_some HUN.out]
              all_goals first | exact num_end HH.out HUN.out HC.out (by omega) (by omega) (by omega) (.inl ⟨rfl, by first | rfl | omega⟩) | exact num_end HH.out HUN.out HC.out (by omega) (by omega) (by omega) (.inr (.inl ⟨o, rfl, rfl⟩))
            · have HUN : Hid (unum 0 0 l = unum 6 ((acc + b.toNat % 128 * 2 ^ 35) % 2 ^ 64) (l.drop 6)) := by
                show unum 0 0 l = _
                rw [hun, unum, if_neg (by omega), if_neg hb]
              obtain ⟨v, hvv⟩ : ∃ x, (acc + b.toNat % 128 * 2 ^ 35) % 2 ^ 64 = x := ⟨_, rfl⟩
              rw [hvv] at hv HV HUN
              clear hvv hacc hac2 hun
              go_wp2
              refine ⟨⟨6, v, rfl, rfl, by omega, by omega, HV.out, fun h10 => by omega, HUN.out, trivial⟩, by simp [intOf]; omega⟩
          · have hv : bits .or .u64 (acc : Int) (IntKind.u64.wrap (IntKind.u64.wrap (bits .and .u8 (b.toNat : Int) 127) * 4398046511104)) = (((acc + b.toNat % 128 * 2 ^ 42) % 2 ^ 64 : Nat) : Int) := byte_or acc 42 b hacc (by omega)
            have HV : Hid ((acc + b.toNat % 128 * 2 ^ 42) % 2 ^ 64 < 2 ^ 49) := by
              have e1 : (2 : Nat) ^ 42 = 4398046511104 := by decide
              have e2 : (2 : Nat) ^ 49 = 562949953421312 := by decide
              have e3 : (2 : Nat) ^ 64 = 18446744073709551616 := by decide
              have h9 : acc < 2 ^ 42 := hacc
              show _ < _
              rw [e1, e2, e3]; rw [e1] at h9; omega
            by_cases hb : b.toNat < 128
            · have HUN : Hid (unum 0 0 l = some ((acc + b.toNat % 128 * 2 ^ 42) % 2 ^ 64, l.drop 7)) := by
                show unum 0 0 l = _
                rw [hun, unum, if_neg (by omega), if_pos hb, Nat.mod_eq_of_lt hb]
              obtain ⟨v, hvv⟩ : ∃ x, (acc + b.toNat % 128 * 2 ^ 42) % 2 ^ 64 = x := ⟨_, rfl⟩
              rw [hvv] at hv HV HUN
              have HC := Lib.hid h0
              clear hvv hacc hac2 hun
              go_wp2
              all_goals go_ret
              all_goals rw [zig_form v (Nat.lt_of_lt_of_le HV.out (by decide)), rnum_some HUN.out]
              all_goals refine ⟨rfl, ?_⟩
              all_goals rw [← rnum_some HUN.out]
              all_goals first | exact num_end HH.out HUN.out HC.out (by omega) (by omega) (by omega) (.inl ⟨rfl, by first | rfl | omega⟩) | exact num_end HH.out HUN.out HC.out (by omega) (by omega) (by omega) (.inr (.inl ⟨o, rfl, rfl⟩))
            · have HUN : Hid (unum 0 0 l = unum 7 ((acc + b.toNat % 128 * 2 ^ 42) % 2 ^ 64) (l.drop 7)) := by
                show unum 0 0 l = _
                rw [hun, unum, if_neg (by omega), if_neg hb]
              obtain ⟨v, hvv⟩ : ∃ x, (acc + b.toNat % 128 * 2 ^ 42) % 2 ^ 64 = x := ⟨_, rfl⟩
              rw [hvv] at hv HV HUN
              clear hvv hacc hac2 hun
              go_wp2
              refine ⟨⟨7, v, rfl, rfl, by omega, by omega, HV.out, fun h10 => by omega, HUN.out, trivial⟩, by simp [intOf]; omega⟩
          · have hv : bits .or .u64 (acc : Int) (IntKind.u64.wrap (IntKind.u64.wrap (bits .and .u8 (b.toNat : Int) 127) * 562949953421312)) = (((acc + b.toNat % 128 * 2 ^ 49) % 2 ^ 64 : Nat) : Int) := byte_or acc 49 b hacc (by omega)
            have HV : Hid ((acc + b.toNat % 128 * 2 ^ 49) % 2 ^ 64 < 2 ^ 56) := by
              have e1 : (2 : Nat) ^ 49 = 562949953421312 := by decide
              have e2 : (2 : Nat) ^ 56 = 72057594037927936 := by decide
              have e3 : (2 : Nat) ^ 64 = 18446744073709551616 := by decide
              have h9 : acc < 2 ^ 49 := hacc
              show _ < _
              rw [e1, e2, e3]; rw [e1] at h9; omega
            by_cases hb : b.toNat < 128
            · have HUN : Hid (unum 0 0 l = some ((acc + b.toNat % 128 * 2 ^ 49) % 2 ^ 64, l.drop 8)) := by
                show unum 0 0 l = _
                rw [hun, unum, if_neg (by omega), if_pos hb, Nat.mod_eq_of_lt hb]
              obtain ⟨v, hvv⟩ : ∃ x, (acc + b.toNat % 128 * 2 ^ 49) % 2 ^ 64 = x := ⟨_, rfl⟩
              rw [hvv] at hv HV HUN
              have HC := Lib.hid h0
              clear hvv hacc hac2 hun
              go_wp2
              all_goals go_ret
              all_goals rw [zig_form v (Nat.lt_of_lt_of_le HV.out (by decide)), rnum_some HUN.out]
              all_goals refine ⟨rfl, ?_⟩
              all_goals rw [← rnum_some HUN.out]
              all_goals first | exact num_end HH.out HUN.out HC.out (by omega) (by omega) (by omega) (.inl ⟨rfl, by first | rfl | omega⟩) | exact num_end HH.out HUN.out HC.out (by omega) (by omega) (by omega) (.inr (.inl ⟨o, rfl, rfl⟩))
            · have HUN : Hid (unum 0 0 l = unum 8 ((acc + b.toNat % 128 * 2 ^ 49) % 2 ^ 64) (l.drop 8)) := by
                show unum 0 0 l = _
                rw [hun, unum, if_neg (by omega), if_neg hb]
              obtain ⟨v, hvv⟩ : ∃ x, (acc + b.toNat % 128 * 2 ^ 49) % 2 ^ 64 = x := ⟨_, rfl⟩
              rw [hvv] at hv HV HUN
              clear hvv hacc hac2 hun
              go_wp2
              refine ⟨⟨8, v, rfl, rfl, by omega, by omega, HV.out, fun h10 => by omega, HUN.out, trivial⟩, by simp [intOf]; omega⟩
          · have hv : bits .or .u64 (acc : Int) (IntKind.u64.wrap (IntKind.u64.wrap (bits .and .u8 (b.toNat : Int) 127) * 72057594037927936)) = (((acc + b.toNat % 128 * 2 ^ 56) % 2 ^ 64 : Nat) : Int) := byte_or acc 56 b hacc (by omega)
            have HV : Hid ((acc + b.toNat % 128 * 2 ^ 56) % 2 ^ 64 < 2 ^ 63) := by
              have e1 : (2 : Nat) ^ 56 = 72057594037927936 := by decide
              have e2 : (2 : Nat) ^ 63 = 9223372036854775808 := by decide
              have e3 : (2 : Nat) ^ 64 = 18446744073709551616 := by decide
              have h9 : acc < 2 ^ 56 := hacc
              show _ < _
              rw [e1, e2, e3]; rw [e1] at h9; omega
            by_cases hb : b.toNat < 128
            · have HUN : Hid (unum 0 0 l = some ((acc + b.toNat % 128 * 2 ^ 56) % 2 ^ 64, l.drop 9)) := by
                show unum 0 0 l = _
                rw [hun, unum, if_neg (by omega), if_pos hb, Nat.mod_eq_of_lt hb]
              obtain ⟨v, hvv⟩ : ∃ x, (acc + b.toNat % 128 * 2 ^ 56) % 2 ^ 64 = x := ⟨_, rfl⟩
              rw [hvv] at hv HV HUN
              have HC := Lib.hid h0
              clear hvv hacc hac2 hun
              go_wp2
              all_goals go_ret
              all_goals rw [zig_form v (Nat.lt_of_lt_of_le HV.out (by decide)), rnum_some HUN.out]
              all_goals refine ⟨rfl, ?_⟩
              all_goals rw [← rnum_some HUN.out]
              all_goals first | exact num_end HH.out HUN.out HC.out (by omega) (by omega) (by omega) (.inl ⟨rfl, by first | rfl | omega⟩) | exact num_end HH.out HUN.out HC.out (by omega) (by omega) (by omega) (.inr (.inl ⟨o, rfl, rfl⟩))
            · have HUN : Hid (unum 0 0 l = unum 9 ((acc + b.toNat % 128 * 2 ^ 56) % 2 ^ 64) (l.drop 9)) := by
                show unum 0 0 l = _
                rw [hun, unum, if_neg (by omega), if_neg hb]
              obtain ⟨v, hvv⟩ : ∃ x, (acc + b.toNat % 128 * 2 ^ 56) % 2 ^ 64 = x := ⟨_, rfl⟩
              rw [hvv] at hv HV HUN
              clear hvv hacc hac2 hun
              go_wp2
              refine ⟨⟨9, v, rfl, rfl, by omega, by omega, HV.out, fun h10 => by omega, HUN.out, trivial⟩, by simp [intOf]; omega⟩
          · have hv : bits .or .u64 (acc : Int) (IntKind.u64.wrap (IntKind.u64.wrap (bits .and .u8 (b.toNat : Int) 127) * 9223372036854775808)) = (((acc + b.toNat % 128 * 2 ^ 63) % 2 ^ 64 : Nat) : Int) := byte_or acc 63 b hacc (by omega)
            have HV : Hid ((acc + b.toNat % 128 * 2 ^ 63) % 2 ^ 64 < 2 ^ 64) := by
              exact Nat.mod_lt _ (by decide)
            by_cases hb : b.toNat < 128
            · have HUN : Hid (unum 0 0 l = some ((acc + b.toNat % 128 * 2 ^ 63) % 2 ^ 64, l.drop 10)) := by
                show unum 0 0 l = _
                rw [hun, unum, if_neg (by omega), if_pos hb, Nat.mod_eq_of_lt hb]
              obtain ⟨v, hvv⟩ : ∃ x, (acc + b.toNat % 128 * 2 ^ 63) % 2 ^ 64 = x := ⟨_, rfl⟩
              rw [hvv] at hv HV HUN
              have HC := Lib.hid h0
              clear hvv hacc hac2 hun
              go_wp2
              all_goals go_ret
              all_goals rw [zig_form v (Nat.lt_of_lt_of_le HV.out (by decide)), rnum_some HUN.out]
              all_goals refine ⟨rfl, ?_⟩
              all_goals rw [← rnum_some HUN.out]
              all_goals first | exact num_end HH.out HUN.out HC.out (by omega) (by omega) (by omega) (.inl ⟨rfl, by first | rfl | omega⟩) | exact num_end HH.out HUN.out HC.out (by omega) (by omega) (by omega) (.inr (.inl ⟨o, rfl, rfl⟩))
            · have HUN : Hid (unum 0 0 l = unum 10 ((acc + b.toNat % 128 * 2 ^ 63) % 2 ^ 64) (l.drop 10)) := by
                show unum 0 0 l = _
                rw [hun, unum, if_neg (by omega), if_neg hb]
              obtain ⟨v, hvv⟩ : ∃ x, (acc + b.toNat % 128 * 2 ^ 63) % 2 ^ 64 = x := ⟨_, rfl⟩
              rw [hvv] at hv HV HUN
              clear hvv hacc hac2 hun
              go_wp2
              refine ⟨⟨10, v, rfl, rfl, by omega, by omega, Nat.lt_of_lt_of_le HV.out (by decide), fun h10 => HV.out, HUN.out, trivial⟩, by simp [intOf]; omega⟩
        · obtain rfl : k = 10 := by omega
          have HUN : Hid (unum 0 0 l = none) := by
            show unum 0 0 l = none
            rw [hun]
            cases l.drop 10 with
            | nil => rfl
            | cons b t => rw [unum, if_pos (by omega)]
          clear hun hacc hac2
          go_wp2
          all_goals go_ret
          all_goals rw [rnum_none HUN.out]
          all_goals exact ⟨rfl, num_fail HH.out _⟩
      · have HUN : Hid (unum 0 0 l = none) := by
          show unum 0 0 l = none
          rw [hun, List.drop_of_length_le (by omega)]
          rfl
        clear hun hacc hac2
        go_wp2
        all_goals go_ret
        all_goals rw [rnum_none HUN.out]
        all_goals exact ⟨rfl, num_fail HH.out _⟩
  · cases k3

/-- A number is read. -/
theorem num_any (E : Addr) (R I : Nat) (s : St) (w : World) (h : Rd E R I w s) :
    Calls Tryd.prog 17 #[.pointer (some ⟨R, 0, none⟩)] w fun e w' => e = .returned (.int .i64 (rnum s).1) ∧ Upd (RS R) w w' ∧ Rd E R I w' (rnum s).2 := by
  obtain ⟨l, b⟩ := s
  cases b with
  | false => exact num_ok E R I l w h
  | true =>
    refine (num_err E R I l w h).mono ?_
    rintro e w' ⟨rfl, rfl⟩
    rw [rnum_bad]
    exact ⟨rfl, Upd.refl _ _, h⟩

end Go.Proofs.YtdflfcgdfbihfaaDoor

import Derived.Test.YtoffodgjpeeenaaW5
namespace Go.Proofs.Ytoffodgjpeeenaa
open Go.RowKit

/-- Does 'Yield' turn somebody out? -/
def stays (scr l : List Int) : Prop := numOf scr % 2 = 0 ∨ l = []
instance (scr l : List Int) : Decidable (stays scr l) := by unfold stays; infer_instance
def yieldAt (scr l : List Int) : Nat := (numOf scr / 2).toNat % (l.length + 1)
def yieldVal (scr l : List Int) (now : Int) : Int := if stays scr l then now else (l ++ [now]).getD (yieldAt scr l) 0
def yieldList (scr l : List Int) (now : Int) : List Int := if stays scr l then l else (l ++ [now]).eraseIdx (yieldAt scr l)

set_option maxHeartbeats 800000 in
theorem yield_even (B b : Nat) (sv lv : Value) (scr l : List Int) (now : Int) (w : World) (h : Que B w b sv lv scr l) (hs : scr.length ≤ 1000000) (he : numOf scr % 2 = 0) :
    Calls Try.prog 15 #[.pointer (some ⟨b, 0, none⟩), .int .i64 now] w fun e w' => e = .returned (.int .i64 now) ∧ After B b sv lv w w' scr.tail l := by
  have HN := Lib.hid (number B b sv lv scr l w h hs)
  have q0 := numOf_nonneg scr
  have q1 := numOf_top scr h.top
  generalize hq : numOf scr = q at HN q0 q1 he
  have e1 : (q % 2 == 0) = true := by simp [he]
  clear hq h he
  go_enter Try.func15, Try.ntmps15
  go_wp2_with fail
  refine HN.out.mono ?_
  rintro e w1 ⟨rfl, sv1, hq1, hu1, hs1⟩
  have HX : Hid (After B b sv lv w w1 scr.tail l) := ⟨sv1, _, hq1, hu1.mono (fun k _ h => .inl h), .inl rfl, hs1⟩
  clear hq1 hu1 hs1
  go_wp2
  go_ret
  exact ⟨rfl, HX.out⟩

set_option maxHeartbeats 800000 in
theorem yield_none (B b : Nat) (sv lv : Value) (scr : List Int) (now : Int) (w : World) (h : Que B w b sv lv scr []) (hs : scr.length ≤ 1000000) (he : ¬ numOf scr % 2 = 0) :
    Calls Try.prog 15 #[.pointer (some ⟨b, 0, none⟩), .int .i64 now] w fun e w' => e = .returned (.int .i64 now) ∧ After B b sv lv w w' scr.tail [] := by
  have HN := Lib.hid (number B b sv lv scr [] w h hs)
  have q0 := numOf_nonneg scr
  have q1 := numOf_top scr h.top
  obtain ⟨a, c, rfl, _, _⟩ := ownsRow_view h.ol
  generalize hq : numOf scr = q at HN q0 q1 he
  have e1 : (q % 2 == 0) = false := by simp [he]
  clear hq h he
  simp only [List.length_nil] at HN ⊢
  go_enter Try.func15, Try.ntmps15
  go_wp2_with fail
  refine HN.out.mono ?_
  rintro e w1 ⟨rfl, sv1, hq1, hu1, hs1⟩
  have k1 : w1.cell? ⟨b, 1, none⟩ = some (.slice a 0 c) := hq1.c1
  have HX : Hid (After B b sv (.slice a 0 c) w w1 scr.tail []) := ⟨sv1, _, hq1, hu1.mono (fun k _ h => .inl h), .inl rfl, hs1⟩
  clear hq1 hu1 hs1
  go_wp2
  go_ret
  exact ⟨rfl, HX.out⟩

set_option maxHeartbeats 800000 in
theorem yield_out (B b : Nat) (sv lv : Value) (scr l : List Int) (now : Int) (w : World) (h : Que B w b sv lv scr l) (hs : scr.length ≤ 1000000) (hl : l.length < 1000000) (hB : B ≤ w.heap.size) (he : ¬ numOf scr % 2 = 0) (hne : l ≠ []) :
    Calls Try.prog 15 #[.pointer (some ⟨b, 0, none⟩), .int .i64 now] w fun e w' => e = .returned (.int .i64 ((l ++ [now]).getD (yieldAt scr l) 0)) ∧ After B b sv lv w w' scr.tail ((l ++ [now]).eraseIdx (yieldAt scr l)) := by
  have HN := Lib.hid (number B b sv lv scr l w h hs)
  have q0 := numOf_nonneg scr
  have q1 := numOf_top scr h.top
  obtain ⟨g, cap, hlv, _, _⟩ := own_cells h.ol hne
  obtain ⟨n, hn⟩ : ∃ n, l.length = n + 1 := ⟨l.length - 1, by have := List.length_pos_iff.2 hne; omega⟩
  have hlen : (l ++ [now]).length = n + 1 + 1 := by simp [hn]
  have hkk : yieldAt scr l < (l ++ [now]).length := by unfold yieldAt; rw [hlen, hn]; exact Nat.mod_lt _ (by omega)
  have ek : Hid (numOf scr / 2 % ((n : Int) + 1 + 1) = ((yieldAt scr l : Nat) : Int)) := by
    unfold yieldAt
    rw [hn]
    show numOf scr / 2 % ((n : Int) + 1 + 1) = _
    obtain ⟨m, hm⟩ := Int.eq_ofNat_of_zero_le q0
    rw [hm]
    have : ((m : Int) / 2).toNat = m / 2 := by omega
    rw [this]; simp
  have HP := Lib.hid (fun sv1 w1 (hq1 : Que B w1 b sv1 lv scr.tail l) hB1 => push_q B b sv1 lv scr.tail l now w1 hq1 (Nat.le_of_lt hl) hB1)
  have HT := Lib.hid (fun sv1 lv1 w1 (hq1 : Que B w1 b sv1 lv1 scr.tail (l ++ [now])) hB1 => take_q B b sv1 lv1 scr.tail (l ++ [now]) (yieldAt scr l) w1 hq1 (by simp; omega) hB1 hkk)
  have HC := Lib.hid (fun (w1 : World) lv1 (hq1 : w1.ownsRow B 3 1 lv1 (l ++ [now]).length ((l ++ [now]).map (.int .i64))) => own_cells hq1 (by simp))
  have HL := Lib.hid hlen
  have HV := Lib.hid hlv
  have HL1 := Lib.hid hn
  have hn1 : n ≤ 1000000 := by omega
  generalize hq : numOf scr = q at HN q0 q1 he ek
  have e1 : (q % 2 == 0) = false := by simp [he]
  generalize hz : (l ++ [now]) = l2 at HP HT HC HL ⊢
  generalize hy : yieldAt scr l = y at HT ek ⊢
  clear hq h he hne hlv hn hlen hkk hl hz hy
  go_enter Try.func15, Try.ntmps15
  go_wp2_with fail
  refine HN.out.mono ?_
  rintro e w1 ⟨rfl, sv1, hq1, hu1, hs1⟩
  have k1 : w1.cell? ⟨b, 1, none⟩ = some (.slice (some ⟨g, 0, none⟩) (n + 1) cap) := by rw [hq1.c1, HV.out, HL1.out]
  have HX := Lib.hid (HP.out sv1 w1 hq1 (Nat.le_trans hB hu1.size))
  have HU := Lib.hid hu1
  have HS := Lib.hid hs1
  clear hq1 hu1 hs1
  go_wp2_with fail
  refine HX.out.mono ?_
  rintro e w2 ⟨rfl, lv2, hq2, hu2, hf2⟩
  obtain ⟨g2, cap2, hlv2, _, _⟩ := HC.out w2 lv2 hq2.ol
  have k2 : w2.cell? ⟨b, 1, none⟩ = some (.slice (some ⟨g2, 0, none⟩) (n + 1 + 1) cap2) := by rw [hq2.c1, hlv2, HL.out]
  have HY := Lib.hid (HT.out sv1 lv2 w2 hq2 (Nat.le_trans hB (Nat.le_trans HU.out.size hu2.size)))
  have HU2 := Lib.hid hu2
  have HF2 := Lib.hid hf2
  clear hq2 hu2 hf2 hlv2
  go_wp2_with fail
  rw [ek.out]
  refine HY.out.mono ?_
  rintro e w3 ⟨rfl, ha⟩
  have HA := Lib.hid ha
  clear ha
  go_wp2
  go_ret
  refine ⟨rfl, ?_⟩
  exact After.trans (HU.out.mono (fun k _ h => .inl h)) (.inl rfl) HS.out (After.trans HU2.out HF2.out rfl HA.out)

theorem yield_q (B b : Nat) (sv lv : Value) (scr l : List Int) (now : Int) (w : World) (h : Que B w b sv lv scr l) (hs : scr.length ≤ 1000000) (hl : l.length < 1000000) (hB : B ≤ w.heap.size) :
    Calls Try.prog 15 #[.pointer (some ⟨b, 0, none⟩), .int .i64 now] w fun e w' => e = .returned (.int .i64 (yieldVal scr l now)) ∧ After B b sv lv w w' scr.tail (yieldList scr l now) := by
  unfold yieldVal yieldList
  by_cases he : numOf scr % 2 = 0
  · rw [if_pos (.inl he), if_pos (.inl he)]
    exact yield_even B b sv lv scr l now w h hs he
  · by_cases hne : l = []
    · subst hne
      rw [if_pos (.inr rfl), if_pos (.inr rfl)]
      exact yield_none B b sv lv scr now w h hs he
    · have : ¬ stays scr l := fun h1 => h1.elim he hne
      rw [if_neg this, if_neg this]
      exact yield_out B b sv lv scr l now w h hs hl hB he hne

theorem own_lt {w : World} {B : Nat} {v : Value} {n : Nat} {xs : List Value} (h : w.ownsRow B 3 1 v n xs) : ∀ k, v.ownBlock = some k → B ≤ k ∧ k < w.heap.size := by
  intro k hk
  rcases h.2 with ⟨rfl, _⟩ | ⟨g, cap, cur, rfl, hb, hg, _⟩
  · simp [Value.ownBlock] at hk
  · simp [Value.ownBlock] at hk
    exact ⟨by omega, hk ▸ (Array.getElem?_eq_some_iff.1 hg).1⟩

set_option maxHeartbeats 800000 in
theorem new_q (B : Nat) (v : Value) (scr : List Int) (w : World) (h : View w v scr) (hs : scr.length ≤ 1000000) (htop : ∀ x ∈ scr, x ≤ 9223372036854775807) :
    Calls Try.prog 8 #[v] w fun e w' => ∃ b sv, e = .returned (.pointer (some ⟨b, 0, none⟩)) ∧ Que B w' b sv (.slice none 0 0) scr [] ∧ Upd (fun _ => False) w w' ∧ w.heap.size ≤ b ∧ (∀ k, sv.ownBlock = some k → w.heap.size ≤ k) := by
  have HC := Lib.hid (clone_view v scr w h hs)
  obtain ⟨a, c, rfl, _, _⟩ := h
  have HT := Lib.hid htop
  clear htop
  go_enter Try.func8, Try.ntmps8
  go_wp2_with fail
  refine HC.out.mono ?_
  rintro e w1 ⟨v1, rfl, ho, hb⟩
  have HO := Lib.hid ho
  have HB := Lib.hid hb
  clear ho
  obtain ⟨a1, n1, c1, hv1⟩ : ∃ a n c, v1 = .slice a n c := by
    obtain ⟨a, c, h, _⟩ := ownsRow_view HO.out
    exact ⟨a, _, c, h⟩
  subst hv1
  go_wp2
  go_ret
  have hsz := HB.out.size
  refine ⟨w1.heap.size, .slice a1 n1 c1, rfl, ⟨?_, ?_, World.ownsRow_nil _ _ _ _, ?_, ?_, ?_, HT.out, ?_⟩, ?_, hsz, fun k hk => (own_lt HO.out k hk).1⟩
  · exact heap_alloc_new w1 _
  · exact (ownsRow_view HO.out).upd (Upd.alloc (fun _ => False) w1 _) (fun _ _ h => h)
  · simp [Value.ownBlock]
  · intro e; have := (own_lt HO.out _ e).2; omega
  · intro k _ e; simp [Value.ownBlock] at e
  · intro k hk; have := (own_lt HO.out k hk).2; simp; omega
  · refine Upd.trans (S := fun _ => False) ⟨hb.os, hb.tape, hb.output, hb.size, fun k hk _ => hb.block k hk⟩ (Upd.alloc (fun _ => False) w1 _) (fun _ _ h => h)

end Go.Proofs.Ytoffodgjpeeenaa

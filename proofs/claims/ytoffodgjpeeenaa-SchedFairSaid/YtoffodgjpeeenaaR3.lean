import Derived.Test.YtoffodgjpeeenaaR2
namespace Go.Proofs.Ytoffodgjpeeenaa
open Go.RowKit

theorem RAfter.trans {B b n : Nat} {sv lv lv1 : Value} {w w1 w' : World} {S l' : List Int} (hu : Upd (QS b lv) w w1) (hf : Fresh w lv lv1) (h : RAfter B b sv lv1 w1 w' S n l') : RAfter B b sv lv w w' S n l' := by
  obtain ⟨lv', hq, hu2, hf2⟩ := h
  refine ⟨lv', hq, hu.trans hu2 (fun k hk hx => ?_), ?_⟩
  · rcases hx with h | h
    · exact .inl h
    · rcases hf with e | e
      · exact .inr (e ▸ h)
      · have := e k h; omega
  · rcases hf2 with e | e
    · rcases hf with e1 | e1
      · exact .inl (e.trans e1)
      · exact .inr fun k hk => e1 k (e ▸ hk)
    · exact .inr fun k hk => Nat.le_trans hu.size (e k hk)

theorem out_q (B b at_ : Nat) (sv lv : Value) (S l : List Int) (k : Nat) (w : World) (h : RQ B w b sv lv S at_ l) (hl : l.length ≤ 1000000) (hB : B ≤ w.heap.size) (hk : k < l.length) :
    Calls Try.prog 21 #[.pointer (some ⟨b, 0, none⟩), .int .i64 k] w fun e w' => e = .returned (.int .i64 (l.getD k 0)) ∧ RAfter B b sv lv w w' S at_ (l.eraseIdx k) := by
  obtain ⟨g, cap, rfl, hg, hc⟩ := own_cells h.ol (by intro e; simp [e] at hk)
  refine (out_walk b g cap l k (l.getD k 0) w hl hk h.lt hg h.c2 (h.fr 2) ?_ hc).mono ?_
  · rw [hc k hk]; simp [List.getD, List.getElem?_eq_getElem hk]
  rintro e w' ⟨rfl, w1, a, n, c, ho, hb, rfl⟩
  have hown := own_lt ho
  have hu : Upd (fun _ => False) w w1 := ⟨hb.os, hb.tape, hb.output, hb.size, fun k hk _ => hb.block k hk⟩
  have hus := Upd.setCell (S := fun k => k = b) w1 ⟨b, 2, none⟩ (.slice a n c) rfl
  have hlt := h.lt
  refine ⟨rfl, .slice a n c, ⟨?_, (h.vs.upd hu (fun _ _ h => h)).updne hus (fun hne k hk e => by have := h.sx hne k hk; have := h.bb; omega), h.le, ?_, ?_, h.bb, h.top, h.sx⟩, ?_, ?_⟩
  · have := (hu.block b h.lt (fun h => h)).trans h.hb
    simp only [World.setCell, Array.getElem?_modify, this]; simp
  · have h2 := ownsRow_upd ho hus (fun k hk e => by have := (hown k hk).1; omega)
    refine ⟨h2.1, ?_⟩
    rcases h2.2 with h3 | ⟨g', c', cur, h3, h4, h5⟩
    · exact .inl h3
    · exact .inr ⟨g', c', cur, h3, by omega, h5⟩
  · intro e; have := (hown b e).1; omega
  · exact Upd.trans (S := QS b (.slice (some ⟨g, 0, none⟩) l.length cap)) (hu.mono (fun k _ h => h.elim)) hus (fun k _ h => .inl h)
  · exact .inr fun k hk => (hown k hk).1

set_option maxHeartbeats 800000 in
theorem rnext_q (B b at_ : Nat) (sv lv : Value) (S l : List Int) (w : World) (h : RQ B w b sv lv S at_ l) (hs : S.length ≤ 1000000) (hl : l.length ≤ 1000000) (hB : B ≤ w.heap.size) :
    Calls Try.prog 12 #[.pointer (some ⟨b, 0, none⟩)] w fun e w' => e = .returned (.tuple #[.int .i64 (nextVal (S.drop at_) l), .bool (decide (l ≠ []))]) ∧
      ∃ n, S.drop n = (S.drop at_).tail ∧ RAfter B b sv lv w w' S n (nextList (S.drop at_) l) := by
  have HN := Lib.hid (rnumber w h hs)
  have q0 := numOf_nonneg (S.drop at_)
  have q1 := numOf_top (S.drop at_) (fun x hx => h.top x (List.mem_of_mem_drop hx))
  generalize hd : S.drop at_ = scr at HN q0 q1 ⊢
  by_cases hne : l = []
  · subst hne
    obtain ⟨a, c, rfl, _, _⟩ := ownsRow_view h.ol
    simp only [List.length_nil] at h HN hB hl ⊢
    clear h hl hd
    generalize hq : numOf scr = q at HN q0 q1
    clear hq
    go_enter Try.func12, Try.ntmps12
    go_wp2_with fail
    refine HN.out.mono ?_
    rintro e w1 ⟨rfl, n1, hn1, hq1, hu1⟩
    have k1 : w1.cell? ⟨b, 2, none⟩ = some (.slice a 0 c) := hq1.c2
    have HX : Hid (∃ n, S.drop n = scr.tail ∧ RAfter B b sv (.slice a 0 c) w w1 S n []) := ⟨n1, hn1, _, hq1, hu1.mono (fun k _ h => .inl h), .inl rfl⟩
    clear hq1 hu1 hn1
    go_wp2
    go_ret2
    exact ⟨by simp [nextVal], by simpa [nextList] using HX.out⟩
  · obtain ⟨g, cap, rfl, hg, hc⟩ := own_cells h.ol hne
    obtain ⟨n, hn⟩ : ∃ n, l.length = n + 1 := ⟨l.length - 1, by have := List.length_pos_iff.2 hne; omega⟩
    have HT := Lib.hid (fun n1 w1 (hq1 : RQ B w1 b sv (.slice (some ⟨g, 0, none⟩) l.length cap) S n1 l) hB1 => out_q B b n1 sv _ S l (nextAt scr l) w1 hq1 hl hB1 (by unfold nextAt; exact Nat.mod_lt _ (by omega)))
    have ek : Hid (numOf scr % ((n : Int) + 1) = ((nextAt scr l : Nat) : Int)) := by
      unfold nextAt
      rw [hn]
      show numOf scr % ((n : Int) + 1) = _
      obtain ⟨m, hm⟩ := Int.eq_ofNat_of_zero_le q0
      rw [hm]; simp
    have HL := Lib.hid hn
    have hn1 : n ≤ 1000000 := by omega
    have HNE := Lib.hid hne
    clear h hl hc hg hn hne hd
    generalize hq : numOf scr = q at HN q0 q1 ek
    clear hq
    go_enter Try.func12, Try.ntmps12
    go_wp2_with fail
    refine HN.out.mono ?_
    rintro e w1 ⟨rfl, n1, hd1, hq1, hu1⟩
    have k1 : w1.cell? ⟨b, 2, none⟩ = some (.slice (some ⟨g, 0, none⟩) (n + 1) cap) := by rw [← HL.out]; exact hq1.c2
    have HX := Lib.hid (HT.out n1 w1 hq1 (Nat.le_trans hB hu1.size))
    have HU := Lib.hid hu1
    have HD := Lib.hid hd1
    clear hq1 hu1 hd1
    go_wp2_with fail
    rw [ek.out]
    refine HX.out.mono ?_
    rintro e w2 ⟨rfl, ha⟩
    have HA := Lib.hid ha
    clear ha
    go_wp2
    go_ret2
    refine ⟨?_, n1, HD.out, ?_⟩
    · simp [nextVal, HNE.out]
    · have := RAfter.trans (lv := .slice (some ⟨g, 0, none⟩) l.length cap) (HU.out.mono (fun k _ h => .inl h)) (.inl rfl) HA.out
      simpa [nextList, HNE.out] using this

end Go.Proofs.Ytoffodgjpeeenaa

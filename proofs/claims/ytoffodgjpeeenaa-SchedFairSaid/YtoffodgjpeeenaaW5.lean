import Derived.Test.YtoffodgjpeeenaaW4
namespace Go.Proofs.Ytoffodgjpeeenaa
open Go.RowKit

/-- A row that holds something: its value and its cells. -/
theorem own_cells {w : World} {B : Nat} {v : Value} {l : List Int} (h : w.ownsRow B 3 1 v l.length (l.map (.int .i64))) (hne : l ≠ []) :
    ∃ g cap, v = .slice (some ⟨g, 0, none⟩) l.length cap ∧ g < w.heap.size ∧ ∀ k (hk : k < l.length), w.cell? ⟨g, k, none⟩ = some (.int .i64 l[k]) := by
  have hc := fun g => h.cells (g := g)
  rcases h.2 with ⟨_, h⟩ | ⟨g, cap, cur, rfl, hb, hg, _⟩
  · exact absurd (List.length_eq_zero_iff.1 h) hne
  · refine ⟨g, cap, rfl, (Array.getElem?_eq_some_iff.1 hg).1, fun k hk => ?_⟩
    have h1 := hc g rfl k (.int .i64 l[k]) (by simp [List.getElem?_eq_getElem hk])
    rw [Addr.add_lit] at h1
    simpa using h1

theorem After.of_store {B b g cap : Nat} {sv lv : Value} {scr l l' : List Int} {w w1 : World} (h : Que B w b sv lv scr l) (hB : B ≤ w.heap.size)
    (ho : w1.ownsRow w.heap.size 3 1 (.slice (some ⟨g, 0, none⟩) l'.length cap) l'.length (l'.map (.int .i64))) (hu : Upd (fun _ => False) w w1) (hg : w.heap.size ≤ g) :
    After B b sv lv w (w1.setCell ⟨b, 1, none⟩ (.slice (some ⟨g, 0, none⟩) l'.length cap)) scr l' := by
  have hgb : g ≠ b := by have := h.lt; omega
  have hus := Upd.setCell (S := fun k => k = b) w1 ⟨b, 1, none⟩ (.slice (some ⟨g, 0, none⟩) l'.length cap) rfl
  have hv1 := h.vs.upd hu (fun _ _ h => h)
  refine ⟨sv, .slice (some ⟨g, 0, none⟩) l'.length cap, ⟨?_, hv1.upd hus (fun k hk e => h.sb (e ▸ hk)), ?_, ?_, h.sb, ?_, h.top, fun k hk => Nat.lt_of_lt_of_le (h.sx k hk) (Nat.le_trans hu.size hus.size)⟩, ?_, ?_, rfl⟩
  · have := (hu.block b h.lt (fun h => h)).trans h.hb
    simp only [World.setCell, Array.getElem?_modify, this]; simp
  · have h2 := ownsRow_upd ho hus (fun k hk e => hgb (by simp [Value.ownBlock] at hk; omega))
    refine ⟨h2.1, ?_⟩
    rcases h2.2 with h3 | ⟨g', c', cur, h3, h4, h5⟩
    · exact .inl h3
    · exact .inr ⟨g', c', cur, h3, by omega, h5⟩
  · simpa [Value.ownBlock] using hgb
  · intro k hk hk2
    simp only [Value.ownBlock, Option.some.injEq] at hk2
    have := h.sx k hk
    omega
  · exact Upd.trans (S := QS b lv) (hu.mono (fun k _ h => h.elim)) hus (fun k _ h => .inl h)
  · exact .inr fun k hk => by simp [Value.ownBlock] at hk; omega

theorem take_q (B b : Nat) (sv lv : Value) (scr l : List Int) (k : Nat) (w : World) (h : Que B w b sv lv scr l) (hl : l.length ≤ 1000000) (hB : B ≤ w.heap.size) (hk : k < l.length) :
    Calls Try.prog 19 #[.pointer (some ⟨b, 0, none⟩), .int .i64 k] w fun e w' => e = .returned (.int .i64 (l.getD k 0)) ∧ After B b sv lv w w' scr (l.eraseIdx k) := by
  obtain ⟨g, cap, rfl, hg, hc⟩ := own_cells h.ol (by intro e; simp [e] at hk)
  refine (take_walk b g cap l k (l.getD k 0) w hl hk h.lt h.c1 h.f1 ?_ (cut_of _ l k w (ownsRow_view h.ol) hl hk)).mono ?_
  · rw [hc k hk]; simp [List.getD, List.getElem?_eq_getElem hk]
  · rintro e w' ⟨rfl, w1, g2, cap2, ho, hu, hg2, rfl⟩
    exact ⟨rfl, After.of_store h hB ho hu hg2⟩

/-- What 'Next' answers, and what it leaves. -/
def nextAt (scr l : List Int) : Nat := (numOf scr).toNat % l.length
def nextVal (scr l : List Int) : Int := if l = [] then 0 else l.getD (nextAt scr l) 0
def nextList (scr l : List Int) : List Int := if l = [] then [] else l.eraseIdx (nextAt scr l)

theorem After.trans {B b : Nat} {sv lv : Value} {w w1 w' : World} {scr' l' : List Int} {sv1 lv1 : Value} (hu : Upd (QS b lv) w w1) (hf : Fresh w lv lv1) (hs : sv1.ownBlock = sv.ownBlock) (h : After B b sv1 lv1 w1 w' scr' l') :
    After B b sv lv w w' scr' l' := by
  obtain ⟨sv', lv', hq, hu2, hf2, hs2⟩ := h
  refine ⟨sv', lv', hq, hu.trans hu2 (fun k hk hx => ?_), ?_, hs2.trans hs⟩
  · rcases hx with h | h
    · exact .inl h
    · rcases hf with e | e
      · exact .inr (e ▸ h)
      · have := e k h; omega
  · rcases hf2 with e | e
    · rcases hf with e1 | e1
      · exact .inl (e.trans e1)
      · exact .inr fun k hk => e1 k (e ▸ hk)
    · exact .inr fun k hk => Nat.le_trans hu.size (e k hk)

set_option maxHeartbeats 800000 in
theorem next_q (B b : Nat) (sv lv : Value) (scr l : List Int) (w : World) (h : Que B w b sv lv scr l) (hs : scr.length ≤ 1000000) (hl : l.length ≤ 1000000) (hB : B ≤ w.heap.size) :
    Calls Try.prog 11 #[.pointer (some ⟨b, 0, none⟩)] w fun e w' => e = .returned (.tuple #[.int .i64 (nextVal scr l), .bool (decide (l ≠ []))]) ∧ After B b sv lv w w' scr.tail (nextList scr l) := by
  have HN := Lib.hid (number B b sv lv scr l w h hs)
  have q0 := numOf_nonneg scr
  have q1 := numOf_top scr h.top
  by_cases hne : l = []
  · subst hne
    obtain ⟨a, c, rfl, _, _⟩ := ownsRow_view h.ol
    simp only [List.length_nil] at h HN hB hl ⊢
    have HH := Lib.hid h
    clear h hl
    generalize hq : numOf scr = q at HN q0 q1
    have HQ := Lib.hid hq
    clear hq
    go_enter Try.func11, Try.ntmps11
    go_wp2_with fail
    refine HN.out.mono ?_
    rintro e w1 ⟨rfl, sv1, hq1, hu1, hs1⟩
    have k1 : w1.cell? ⟨b, 1, none⟩ = some (.slice a 0 c) := hq1.c1
    have HX : Hid (After B b sv (.slice a 0 c) w w1 scr.tail []) := ⟨sv1, _, hq1, hu1.mono (fun k _ h => .inl h), .inl rfl, hs1⟩
    clear hq1 hu1 hs1
    go_wp2
    go_ret2
    exact ⟨by simp [nextVal], by simpa [nextList] using HX.out⟩
  · obtain ⟨g, cap, rfl, hg, hc⟩ := own_cells h.ol hne
    obtain ⟨n, hn⟩ : ∃ n, l.length = n + 1 := ⟨l.length - 1, by have := List.length_pos_iff.2 hne; omega⟩
    have HT := Lib.hid (fun sv1 w1 (hq1 : Que B w1 b sv1 (.slice (some ⟨g, 0, none⟩) l.length cap) scr.tail l) hB1 => take_q B b sv1 _ scr.tail l (nextAt scr l) w1 hq1 hl hB1 (by unfold nextAt; exact Nat.mod_lt _ (by omega)))
    have HH := Lib.hid h
    have ek : Hid (numOf scr % ((n : Int) + 1) = ((nextAt scr l : Nat) : Int)) := by
      unfold nextAt
      rw [hn]
      show numOf scr % ((n : Int) + 1) = _
      obtain ⟨m, hm⟩ := Int.eq_ofNat_of_zero_le q0
      rw [hm]; simp
    have HL := Lib.hid hn
    have hn1 : n ≤ 1000000 := by omega
    have HNE := Lib.hid hne
    clear h hl hc hg hn hne
    generalize hq : numOf scr = q at HN q0 q1 ek
    clear hq
    go_enter Try.func11, Try.ntmps11
    go_wp2_with fail
    refine HN.out.mono ?_
    rintro e w1 ⟨rfl, sv1, hq1, hu1, hs1⟩
    have k1 : w1.cell? ⟨b, 1, none⟩ = some (.slice (some ⟨g, 0, none⟩) (n + 1) cap) := by rw [← HL.out]; exact hq1.c1
    have HX := Lib.hid (HT.out sv1 w1 hq1 (Nat.le_trans hB hu1.size))
    have HU := Lib.hid hu1
    have HS := Lib.hid hs1
    clear hq1 hu1 hs1
    go_wp2_with fail
    rw [ek.out]
    refine HX.out.mono ?_
    rintro e w2 ⟨rfl, ha⟩
    have HA := Lib.hid ha
    clear ha
    go_wp2
    go_ret2
    refine ⟨?_, ?_⟩
    · simp [nextVal, HNE.out]
    · have := After.trans (sv := sv) (lv := .slice (some ⟨g, 0, none⟩) l.length cap) (HU.out.mono (fun k _ h => .inl h)) (.inl rfl) HS.out HA.out
      simpa [nextList, HNE.out] using this

end Go.Proofs.Ytoffodgjpeeenaa

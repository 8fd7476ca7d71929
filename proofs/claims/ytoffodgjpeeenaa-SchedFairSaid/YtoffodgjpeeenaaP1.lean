import Derived.Test.YtoffodgjpeeenaaL2
namespace Go.Proofs.Ytoffodgjpeeenaa
open Go.RowKit

/-- Is there anybody? -/
def okB (l : List Int) : Bool := decide (l ≠ [])
theorem okB_nil : okB [] = false := rfl
theorem okB_ne {l : List Int} (h : l ≠ []) : okB l = true := by simp [okB, h]

/-- Both queues, apart from each other, and what has been written since 'w0'; beside them a block that neither touches. -/
def PairX (bx : Option (Nat × Obj)) (B : Nat) (w0 w : World) (b rb : Nat) (scr l scr2 l2 : List Int) : Prop :=
  B ≤ b ∧ UpB B w0 w ∧ B ≤ w.heap.size ∧ b ≠ rb ∧ ∃ sv lv Sv Lv S n, S.drop n = scr2 ∧ S.length ≤ 1000 ∧ Que B w b sv lv scr l ∧ RQ B w rb Sv Lv S n l2 ∧
    lv.ownBlock ≠ some rb ∧ Lv.ownBlock ≠ some b ∧ (∀ k, lv.ownBlock = some k → Lv.ownBlock ≠ some k) ∧ sv.ownBlock ≠ some rb ∧ (∀ k, sv.ownBlock = some k → Lv.ownBlock ≠ some k) ∧
    ∀ c o, bx = some (c, o) → w.heap[c]? = some o ∧ c ≠ b ∧ c ≠ rb ∧ lv.ownBlock ≠ some c ∧ Lv.ownBlock ≠ some c

abbrev Pair := PairX none

theorem PairX.q {bx : Option (Nat × Obj)} {B : Nat} {w0 w : World} {b rb : Nat} {scr l scr2 l2 : List Int} (h : PairX bx B w0 w b rb scr l scr2 l2) :
    ∃ sv lv, Que B w b sv lv scr l ∧ B ≤ w.heap.size ∧ ∀ w' scr' l', After B b sv lv w w' scr' l' → PairX bx B w0 w' b rb scr' l' scr2 l2 := by
  obtain ⟨hb, hu, hB, hne, sv, lv, Sv, Lv, S, n, hd, hS, hq, hr, d1, d2, d3, d4, d5, d6⟩ := h
  refine ⟨sv, lv, hq, hB, fun w' scr' l' ha => ?_⟩
  obtain ⟨sv', lv', hq2, hu2, hf2, hs2⟩ := ha
  have hLlt : ∀ k, Lv.ownBlock = some k → k < w.heap.size := fun k hk => (own_lt hr.ol k hk).2
  have hr2 := hr.upd hu2 (fun h => h.elim (fun h => hne h.symm) (fun h => d1 h)) (fun k h => h.elim (fun h => h ▸ hb) (fun h => (own_lt hq.ol k h).1)) (fun k hk h => h.elim (fun h => d2 (h ▸ hk)) (fun h => d3 k h hk))
  refine ⟨hb, hu.next (UpB.row hu2 hb hq.ol), Nat.le_trans hB hu2.size, hne, sv', lv', Sv, Lv, S, n, hd, hS, hq2, hr2, ?_, d2, ?_, ?_, ?_, ?_⟩
  · rcases hf2 with e | e
    · rw [e]; exact d1
    · intro e2; have := e rb e2; have := hr.lt; omega
  · intro k hk hk2
    rcases hf2 with e | e
    · exact d3 k (e ▸ hk) hk2
    · have := e k hk; have := hLlt k hk2; omega
  · rw [hs2]; exact d4
  · intro k hk; exact d5 k (hs2 ▸ hk)
  · intro c o hc
    obtain ⟨g1, g2, g3, g4, g5⟩ := d6 c o hc
    have hlt := (Array.getElem?_eq_some_iff.1 g1).1
    refine ⟨(hu2.block c hlt (fun h => h.elim (fun h => g2 h) (fun h => g4 h))).trans g1, g2, g3, ?_, g5⟩
    rcases hf2 with e | e
    · rw [e]; exact g4
    · intro e2; have := e c e2; omega

theorem PairX.r {bx : Option (Nat × Obj)} {B : Nat} {w0 w : World} {b rb : Nat} {scr l scr2 l2 : List Int} (h : PairX bx B w0 w b rb scr l scr2 l2) :
    ∃ Sv Lv S n, S.drop n = scr2 ∧ S.length ≤ 1000 ∧ RQ B w rb Sv Lv S n l2 ∧ B ≤ w.heap.size ∧ ∀ w' n' l', RAfter B rb Sv Lv w w' S n' l' → PairX bx B w0 w' b rb scr l (S.drop n') l' := by
  obtain ⟨hb, hu, hB, hne, sv, lv, Sv, Lv, S, n, hd, hS, hq, hr, d1, d2, d3, d4, d5, d6⟩ := h
  refine ⟨Sv, Lv, S, n, hd, hS, hr, hB, fun w' n' l' ha => ?_⟩
  obtain ⟨Lv', hr2, hu2, hf2⟩ := ha
  have hllt : ∀ k, lv.ownBlock = some k → k < w.heap.size := fun k hk => (own_lt hq.ol k hk).2
  have hq2 := hq.upd hu2 (fun h => h.elim (fun h => hne h) (fun h => d2 h)) (fun k hk h => h.elim (fun h => d4 (h ▸ hk)) (fun h => d5 k hk h)) (fun k hk h => h.elim (fun h => d1 (h ▸ hk)) (fun h => d3 k hk h))
  refine ⟨hb, hu.next (UpB.row hu2 hr.bb hr.ol), Nat.le_trans hB hu2.size, hne, sv, lv, Sv, Lv', S, n', rfl, hS, hq2, hr2, d1, ?_, ?_, d4, ?_, ?_⟩
  · rcases hf2 with e | e
    · rw [e]; exact d2
    · intro e2; have := e b e2; have := hq.lt; omega
  · intro k hk hk2
    rcases hf2 with e | e
    · exact d3 k hk (e ▸ hk2)
    · have := e k hk2; have := hllt k hk; omega
  · intro k hk hk2
    rcases hf2 with e | e
    · exact d5 k hk (e ▸ hk2)
    · have := e k hk2; have := hq.sx k hk; omega
  · intro c o hc
    obtain ⟨g1, g2, g3, g4, g5⟩ := d6 c o hc
    have hlt := (Array.getElem?_eq_some_iff.1 g1).1
    refine ⟨(hu2.block c hlt (fun h => h.elim (fun h => g3 h) (fun h => g5 h))).trans g1, g2, g3, g4, ?_⟩
    rcases hf2 with e | e
    · rw [e]; exact g5
    · intro e2; have := e c e2; omega

/-- What is new leaves both as they are. -/
theorem PairX.up {bx : Option (Nat × Obj)} {B : Nat} {w0 w w' : World} {b rb : Nat} {scr l scr2 l2 : List Int} (h : PairX bx B w0 w b rb scr l scr2 l2) (hu2 : UpB w.heap.size w w') : PairX bx B w0 w' b rb scr l scr2 l2 := by
  obtain ⟨hb, hu, hB, hne, sv, lv, Sv, Lv, S, n, hd, hS, hq, hr, d1, d2, d3, d4, d5, d6⟩ := h
  refine ⟨hb, hu.next (hu2.mono (fun k _ h => Nat.le_trans hB h)), Nat.le_trans hB hu2.size, hne, sv, lv, Sv, Lv, S, n, hd, hS, ?_, ?_, d1, d2, d3, d4, d5, fun c o hc => ?_⟩
  · exact hq.upd hu2 (by have := hq.lt; omega) (fun k hk => by have := hq.sx k hk; omega) (fun k hk => by have := (own_lt hq.ol k hk).2; omega)
  · exact hr.upd hu2 (by have := hr.lt; omega) (fun k h => Nat.le_trans hB h) (fun k hk => by have := (own_lt hr.ol k hk).2; omega)
  · obtain ⟨g1, g2⟩ := d6 c o hc
    have hlt := (Array.getElem?_eq_some_iff.1 g1).1
    exact ⟨(hu2.block c hlt (by omega)).trans g1, g2⟩

/-- A new block, kept beside both. -/
theorem PairX.box {B : Nat} {w0 w : World} {b rb : Nat} {scr l scr2 l2 : List Int} {bx : Option (Nat × Obj)} (h : PairX bx B w0 w b rb scr l scr2 l2) (o : Obj) : PairX (some (w.heap.size, o)) B w0 (w.alloc o) b rb scr l scr2 l2 := by
  obtain ⟨hb, hu, hB, hne, sv, lv, Sv, Lv, S, n, hd, hS, hq, hr, d1, d2, d3, d4, d5, d6⟩ := h.up (Upd.alloc _ w o)
  obtain ⟨_, _, _, _, sv', lv', Sv', Lv', S', n', _, _, hq', hr', _⟩ := h
  have e1 : sv' = sv ∧ lv' = lv := by
    have := hq'.hb; rw [← Below.heap_alloc w o b hq'.lt, hq.hb] at this
    simp at this; exact ⟨this.1.symm, this.2.symm⟩
  have e2 : Lv' = Lv := by
    have := hr'.hb; rw [← Below.heap_alloc w o rb hr'.lt, hr.hb] at this
    simp at this; exact this.2.2.symm
  refine ⟨hb, hu, hB, hne, sv, lv, Sv, Lv, S, n, hd, hS, hq, hr, d1, d2, d3, d4, d5, fun c o' hc => ?_⟩
  simp only [Option.some.injEq, Prod.mk.injEq] at hc
  obtain ⟨rfl, rfl⟩ := hc
  have := hq'.lt
  have := hr'.lt
  refine ⟨heap_alloc_new w o, by omega, by omega, fun e => ?_, fun e => ?_⟩
  · have := (own_lt hq'.ol w.heap.size (by rw [e1.2]; exact e)).2; omega
  · have := (own_lt hr'.ol w.heap.size (by rw [e2]; exact e)).2; omega

theorem PairX.unbox {B : Nat} {w0 w : World} {b rb : Nat} {scr l scr2 l2 : List Int} {bx : Option (Nat × Obj)} (h : PairX bx B w0 w b rb scr l scr2 l2) : Pair B w0 w b rb scr l scr2 l2 := by
  obtain ⟨hb, hu, hB, hne, sv, lv, Sv, Lv, S, n, hd, hS, hq, hr, d1, d2, d3, d4, d5, d6⟩ := h
  exact ⟨hb, hu, hB, hne, sv, lv, Sv, Lv, S, n, hd, hS, hq, hr, d1, d2, d3, d4, d5, fun _ _ h => by cases h⟩

theorem PairX.kept {B : Nat} {w0 w : World} {b rb : Nat} {scr l scr2 l2 : List Int} {c : Nat} {o : Obj} (h : PairX (some (c, o)) B w0 w b rb scr l scr2 l2) : w.heap[c]? = some o := by
  obtain ⟨hb, hu, hB, hne, sv, lv, Sv, Lv, S, n, hd, hS, hq, hr, d1, d2, d3, d4, d5, d6⟩ := h
  exact (d6 c o rfl).1

section
variable {bx : Option (Nat × Obj)} {B : Nat} {w0 w : World} {b rb : Nat} {scr l scr2 l2 : List Int}

theorem pair_push (id : Int) (h : PairX bx B w0 w b rb scr l scr2 l2) (hl : l.length ≤ 1000000) :
    Calls Try.prog 9 #[.pointer (some ⟨b, 0, none⟩), .int .i64 id] w fun e w' => e = .returned (.tuple #[]) ∧ Hid (PairX bx B w0 w' b rb scr (l ++ [id]) scr2 l2) := by
  obtain ⟨sv, lv, hq, hB, hK⟩ := h.q
  refine (push_q B b sv lv scr l id w hq hl hB).mono ?_
  rintro e w' ⟨rfl, lv', hq2, hu2, hf⟩
  exact ⟨rfl, hK _ _ _ ⟨sv, lv', hq2, hu2, hf, rfl⟩⟩

theorem pair_number (h : PairX bx B w0 w b rb scr l scr2 l2) (hs : scr.length ≤ 1000000) :
    Calls Try.prog 17 #[.pointer (some ⟨b, 0, none⟩)] w fun e w' => e = .returned (.int .i64 (numOf scr)) ∧ Hid (PairX bx B w0 w' b rb scr.tail l scr2 l2) := by
  obtain ⟨sv, lv, hq, hB, hK⟩ := h.q
  refine (number B b sv lv scr l w hq hs).mono ?_
  rintro e w' ⟨rfl, sv', hq2, hu2, hs2⟩
  exact ⟨rfl, hK _ _ _ ⟨sv', lv, hq2, hu2.mono (fun k _ h => .inl h), .inl rfl, hs2⟩⟩

theorem pair_next (h : PairX bx B w0 w b rb scr l scr2 l2) (hs : scr.length ≤ 1000000) (hl : l.length ≤ 1000000) :
    Calls Try.prog 11 #[.pointer (some ⟨b, 0, none⟩)] w fun e w' => e = .returned (.tuple #[.int .i64 (nextVal scr l), .bool (okB l)]) ∧ Hid (PairX bx B w0 w' b rb scr.tail (nextList scr l) scr2 l2) := by
  obtain ⟨sv, lv, hq, hB, hK⟩ := h.q
  refine (next_q B b sv lv scr l w hq hs hl hB).mono ?_
  rintro e w' ⟨rfl, ha⟩
  exact ⟨rfl, hK _ _ _ ha⟩

theorem pair_yield (now : Int) (h : PairX bx B w0 w b rb scr l scr2 l2) (hs : scr.length ≤ 1000000) (hl : l.length < 1000000) :
    Calls Try.prog 15 #[.pointer (some ⟨b, 0, none⟩), .int .i64 now] w fun e w' => e = .returned (.int .i64 (yieldVal scr l now)) ∧ Hid (PairX bx B w0 w' b rb scr.tail (yieldList scr l now) scr2 l2) := by
  obtain ⟨sv, lv, hq, hB, hK⟩ := h.q
  refine (yield_q B b sv lv scr l now w hq hs hl hB).mono ?_
  rintro e w' ⟨rfl, ha⟩
  exact ⟨rfl, hK _ _ _ ha⟩

theorem pair_len (h : PairX bx B w0 w b rb scr l scr2 l2) :
    Calls Try.prog 16 #[.pointer (some ⟨b, 0, none⟩)] w fun e w' => e = .returned (.int .i64 l.length) ∧ w' = w := by
  obtain ⟨sv, lv, hq, _⟩ := h.q
  exact len_q B b sv lv scr l w hq

theorem pair_list (h : PairX bx B w0 w b rb scr l scr2 l2) (hl : l.length ≤ 1000000) :
    Calls Try.prog 10 #[.pointer (some ⟨b, 0, none⟩)] w fun e w' => ∃ v, e = .returned v ∧ Hid (w'.ownsRow w.heap.size 3 1 v l.length (l.map (.int .i64)) ∧ Below w.heap.size w w' ∧ PairX bx B w0 w' b rb scr l scr2 l2) := by
  obtain ⟨sv, lv, hq, hB, hK⟩ := h.q
  refine (list_q B b sv lv scr l w hq hl).mono ?_
  rintro e w' ⟨v, rfl, ho, hbel⟩
  exact ⟨v, rfl, ho, hbel, h.up (Upd.below hbel)⟩

theorem pair_rnumber (h : PairX bx B w0 w b rb scr l scr2 l2) :
    Calls Try.prog 20 #[.pointer (some ⟨rb, 0, none⟩)] w fun e w' => e = .returned (.int .i64 (numOf scr2)) ∧ Hid (PairX bx B w0 w' b rb scr l scr2.tail l2) := by
  obtain ⟨Sv, Lv, S, n, hd, hS, hr, hB, hK⟩ := h.r
  subst hd
  refine (rnumber w hr (by omega)).mono ?_
  rintro e w' ⟨rfl, n', hd, hr2, hu2⟩
  refine ⟨rfl, ?_⟩
  rw [← hd]
  exact hK _ _ _ ⟨Lv, hr2, hu2.mono (fun k _ h => .inl h), .inl rfl⟩

theorem pair_rnext (h : PairX bx B w0 w b rb scr l scr2 l2) (hl : l2.length ≤ 1000000) :
    Calls Try.prog 12 #[.pointer (some ⟨rb, 0, none⟩)] w fun e w' => e = .returned (.tuple #[.int .i64 (nextVal scr2 l2), .bool (okB l2)]) ∧ Hid (PairX bx B w0 w' b rb scr l scr2.tail (nextList scr2 l2)) := by
  obtain ⟨Sv, Lv, S, n, hd, hS, hr, hB, hK⟩ := h.r
  subst hd
  refine (rnext_q B rb n Sv Lv S l2 w hr (by omega) hl hB).mono ?_
  rintro e w' ⟨rfl, n', hd, ha⟩
  refine ⟨rfl, ?_⟩
  rw [← hd]
  exact hK _ _ _ ha

theorem pair_ryield (now : Int) (h : PairX bx B w0 w b rb scr l scr2 l2) (hl : l2.length < 1000000) :
    Calls Try.prog 22 #[.pointer (some ⟨rb, 0, none⟩), .int .i64 now] w fun e w' => e = .returned (.int .i64 (yieldVal scr2 l2 now)) ∧ Hid (PairX bx B w0 w' b rb scr l scr2.tail (yieldList scr2 l2 now)) := by
  obtain ⟨Sv, Lv, S, n, hd, hS, hr, hB, hK⟩ := h.r
  subst hd
  refine (ryield_q B rb n Sv Lv S l2 now w hr (by omega) hl hB).mono ?_
  rintro e w' ⟨rfl, n', hd, ha⟩
  refine ⟨rfl, ?_⟩
  rw [← hd]
  exact hK _ _ _ ha

/-- The document's list, and what an append to it leaves. -/
theorem pair_append (h : PairX bx B w0 w b rb scr l scr2 l2) :
    ∃ Lv, B ≤ w.heap.size ∧ rb < w.heap.size ∧ w.cell? ⟨rb, 2, none⟩ = some Lv ∧ w.frozen? ⟨rb, 2, none⟩ = false ∧ w.ownsRow B 3 1 Lv l2.length (l2.map (.int .i64)) ∧ Lv.ownBlock ≠ some rb ∧
      ∀ w1 g cap id, w1.ownsRow B 3 1 (.slice (some ⟨g, 0, none⟩) (l2.length + 1) cap) (l2.length + 1) (l2.map (.int .i64) ++ [.int .i64 id]) → Upd (fun k => Lv.ownBlock = some k) w w1 → (Lv.ownBlock = some g ∨ w.heap.size ≤ g) →
        PairX bx B w0 (w1.setCell ⟨rb, 2, none⟩ (.slice (some ⟨g, 0, none⟩) (l2.length + 1) cap)) b rb scr l scr2 (l2 ++ [id]) := by
  obtain ⟨Sv, Lv, S, n, hd, hS, hr, hB, hK⟩ := h.r
  subst hd
  refine ⟨Lv, hB, hr.lt, hr.c2, hr.fr 2, hr.ol, hr.nb, fun w1 g cap id ho hu hg => ?_⟩
  obtain ⟨h1, h2, h3⟩ := hr.pushed ho hu hg
  exact hK _ n _ ⟨_, h1, h2, h3⟩

theorem pair_rlist (h : PairX bx B w0 w b rb scr l scr2 l2) :
    ∃ a c, w.cell? ⟨rb, 2, none⟩ = some (.slice a l2.length c) ∧ View w (.slice a l2.length c) l2 := by
  obtain ⟨Sv, Lv, S, n, hd, hS, hr, hB, hK⟩ := h.r
  obtain ⟨a, c, rfl, h2⟩ := ownsRow_view hr.ol
  exact ⟨a, c, hr.c2, ownsRow_view hr.ol⟩
end

set_option maxHeartbeats 800000 in
/-- Two lists that are the same. -/
theorem ints_same (a1 a2 : Option Addr) (c1 c2 n : Nat) (xs : List Int) (w : World) (hn : xs.length = n) (h1 : View w (.slice a1 n c1) xs) (h2 : View w (.slice a2 n c2) xs) (hs : n ≤ 1000000) :
    Calls Try.prog 13 #[.slice a1 n c1, .slice a2 n c2] w fun e w' => e = .returned (.bool true) ∧ w' = w := by
  have HL := Lib.hid hn
  have H1 := Lib.hid h1
  have H2 := Lib.hid h2
  have e0 : ((n : Int) != (n : Int)) = false := by simp
  clear hn h1 h2
  go_enter Try.func13, Try.ntmps13
  go_wp2
  go_loop [5, 6, 14] (fun _ _ i => ∃ k : Nat, k ≤ n ∧ i = .int .i64 k) (fun _ _ i => n - (intOf i).toNat)
  case atStart => exact ⟨0, by omega, rfl⟩
  case round =>
    obtain ⟨k, hk, rfl⟩ := hrel
    by_cases hlt : k < n
    · have hkx : k < xs.length := by rw [HL.out]; exact hlt
      obtain ⟨b1, o1, rfl, hc1, _, hcell1⟩ := View.at H1.out HL.out (by omega)
      obtain ⟨b2, o2, rfl, hc2, _, hcell2⟩ := View.at H2.out HL.out (by omega)
      have k1 := hcell1 k hkx
      have k2 := hcell2 k hkx
      generalize xs[k] = y at k1 k2
      have e1 : (y != y) = false := by simp
      clear hcell1 hcell2
      go_wp2
      go_round
      case rel => exact ⟨k + 1, by omega, by go_num⟩
      case measure => simp [intOf]; omega
    · go_wp2
      go_ret
      exact ⟨rfl, rfl⟩

end Go.Proofs.Ytoffodgjpeeenaa

import Derived.Test.YtblkgfkdfldkiaaU1
namespace TypesText

/-- Words with a blank behind each. -/
def flat : List Bytes → Bytes
  | [] => []
  | w :: ws => w ++ 32 :: flat ws

def NoBlank (s : Bytes) : Prop := ∀ c ∈ s, c ≠ 32

theorem take_word (r : Bytes) : ∀ (s w : Bytes), NoBlank s → NoBlank w → ((w ++ 32 :: r).take (s.length + 1) = s ++ [32] ↔ s = w)
  | [], [], _, _ => by simp
  | [], c :: w, _, hw => by
    have := hw c (by simp)
    simp [this]
  | a :: s, [], hs, _ => by
    have := hs a (by simp)
    simp
    intro h
    exact absurd h.symm this
  | a :: s, c :: w, hs, hw => by
    have ih := take_word r s w (fun x hx => hs x (by simp [hx])) (fun x hx => hw x (by simp [hx]))
    simp only [List.length_cons, List.cons_append, List.take_succ_cons, List.cons.injEq, ih]
    constructor
    · rintro ⟨rfl, rfl⟩; exact ⟨rfl, rfl⟩
    · rintro ⟨rfl, rfl⟩; exact ⟨rfl, rfl⟩

end TypesText
namespace Go.Proofs.Ytblkgfkdfldkiaa
open Go.RowKit TypesText

theorem stands_flat (s : Bytes) (hs : NoBlank s) : ∀ (ws : List Bytes), (∀ w ∈ ws, NoBlank w) → ((∃ i, Stands (32 :: flat ws) s i) ↔ s ∈ ws)
  | [], _ => by
    simp only [List.not_mem_nil, iff_false]
    rintro ⟨i, hi⟩
    have := stands_fits hi
    simp [flat] at this
  | w :: ws, hw => by
    have ih := stands_flat s hs ws (fun x hx => hw x (by simp [hx]))
    have hww := hw w (by simp)
    have h0 : Stands (32 :: flat (w :: ws)) s 0 ↔ s = w := by
      unfold Stands flat
      rw [List.drop_zero, show s.length + 2 = (s.length + 1) + 1 from rfl, List.take_succ_cons, List.cons_append, List.cons.injEq]
      simp only [true_and]
      exact take_word _ s w hs hww
    have h1 : ∀ i, 0 < i → i ≤ w.length → ¬ Stands (32 :: flat (w :: ws)) s i := by
      intro i h1 h2 h
      unfold Stands flat at h
      obtain ⟨j, rfl⟩ : ∃ j, i = j + 1 := ⟨i - 1, by omega⟩
      rw [List.drop_succ_cons, List.drop_append_of_le_length (by omega)] at h
      rw [List.drop_eq_getElem_cons (by omega)] at h
      simp only [List.cons_append, List.take_succ_cons, List.cons.injEq] at h
      exact hww _ (List.getElem_mem _) h.1
    have h2 : ∀ i, Stands (32 :: flat (w :: ws)) s (i + w.length + 1) ↔ Stands (32 :: flat ws) s i := by
      intro i
      unfold Stands
      rw [List.drop_succ_cons, flat, Nat.add_comm i w.length, List.drop_append, List.drop_of_length_le (by omega : w.length ≤ w.length + i), Nat.add_sub_cancel_left, List.nil_append]
    rw [List.mem_cons, ← ih]
    constructor
    · rintro ⟨i, hi⟩
      by_cases hz : i = 0
      · subst hz; exact .inl (h0.1 hi)
      · by_cases hl : i ≤ w.length
        · exact absurd hi (h1 i (by omega) hl)
        · refine .inr ⟨i - w.length - 1, (h2 _).1 ?_⟩
          rw [show i - w.length - 1 + w.length + 1 = i by omega]
          exact hi
    · rintro (h | ⟨i, hi⟩)
      · exact ⟨0, h0.2 h⟩
      · exact ⟨_, (h2 i).2 hi⟩

theorem words_clean : ∀ w ∈ words, NoBlank w := by
  unfold NoBlank
  decide

theorem inWords (s : Bytes) (hs : NoBlank s) : inList (32 :: flat words) s = words.contains s := by
  rw [Bool.eq_iff_iff, inList_iff, stands_flat s hs words words_clean, List.contains_iff_mem]
  constructor
  · exact fun h => h.2
  · intro h
    refine ⟨?_, h⟩
    rintro rfl
    revert h
    decide

theorem run_clean (s : Bytes) : ∀ k, k ≤ run s → NoBlank (s.take k) := by
  intro k hk c hc
  have h1 : c ∈ s.takeWhile alnum := by
    have : s.take k = (s.takeWhile alnum).take k := by
      have hp := List.takeWhile_prefix (l := s) alnum
      obtain ⟨r, hr⟩ := hp
      conv => lhs; rw [← hr]
      rw [List.take_append_of_le_length hk]
    rw [this] at hc
    exact List.mem_of_mem_take hc
  have h2 : alnum c = true := by
    have := List.all_takeWhile (l := s) (p := alnum)
    exact (List.all_eq_true.1 this) c h1
  rintro rfl
  revert h2
  decide

end Go.Proofs.Ytblkgfkdfldkiaa

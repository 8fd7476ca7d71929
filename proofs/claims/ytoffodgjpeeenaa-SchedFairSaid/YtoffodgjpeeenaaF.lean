import Derived.Test.YtoffodgjpeeenaaP2
namespace Go.Proofs.Ytoffodgjpeeenaa

theorem erase_perm : ∀ (l : List Int) (k : Nat) (h : k < l.length), l.Perm (l[k] :: l.eraseIdx k)
  | x :: t, 0, _ => by simp
  | x :: t, k + 1, h => by
    have := erase_perm t k (by simpa using h)
    simp only [List.getElem_cons_succ, List.eraseIdx_cons_succ]
    exact (List.Perm.cons x this).trans (List.Perm.swap _ _ _)

/-- A yield turns nobody away. -/
theorem yield_perm (scr l : List Int) (now : Int) : (yieldList scr l now ++ [yieldVal scr l now]).Perm (l ++ [now]) := by
  unfold yieldList yieldVal
  by_cases h : stays scr l
  · rw [if_pos h, if_pos h]
  · rw [if_neg h, if_neg h]
    have hk : yieldAt scr l < (l ++ [now]).length := by unfold yieldAt; simp; exact Nat.mod_lt _ (by omega)
    have e : (l ++ [now]).getD (yieldAt scr l) 0 = (l ++ [now])[yieldAt scr l] := by simp [List.getD, List.getElem?_eq_getElem hk]
    rw [e]
    exact (List.perm_append_comm).trans (erase_perm _ _ hk).symm

theorem yield_len (scr l : List Int) (now : Int) : (yieldList scr l now).length = l.length := by
  have := (yield_perm scr l now).length_eq
  simpa using this

theorem yield_plain (l : List Int) (now : Int) : yieldVal [] l now = now ∧ yieldList [] l now = l := by
  have h : stays [] l := .inl (by simp [numOf])
  simp [yieldVal, yieldList, h]

theorem next_plain (x : Int) (l : List Int) : nextVal [] (x :: l) = x ∧ nextList [] (x :: l) = l := by
  simp [nextVal, nextList, nextAt, numOf]

/-- The last place at which a number stands. -/
def lastOf (l : List Int) (x : Int) (k : Nat) (at_ : Int) : Prop := (at_ = -1 ∧ ∀ i (h : i < l.length), i < k → l[i] ≠ x) ∨ ∃ j : Nat, at_ = j ∧ ∃ h : j < l.length, l[j] = x

theorem last_step (l : List Int) (x : Int) (k : Nat) (at_ : Int) (hk : k < l.length) (h : lastOf l x k at_) : lastOf l x (k + 1) (if l[k] = x then (k : Int) else at_) := by
  by_cases e : l[k] = x
  · rw [if_pos e]; exact .inr ⟨k, rfl, hk, e⟩
  · rw [if_neg e]
    rcases h with ⟨h1, h2⟩ | h
    · refine .inl ⟨h1, fun i hi hik => ?_⟩
      by_cases hh : i = k
      · subst hh; exact e
      · exact h2 i hi (by omega)
    · exact .inr h

theorem last_found (l r : List Int) (x : Int) (at_ : Int) (h : lastOf l x l.length at_) (hp : l.Perm (x :: r)) : ∃ j : Nat, at_ = j ∧ ∃ h : j < l.length, l[j] = x ∧ (l.eraseIdx j).Perm r := by
  rcases h with ⟨_, h2⟩ | ⟨j, hj, hl, hx⟩
  · have : x ∈ l := hp.symm.subset (by simp)
    obtain ⟨i, hi, he⟩ := List.getElem_of_mem this
    exact absurd he (h2 i hi hi)
  · refine ⟨j, hj, hl, hx, ?_⟩
    have h1 := (erase_perm l j hl).symm.trans hp
    rw [hx] at h1
    exact (List.perm_cons x).1 h1

end Go.Proofs.Ytoffodgjpeeenaa

import Derived.Test.YtoffodgjpeeenaaR1
namespace Go.Proofs.Ytoffodgjpeeenaa
open Go.RowKit

/-- Those of the first so many that stay. -/
def kept (l : List Int) (at_ k : Nat) : List Int := (l.take k).eraseIdx at_

theorem kept_zero (l : List Int) (at_ : Nat) : kept l at_ 0 = [] := by simp [kept]
theorem kept_all (l : List Int) (at_ : Nat) : kept l at_ l.length = l.eraseIdx at_ := by simp [kept]
theorem kept_same (l : List Int) (k : Nat) (h : k < l.length) : kept l k (k + 1) = kept l k k := by
  unfold kept
  rw [List.take_succ_eq_append_getElem h]
  have hl : (l.take k).length = k := by simp; omega
  rw [List.eraseIdx_append_of_length_le (by omega), hl, Nat.sub_self, List.eraseIdx_of_length_le (l := l.take k) (by omega)]
  simp
theorem kept_next (l : List Int) (at_ k : Nat) (h : k < l.length) (hne : k ≠ at_) : kept l at_ (k + 1) = kept l at_ k ++ [l[k]] := by
  unfold kept
  rw [List.take_succ_eq_append_getElem h]
  have hl : (l.take k).length = k := by simp; omega
  by_cases hlt : at_ < k
  · rw [List.eraseIdx_append_of_lt_length (by omega)]
  · rw [List.eraseIdx_append_of_length_le (by omega), hl, List.eraseIdx_of_length_le (l := l.take k) (by omega), List.eraseIdx_of_length_le (by simp; omega)]
theorem kept_le (l : List Int) (at_ k : Nat) (h : k ≤ l.length) : (kept l at_ k).length ≤ k := by
  unfold kept
  have := List.length_eraseIdx_le (l.take k) at_
  simp at this; omega

def ROut (b : Nat) (l : List Int) (k : Nat) (x : Int) (w : World) (e : Ending) (w' : World) : Prop :=
  e = .returned (.int .i64 x) ∧ ∃ w1 a n c, w1.ownsRow w.heap.size 3 1 (.slice a n c) (l.eraseIdx k).length ((l.eraseIdx k).map (.int .i64)) ∧
    Below w.heap.size w w1 ∧ w' = w1.setCell ⟨b, 2, none⟩ (.slice a n c)

set_option maxHeartbeats 1600000 in
theorem out_walk (b g cap : Nat) (l : List Int) (at_ : Nat) (x : Int) (w : World) (hl : l.length ≤ 1000000) (hk : at_ < l.length) (hb : b < w.heap.size) (hg : g < w.heap.size)
    (h : w.cell? ⟨b, 2, none⟩ = some (.slice (some ⟨g, 0, none⟩) l.length cap)) (hf : w.frozen? ⟨b, 2, none⟩ = false) (hx : w.cell? ⟨g, at_, none⟩ = some (.int .i64 x))
    (hc : ∀ k (hk : k < l.length), w.cell? ⟨g, k, none⟩ = some (.int .i64 l[k])) :
    Calls Try.prog 21 #[.pointer (some ⟨b, 0, none⟩), .int .i64 at_] w (ROut b l at_ x w) := by
  obtain ⟨i0, hi, hz0, hz1, hz2⟩ := info_parts Try.info3
  have HC := Lib.hid hc
  have HF := Lib.hid hf
  have H1 := Lib.hid h
  clear hc
  go_enter Try.func21, Try.ntmps21
  go_wp2
  clear h hf hx
  go_loopw [6, 7] (fun v i wr => ∃ k : Nat, k ≤ l.length ∧ i = .int .i64 k ∧ wr.ownsRow w.heap.size 3 1 v (kept l at_ k).length ((kept l at_ k).map (.int .i64)) ∧ Below w.heap.size w wr) (fun _ i _ => l.length - (intOf i).toNat)
  case atStart => exact ⟨0, by omega, rfl, by rw [kept_zero]; exact World.ownsRow_nil _ _ _ _, Below.refl _ _⟩
  case round =>
    obtain ⟨k, hkl, rfl, hown, hbel⟩ := hrel
    have k1 := (hbel.cell (p := ⟨b, 2, none⟩) hb).trans H1.out
    have f1 := (hbel.frozen (p := ⟨b, 2, none⟩) hb).trans HF.out
    have HB := Lib.hid hbel
    have hsz := hbel.size
    have HO := Lib.hid hown
    clear hbel hown
    by_cases hlt : k < l.length
    · have kc := (HB.out.cell (p := ⟨g, k, none⟩) hg).trans (HC.out k hlt)
      have hlk := kept_le l at_ k hkl
      generalize hy : l[k] = y at kc
      have HY := Lib.hid hy
      clear hy
      by_cases hne : k = at_
      · have e1 : ((k : Int) == (at_ : Int)) = true := by simp [hne]
        have e2 : ((k : Int) != (at_ : Int)) = false := by simp [hne]
        have HE := Lib.hid hne
        clear hne
        go_wp2
        go_roundw
        case rel => exact ⟨k + 1, by omega, by go_num, by have := HE.out; subst this; rw [kept_same l k hlt]; exact HO.out, HB.out⟩
        case measure => simp [intOf]; omega
      · have e1 : ((k : Int) == (at_ : Int)) = false := by simp; omega
        have e2 : ((k : Int) != (at_ : Int)) = true := by simp; omega
        have HE := Lib.hid hne
        clear hne
        go_wp2_with (at_builtin; refine wpList_append_own _ rfl _ _ 22 rfl w.heap.size 3 i0 (.int .i64 0) 1 8 Try.underlying22 hi hz0 hz1 hz2 rfl (by decide) _ _ _ rfl (HO.out.alloc _) ⟨wr.heap.size, 0, none⟩ 1 1 [.int .i64 y] rfl rfl ?c1 ?c2 ?c3 ?c4 ?c5 ?grow)
        case c1 => intro j u hj; match j, hj with | 0, hj => simp at hj; subst hj; simp [Addr.add]
        case c2 => intro u hu; simp at hu; subst hu; rfl
        case c3 => unfold maxLen; omega
        case c4 => omega
        case c5 => simp only [World.size_alloc]; omega
        case grow =>
          intro v' w1 hown1 hgrow _
          have HO1 := Lib.hid hown1
          have HB1 := Lib.hid ((HB.out.alloc hsz (.cells #[.int .i64 y] 3)).grown hgrow (by simp; omega) (fun k hk => by
            rcases HO.out.2 with ⟨rfl, _⟩ | ⟨g', _, _, rfl, hb', _⟩
            · simp [Value.ownBlock] at hk
            · simp [Value.ownBlock] at hk; omega))
          clear hown1 hgrow
          go_wp2
          go_roundw
          case rel => exact ⟨k + 1, by omega, by go_num, by rw [kept_next l at_ k hlt HE.out, HY.out]; simpa using HO1.out, HB1.out⟩
          case measure => simp [intOf]; omega
    · have hkk : k = l.length := by omega
      have ho2 := HO.out
      rw [hkk, kept_all] at ho2
      have hv := ownsRow_view ho2
      have HO2 := Lib.hid ho2
      clear ho2
      obtain ⟨a, c, rfl, _, _⟩ := hv
      clear hkk
      go_wp2
      go_ret
      exact ⟨rfl, wr, a, _, c, HO2.out, HB.out, rfl⟩

end Go.Proofs.Ytoffodgjpeeenaa

import Derived.Test.YtdbbalcicgllhaaGreatDoorA9
namespace Go.Proofs.YtdbbalcicgllhaaGreatDoor
open Go.RowKit

/-- The replacer at 'R' is new: its texts lie at 'O'. -/
def New (R O cp : Nat) (w : World) : Prop := (∃ c2 c3, w.heap[R]? = some (.cells #[.int .u32 0, .int .i32 0, c2, c3, .slice (some ⟨O, 0, none⟩) 6 cp] 102 (0, 0))) ∧
  ∃ os fr, w.heap[O]? = some (.cells os 9 fr) ∧ ∀ (i : Nat) (x : Bytes), olds[i]? = some x → os[i]? = some (.string ⟨x.toArray⟩)

set_option maxRecDepth 100000 in
set_option maxHeartbeats 1600000 in
theorem do_any (R O cp : Nat) (w : World) (h : New R O cp w) :
    Calls Tryz.prog 44 #[.pointer (some ⟨R, 0, none⟩), .func (.func 45) #[.pointer (some ⟨R, 0, none⟩)] #[]] w fun e w' => e = .returned (.tuple #[]) ∧ Upd (fun b => b = R) w w' ∧ ∃ Y, Built R Y w' := by
  obtain ⟨⟨c2, c3, hR⟩, os, fr, hO, hos⟩ := h
  have hnot : ∀ (x : Bool) (w : World), (Op.unary .not (.bool x)).run Tryz.prog w = .ok (.bool (!x)) w := fun _ _ => rfl
  have hc := slow_any R O cp c2 c3 os fr w hR hO hos
  have r0 : w.cell? ⟨R, 0, none⟩ = some (.int .u32 0) := by simp [World.cell?, hR]
  have hl := load0_any ⟨R, 0, none⟩ _ r0
  clear hR hO hos
  go_enter Tryz.func44, Tryz.ntmps44
  go_wp2_with (first | (go_at_call 53; refine hl.mono ?_; rintro e w' ⟨rfl, rfl⟩) | (go_at_call 54; refine hc.mono ?_; rintro e w2 ⟨rfl, hu2, Y, hb⟩))
  go_end0
  exact ⟨rfl, hu2, Y, hb⟩

theorem i9 : (Tryz.prog.info? 9).map (fun i => (i.zero, i.size, i.bytes)) = some (some (.string ⟨#[]⟩), 1, 16) := i22

set_option maxRecDepth 100000 in
set_option maxHeartbeats 1600000 in
theorem newrep_any (g c : Nat) (w : World) (hg : w.heap[g]? = some (.cells (olds.map fun x => Value.string ⟨x.toArray⟩).toArray 9 (0, 0))) :
    Calls Tryz.prog 34 #[.slice (some ⟨g, 0, none⟩) 6 c] w fun e w' => ∃ R O cp, e = .returned (.pointer (some ⟨R, 0, none⟩)) ∧ Upd (fun _ => False) w w' ∧ w.heap.size ≤ R ∧ New R O cp w' := by
  obtain ⟨i0, hi, hz0, hz1, hz2⟩ := info_parts i9
  have hown : w.ownsRow w.heap.size 9 1 (.slice none 0 0) 0 [] := ⟨rfl, .inl ⟨rfl, rfl⟩⟩
  have hnews : ∀ (j : Nat) (u : Value), (olds.map fun x => Value.string ⟨x.toArray⟩)[j]? = some u → w.cell? ((⟨g, 0, none⟩ : Addr).add j) = some u := by
    intro j u hj
    have e : ((⟨g, 0, none⟩ : Addr).add j) = ⟨g, j, none⟩ := by rw [Addr.add_lit, Nat.zero_add]
    rw [e]
    simp only [World.cell?, hg]
    rw [List.getElem?_toArray]
    exact hj
  go_enter Tryz.func34, Tryz.ntmps34
  go_wp2_with (at_builtin; go_loud (refine wpList_append_own_at (P := Tryz.prog) _ rfl _ _ 22 rfl w.heap.size 9 i0 _ 1 16 Tryz.underlying22 hi hz0 hz1 hz2 rfl (by decide) _ 0 [] rfl hown ⟨g, 0, none⟩ 6 c _ rfl ?c1 hnews ?c2 ?c3 ?c4 ?c5 ?_))
  case c1 => rfl
  case c2 =>
    intro u hu
    obtain ⟨x, _, rfl⟩ := List.mem_map.1 hu
    rfl
  case c3 => unfold maxLen; omega
  case c4 => decide
  case c5 => exact Nat.le_refl _
  intro v' w1 hown' hgrow hne _
  have hu : Upd (fun _ => False) w w1 := Upd.grown hgrow (fun k hk => by simp [Value.ownBlock] at hk)
  obtain ⟨O, cp, cur, rfl, hO, hcur, htake⟩ : ∃ O cp cur, v' = .slice (some ⟨O, 0, none⟩) 6 cp ∧ w.heap.size ≤ O ∧ w1.heap[O]? = some (.cells cur 9 (0, 0)) ∧ cur.toList.take (6 * 1) = olds.map fun x => Value.string ⟨x.toArray⟩ := by
    rcases hown'.2 with ⟨_, h0⟩ | ⟨g2, cap, cur, hv, hb, hg2, _, _, _, ht⟩
    · exact absurd h0 (by decide)
    · exact ⟨g2, cap, cur, hv, hb, hg2, ht⟩
  have HU := Lib.hid hu
  have HC := Lib.hid hcur
  have HT := Lib.hid htake
  clear hu hcur htake hown' hgrow hne hown hnews hg
  go_wp2_with fail
  go_ret
  have hO1 : O < w1.heap.size := (Array.getElem?_eq_some_iff.1 HC.out).1
  refine ⟨w1.heap.size, O, cp, rfl, HU.out.trans (Upd.alloc _ w1 _) (fun _ _ h => h), HU.out.size, ⟨_, _, heap_alloc_new w1 _⟩, cur, (0, 0), ?_, ?_⟩
  · rw [Below.heap_alloc w1 _ O hO1]; exact HC.out
  · intro i x hx
    have hi : i < 6 := (List.getElem?_eq_some_iff.1 hx).1
    rw [← Array.getElem?_toList, ← List.getElem?_take_of_lt (j := 6 * 1) (by omega), HT.out, List.getElem?_map, hx]
    rfl
end Go.Proofs.YtdbbalcicgllhaaGreatDoor

/- A part of the proof of TypesWrittenSaid. No condition. -/
import Derived.Test.YtoaodlfmhioigaaM46
set_option linter.unusedSimpArgs false
set_option linter.unusedVariables false
section
namespace Go.Proofs.Ytoaodlfmhioigaa
open Go.RowKit

theorem law_any (s : ByteArray) (w : World) : Calls Try.prog 3 #[.string s] w fun e w' => e = .returned (.bool true) ∧ Below w.heap.size w w' := by
  have hc : ∀ o b g, curOf [] [] o ≠ some (b, g) := fun o b g e => by obtain ⟨a, h1, _⟩ := curOf_some e; simp at h1
  have hs : SR (fun _ => False) [] w [] :=
    ⟨rfl, fun b ⟨o, g, e⟩ => absurd e (hc o b g), fun b hx => hx.elim, fun o _ b g _ e => absurd e (hc o b g), fun o a b ho => by simp at ho⟩
  have hmk : (⟨s.data.toList.toArray⟩ : ByteArray) = s := rfl
  have hl := t_law s.data.toList (fun _ => False) [] w [.string s] hs ⟨by rw [← hmk]; rfl, trivial⟩
  refine Calls.mono hl ?_
  rintro e w' ⟨v, r, os', ρ', rfl, ⟨rfl, rfl⟩, hg, hv⟩
  obtain rfl : v = .bool true := hv
  exact ⟨rfl, hg.upd.os, hg.upd.tape, hg.upd.output, hg.upd.size, fun k hk => hg.upd.block k hk fun ⟨o, g, _, e⟩ => hc o k g e⟩
end Go.Proofs.Ytoaodlfmhioigaa
end

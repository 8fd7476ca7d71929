import Derived.Test.YtdflfcgdfbihfaaDoorD1
import Derived.Lib.AppendStr
namespace Go.Proofs.YtdflfcgdfbihfaaDoor
open Go.RowKit CodeText

/-- The blocks that hold no bytes stay, but the writer's. -/
def Keep5 (Q : Nat) (w w' : World) : Prop := ∀ t, t < w.heap.size → t ≠ Q → (∀ cur, w.heap[t]? ≠ some (.cells cur 5 (0, 0))) → w'.heap[t]? = w.heap[t]?
theorem Keep5.trans {Q : Nat} {a b c : World} (h : Keep5 Q a b) (k : Keep5 Q b c) (hs : a.heap.size ≤ b.heap.size) : Keep5 Q a c := fun t ht hq hv =>
  have h1 := h t ht hq hv
  (k t (Nat.lt_of_lt_of_le ht hs) hq (fun cur => by rw [h1]; exact hv cur)).trans h1
theorem Keep.five {B Q : Nat} {w w' : World} {out : Bytes} (k : Keep Q w w') (h : Wr B Q w out) : Keep5 Q w w' := fun t ht hq hv => by
  obtain ⟨v0, k1, k2, _, _⟩ := h.at_
  refine (k t ht hq ?_).1
  intro v hv2 hh
  rw [k1] at hv2
  injection hv2 with hv2
  injection hv2 with hv2 _ _
  have : v = v0 := by simpa using hv2.symm
  subst this
  rcases k2.2 with ⟨rfl, _⟩ | ⟨g, cap, cur, rfl, _, hg, _⟩
  · simp [Value.ownBlock] at hh
  · simp [Value.ownBlock] at hh
    subst hh
    exact hv cur hg

/-- The writer behind bytes of a string. -/
theorem append_str {B Q : Nat} {w w2 : World} {out s : Bytes} {v' : Value} {v : Value} (h : Wr B Q w out) (hv : w.cell? ⟨Q, 0, none⟩ = some v) (hQ : Q < B)
    (hown : w2.ownsRow B 5 1 v' (out.length + s.length) ((out.map fun b => Value.int .u8 b.toNat) ++ s.map fun b => Value.int .u8 b.toNat)) (hg : w.grownBy w2 v.ownBlock)
    (hf : out.length + s.length ≤ 1000000) (hsl : ∃ a n c, v' = .slice a n c) :
    Upd (QS B Q) w (w2.setCell ⟨Q, 0, none⟩ v') ∧ Wr B Q (w2.setCell ⟨Q, 0, none⟩ v') (out ++ s) ∧ Keep5 Q w (w2.setCell ⟨Q, 0, none⟩ v') := by
  obtain ⟨⟨v0, k1, k2, k3, k4⟩, hfw, hl⟩ := h
  have hv0 : v0 = v := by
    have : w.cell? ⟨Q, 0, none⟩ = some v0 := by simp [World.cell?, k1]
    rw [this] at hv
    exact Option.some.inj hv
  subst hv0
  have hb := fun k hk => k2.lt k hk
  have hu : Upd (fun k => v0.ownBlock = some k) w w2 := Upd.grown hg (fun k hk => hk)
  have hq : w2.heap[Q]? = some (.cells #[v0] 63 (0, 0)) := (hu.block Q (Array.getElem?_eq_some_iff.1 k1).1 (fun h => k3 h)).trans k1
  have hne : v'.ownBlock ≠ some Q := fun hh => by have := (hown.lt Q hh).1; omega
  have hup : Upd (QS B Q) w (w2.setCell ⟨Q, 0, none⟩ v') := ⟨hu.os, hu.tape, hu.output, by simpa [World.setCell] using hu.size, fun k hk hS => by
    rw [Below.heap_setCell _ _ _ _ (fun e => hS (.inl e))]
    exact hu.block k hk (fun h => hS (.inr (hb k h).1))⟩
  refine ⟨hup, ⟨⟨v', by simp [World.setCell, Array.getElem?_modify, hq], ?_, hne, hsl⟩, by simp; omega, Nat.le_trans hl hup.size⟩, ?_⟩
  · rw [List.length_append, List.map_append]
    exact ownsRow_upd hown (Upd.setCell (S := fun k => k = Q) w2 _ _ rfl) (fun k hk e => hne (by rw [hk, e]))
  · intro t ht htQ hv5
    rw [Below.heap_setCell _ _ _ _ htQ]
    refine hu.block t ht (fun hh => ?_)
    rcases k2.2 with ⟨rfl, _⟩ | ⟨g, cap, cur, rfl, _, hg, _⟩
    · simp [Value.ownBlock] at hh
    · simp [Value.ownBlock] at hh
      subst hh
      exact hv5 cur hg

theorem wr_cell2 {B Q : Nat} {w w2 : World} {out : Bytes} {v : Value} (h : Wr B Q w out) (hv : w.cell? ⟨Q, 0, none⟩ = some v) (hg : w.grownBy w2 v.ownBlock) :
    w2.cell? ⟨Q, 0, none⟩ = some v ∧ w2.frozen? ⟨Q, 0, none⟩ = false := by
  obtain ⟨⟨v0, k1, k2, k3, k4⟩, hfw, hl⟩ := h
  have hv0 : v0 = v := by
    have : w.cell? ⟨Q, 0, none⟩ = some v0 := by simp [World.cell?, k1]
    rw [this] at hv
    exact Option.some.inj hv
  subst hv0
  have hu : Upd (fun k => v0.ownBlock = some k) w w2 := Upd.grown hg (fun k hk => hk)
  have hq : w2.heap[Q]? = some (.cells #[v0] 63 (0, 0)) := (hu.block Q (Array.getElem?_eq_some_iff.1 k1).1 (fun h => k3 h)).trans k1
  simp [World.cell?, World.frozen?, hq]

theorem wr_at {Q : Nat} {w : World} {v : Value} (h : w.heap[Q]? = some (.cells #[v] 63 (0, 0))) : w.cell? ⟨Q, 0, none⟩ = some v := by simp [World.cell?, h]

theorem wtext_any (B Q : Nat) (s : ByteArray) (out : Bytes) (w : World) (h : Wr B Q w out) (hfew : out.length + (wtext s.data.toList).length ≤ 900000) (hQB : Q < B) :
    Calls Tryd.prog 25 #[.pointer (some ⟨Q, 0, none⟩), .string s] w fun e w' => e = .returned (.tuple #[]) ∧ Upd (QS B Q) w w' ∧ Wr B Q w' (out ++ wtext s.data.toList) ∧ Keep5 Q w w' := by
  obtain ⟨i0, hi, hz0, hz1, hz2⟩ := info_parts i5
  have hsl : s.data.toList.length = s.size := Array.length_toList
  have hsz : s.size ≤ 900000 := by unfold wtext at hfew; rw [List.length_append, hsl] at hfew; omega
  have hwl : (wnum s.size).length + s.size + out.length ≤ 900000 := by unfold wtext at hfew; rw [List.length_append, hsl] at hfew; omega
  have c := wnum_any B Q s.size (fits_len (by omega)) out w h (by omega) hQB
  have HW : Hid (wtext s.data.toList = wnum s.size ++ s.data.toList) := by show wtext _ = _; unfold wtext; rw [hsl]
  obtain ⟨OD, hOD⟩ : ∃ x, out ++ wnum s.size = x := ⟨_, rfl⟩
  have hol : OD.length + s.size ≤ 900000 := by rw [← hOD, List.length_append]; omega
  have HOD := Lib.hid hOD
  rw [hOD] at c
  have HSL := Lib.hid hsl
  have HW0 := Lib.hid h
  clear h hfew hwl hOD hsl
  go_enter Tryd.func25, Tryd.ntmps25
  go_wp2_with (first | (with_reducible refine c.mono ?_; rintro e w1 ⟨rfl, hu, hwr, hkp⟩; have HKP := Lib.hid (hkp.five HW0.out); clear hkp; have hsz1 := hu.size; have HU := Lib.hid hu; have HWR := Lib.hid hwr; obtain ⟨v0, k1, k2, k3, k4⟩ := hwr.at_; have hlo := hwr.lo; have hc0 : w1.cell? ⟨Q, 0, none⟩ = some v0 := wr_at k1; have HV0 := Lib.hid hc0; have HO := Lib.hid k2; clear hu hwr k1 k2 k3 k4) | (at_builtin; refine Lib.wpList_append_own_string _ rfl _ _ 22 9 rfl B 5 i0 Tryd.underlying22 Tryd.underlying9 hi hz0 hz1 hz2 _ _ _ rfl HO.out s rfl ?c1 ?c2 ?c3 ?grow))
  case c1 => unfold maxLen; omega
  case c2 => omega
  case c3 => exact hlo
  case grow =>
    intro v' w3 hown1 hgrow _
    obtain ⟨sa, sc, rfl⟩ := ownsRow_shape hown1
    have HE := Lib.hid (append_str (s := s.data.toList) HWR.out HV0.out hQB (by rw [HSL.out]; exact hown1) hgrow (by rw [HSL.out]; omega) ⟨_, _, _, rfl⟩)
    obtain ⟨q0, f0⟩ := wr_cell2 HWR.out HV0.out hgrow
    clear hown1 hgrow
    go_wp2_with fail
    go_end0
    exact ⟨rfl, HU.out.trans HE.out.1 (fun _ _ h => h), by rw [HW.out, ← List.append_assoc, HOD.out]; exact HE.out.2.1, HKP.out.trans HE.out.2.2 hsz1⟩

end Go.Proofs.YtdflfcgdfbihfaaDoor

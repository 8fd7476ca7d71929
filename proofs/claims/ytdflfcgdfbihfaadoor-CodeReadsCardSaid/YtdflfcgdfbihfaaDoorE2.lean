import Derived.Test.YtdflfcgdfbihfaaDoorE1
namespace Go.Proofs.YtdflfcgdfbihfaaDoor
open Go.RowKit CodeText

def refOf (l : List Bool) (r : Int) : Bool := if 0 ≤ r then l.getD r.toNat false else false

set_option maxRecDepth 100000 in
set_option maxHeartbeats 800000 in
theorem reference_any (l : List Bool) (r : Int) (ra ka : Option Addr) (rc kn kc : Nat) (nm : Bytes) (p c : Int) (b : Bool) (S : Nat → Prop) (w : World) (hl : l.length ≤ 900000)
    (h1 : RowV DBool 1 w S (.slice ra l.length rc) l) (hS : ∀ k, S k → k < w.heap.size) :
    Calls Tryd.prog 7 #[.agg #[.string ⟨nm.toArray⟩, .slice ra l.length rc, .int .i64 p, .int .i64 c, .bool b, .slice ka kn kc], .int .i64 r] w fun e w' => e = .returned (.bool (refOf l r)) ∧ Upd (fun _ => False) w w' := by
  obtain ⟨L, hL⟩ : ∃ L, l.length = L := ⟨_, rfl⟩
  have HL := Lib.hid hL
  have hA := Lib.hid (Upd.alloc (fun _ => False) w (.cells #[.string ⟨nm.toArray⟩, .slice ra l.length rc, .int .i64 p, .int .i64 c, .bool b, .slice ka kn kc] 35 (0, 0)))
  rw [hL] at hl h1 hA ⊢
  have H1 := Lib.hid h1
  clear h1 hL
  have hb := heap_alloc_new w (.cells #[.string ⟨nm.toArray⟩, .slice ra L rc, .int .i64 p, .int .i64 c, .bool b, .slice ka kn kc] 35 (0, 0))
  obtain ⟨c0, c1, c2, c3, c4, c5⟩ := six hb
  by_cases hr : 0 ≤ r
  · by_cases hr2 : r < (L : Int)
    · obtain ⟨k, rfl⟩ : ∃ k : Nat, r = (k : Int) := ⟨r.toNat, by omega⟩
      have hk : k < L := by omega
      obtain ⟨g, rfl, hcell⟩ := row_bool H1.out hA.out k (by rw [HL.out]; exact hk)
      obtain ⟨x, hx⟩ : ∃ x, l[k]'(by rw [HL.out]; exact hk) = x := ⟨_, rfl⟩
      have HR : Hid (refOf l (k : Int) = x) := by
        show refOf l (k : Int) = x
        unfold refOf
        rw [if_pos hr, Int.toNat_natCast, List.getD_eq_getElem?_getD, List.getElem?_eq_getElem (by rw [HL.out]; exact hk), hx]
        rfl
      rw [hx] at hcell
      clear hx
      go_enter Tryd.func7, Tryd.ntmps7
      go_wp2
      go_ret
      exact ⟨by rw [HR.out]; rfl, hA.out⟩
    · have HR : Hid (refOf l r = false) := by
        show refOf l r = false
        unfold refOf
        rw [if_pos hr, List.getD_eq_getElem?_getD, List.getElem?_eq_none (by rw [HL.out]; omega)]
        rfl
      go_enter Tryd.func7, Tryd.ntmps7
      go_wp2
      go_ret
      exact ⟨by rw [HR.out]; rfl, hA.out⟩
  · have HR : Hid (refOf l r = false) := by
      show refOf l r = false
      unfold refOf
      rw [if_neg hr]
    go_enter Tryd.func7, Tryd.ntmps7
    go_wp2
    go_ret
    exact ⟨by rw [HR.out]; rfl, hA.out⟩

end Go.Proofs.YtdflfcgdfbihfaaDoor

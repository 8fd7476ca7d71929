import Derived.Test.YtdbbalcicgllhaaGreatDoorA8
namespace Go.Proofs.YtdbbalcicgllhaaGreatDoor
open Go.RowKit

theorem set_at {w : World} {g i : Nat} {cur : Array Value} {t : TypeId} {fr : Nat × Nat} (v : Value) (hg : w.heap[g]? = some (.cells cur t fr)) : (w.setCell ⟨g, i, none⟩ v).heap[g]? = some (.cells (cur.setIfInBounds i v) t fr) := by
  rw [setCell_eq_setRow w g i cur t fr v hg]
  exact setRow_heap w g cur _ t fr hg

/-- The replacer at 'R' is built: what does its work lies at 'Y'. -/
def Built (R Y : Nat) (w : World) : Prop := (∃ c0 c1 c2 c4, w.heap[R]? = some (.cells #[c0, c1, c2, .iface 130 (.pointer (some ⟨Y, 0, none⟩)), c4] 102 (0, 0))) ∧ ∃ Z, BI Y Z 3 w

theorem BI.upd {Y Z k : Nat} {S : Nat → Prop} {w w' : World} (h : BI Y Z k w) (hu : Upd S w w') (hS : ∀ b, S b → b ≠ Y ∧ b ≠ Z) (hS5 : ∀ b cs t fr, S b → w.heap[b]? = some (.cells cs t fr) → t ≠ 5) : BI Y Z k w' := by
  obtain ⟨⟨arr, hy, hys, h256, hcs⟩, ⟨zs, hz, hzs, hzk⟩⟩ := h
  refine ⟨⟨arr, hu.at_ hy (fun h => (hS Y h).1 rfl), hys, h256, fun c hc => ?_⟩, ⟨zs, hu.at_ hz (fun h => (hS Z h).2 rfl), hzs, hzk⟩⟩
  obtain ⟨v, hv, hr⟩ := hcs c hc
  exact ⟨v, hv, hr.upd hu hS5⟩

theorem BI.atR {Y Z k R : Nat} {w w' : World} {cur : Array Value} {fr : Nat × Nat} (h : BI Y Z k w) (hR : w.heap[R]? = some (.cells cur 102 fr)) (hu : Upd (fun b => b = R) w w') : BI Y Z k w' := by
  have h' := h
  obtain ⟨⟨arr, hy, _⟩, ⟨zs, hz, _⟩⟩ := h'
  refine h.upd hu ?_ ?_
  · rintro b rfl
    constructor
    · rintro rfl
      rw [hR] at hy
      have := Option.some.inj hy
      injection this with _ ht
      exact absurd ht (by decide)
    · rintro rfl
      rw [hR] at hz
      have := Option.some.inj hz
      injection this with _ ht
      exact absurd ht (by decide)
  · rintro b cs t f rfl hb
    rw [hR] at hb
    have := Option.some.inj hb
    injection this with _ ht
    rw [← ht]
    decide

set_option maxRecDepth 100000 in
set_option maxHeartbeats 1600000 in
theorem once_any (R O cp : Nat) (c0 c1 c2 c3 : Value) (os : Array Value) (fr : Nat × Nat) (w : World) (hR : w.heap[R]? = some (.cells #[c0, c1, c2, c3, .slice (some ⟨O, 0, none⟩) 6 cp] 102 (0, 0)))
    (hO : w.heap[O]? = some (.cells os 9 fr)) (hos : ∀ (i : Nat) (x : Bytes), olds[i]? = some x → os[i]? = some (.string ⟨x.toArray⟩)) :
    Calls Tryz.prog 45 #[.pointer (some ⟨R, 0, none⟩)] w fun e w' => e = .returned (.tuple #[]) ∧ Upd (fun b => b = R) w w' ∧ ∃ Y, w'.heap[R]? = some (.cells #[c0, c1, c2, .iface 130 (.pointer (some ⟨Y, 0, none⟩)), .slice none 0 0] 102 (0, 0)) ∧ ∃ Z, BI Y Z 3 w' := by
  have hc := build_any R O cp c0 c1 c2 c3 os fr w hR hO hos
  have HR := Lib.hid hR
  have hlt : R < w.heap.size := (Array.getElem?_eq_some_iff.1 hR).1
  clear hR hO hos
  go_enter Tryz.func45, Tryz.ntmps45
  go_wp2_with (with_reducible refine hc.mono ?_)
  rintro e w1 ⟨Y, rfl, hu, hYlt, Z, hbi⟩
  have hR1 := hu.at_ HR.out (fun h => h)
  have r3 : w1.cell? ⟨R, 3, none⟩ = some c3 := by simp [World.cell?, hR1]
  have f3 : w1.frozen? ⟨R, 3, none⟩ = false := by simp [World.frozen?, hR1]
  have hR2 := set_at (i := 3) (.iface 130 (.pointer (some ⟨Y, 0, none⟩))) hR1
  have r4 : (w1.setCell ⟨R, 3, none⟩ (.iface 130 (.pointer (some ⟨Y, 0, none⟩)))).cell? ⟨R, 4, none⟩ = some (.slice (some ⟨O, 0, none⟩) 6 cp) := by simp [World.cell?, hR2]
  have f4 : (w1.setCell ⟨R, 3, none⟩ (.iface 130 (.pointer (some ⟨Y, 0, none⟩)))).frozen? ⟨R, 4, none⟩ = false := by simp [World.frozen?, hR2]
  have hR3 := set_at (i := 4) (.slice none 0 0) hR2
  have hup1 : Upd (fun b => b = R) w1 ((w1.setCell ⟨R, 3, none⟩ (.iface 130 (.pointer (some ⟨Y, 0, none⟩)))).setCell ⟨R, 4, none⟩ (.slice none 0 0)) :=
    (Upd.setCell (S := fun b => b = R) w1 ⟨R, 3, none⟩ _ rfl).trans (Upd.setCell (S := fun b => b = R) _ ⟨R, 4, none⟩ _ rfl) (fun _ _ h => h)
  have hup := (hu.wide (T := fun b => b = R) (fun _ _ h => h.elim)).trans hup1 (fun k hk h => h)
  have HU := Lib.hid hup
  have HB := Lib.hid (hbi.atR hR1 hup1)
  have HR3 := Lib.hid hR3
  clear hR1 hR2 hR3 hup hup1 hu hbi
  go_wp2
  go_end0
  exact ⟨rfl, HU.out, Y, HR3.out, Z, HB.out⟩

theorem load0_any (a : Addr) (w : World) (hc : w.cell? a = some (.int .u32 0)) :
    Calls Tryz.prog 53 #[.pointer (some a)] w fun e w' => e = .returned (.bool false) ∧ w' = w := by
  have hl := run_call_load (P := Tryz.prog) Tryz.func60 (by kernel_rfl) (by kernel_rfl) (by kernel_rfl) .u32 (by kernel_rfl) hc
  go_enter Tryz.func53, Tryz.ntmps53
  go_wp2
  go_ret
  exact ⟨rfl, rfl⟩

set_option maxRecDepth 100000 in
set_option maxHeartbeats 1600000 in
theorem slow_any (R O cp : Nat) (c2 c3 : Value) (os : Array Value) (fr : Nat × Nat) (w : World) (hR : w.heap[R]? = some (.cells #[.int .u32 0, .int .i32 0, c2, c3, .slice (some ⟨O, 0, none⟩) 6 cp] 102 (0, 0)))
    (hO : w.heap[O]? = some (.cells os 9 fr)) (hos : ∀ (i : Nat) (x : Bytes), olds[i]? = some x → os[i]? = some (.string ⟨x.toArray⟩)) :
    Calls Tryz.prog 54 #[.pointer (some ⟨R, 0, none⟩), .func (.func 45) #[.pointer (some ⟨R, 0, none⟩)] #[]] w fun e w' => e = .returned (.tuple #[]) ∧ Upd (fun b => b = R) w w' ∧ ∃ Y, Built R Y w' := by
  have hOR : O ≠ R := by
    rintro rfl
    rw [hR] at hO
    have := Option.some.inj hO
    injection this with _ ht
    exact absurd ht (by decide)
  have hnot : ∀ (x : Bool) (w : World), (Op.unary .not (.bool x)).run Tryz.prog w = .ok (.bool (!x)) w := fun _ _ => rfl
  have r1 : w.cell? ⟨R, 1, none⟩ = some (.int .i32 0) := by simp [World.cell?, hR]
  have f1 : w.frozen? ⟨R, 1, none⟩ = false := by simp [World.frozen?, hR]
  have hR1 := set_at (i := 1) (.int .i32 1) hR
  have u1 : Upd (fun b => b = R) w (w.setCell ⟨R, 1, none⟩ (.int .i32 1)) := Upd.setCell w ⟨R, 1, none⟩ _ rfl
  have hO1 := u1.at_ hO hOR
  have hc := once_any R O cp (.int .u32 0) (.int .i32 1) c2 c3 os fr (w.setCell ⟨R, 1, none⟩ (.int .i32 1)) hR1 hO1 hos
  have r0 : (w.setCell ⟨R, 1, none⟩ (.int .i32 1)).cell? ⟨R, 0, none⟩ = some (.int .u32 0) := by simp [World.cell?, hR1]
  have hl := load0_any ⟨R, 0, none⟩ _ r0
  have HU1 := Lib.hid u1
  clear hR hO hos hR1 hO1 u1
  go_enter_defers Tryz.func54, Tryz.ntmps54
  go_wp2_with (first | (go_at_call 61; refine (lock_free ⟨R, 1, none⟩ _ (by go_simp) (by go_simp)).mono ?_; rintro e w' ⟨rfl, rfl⟩) | (go_at_call 53; refine hl.mono ?_; rintro e w' ⟨rfl, rfl⟩) | (go_at_call 45; refine hc.mono ?_; rintro e w2 ⟨rfl, hu2, Y, hR2, Z, hbi⟩))
  have hR2' : w2.drew.heap[R]? = some (.cells #[.int .u32 0, .int .i32 1, c2, .iface 130 (.pointer (some ⟨Y, 0, none⟩)), .slice none 0 0] 102 (0, 0)) := hR2
  have hR3 := set_at (i := 0) (.int .u32 1) hR2'
  have hR4 := set_at (i := 1) (.int .i32 0) hR3
  have q0 : w2.cell? ⟨R, 0, none⟩ = some (.int .u32 0) := by simp [World.cell?, hR2]
  have z0 : w2.frozen? ⟨R, 0, none⟩ = false := by simp [World.frozen?, hR2]
  have q1 : (w2.drew.setCell ⟨R, 0, none⟩ (.int .u32 1)).cell? ⟨R, 1, none⟩ = some (.int .i32 1) := by simp only [World.cell?, hR3]; rfl
  have z1 : (w2.drew.setCell ⟨R, 0, none⟩ (.int .u32 1)).frozen? ⟨R, 1, none⟩ = false := by simp only [World.frozen?, hR3]; rfl
  have hup1 : Upd (fun b => b = R) w2 ((w2.drew.setCell ⟨R, 0, none⟩ (.int .u32 1)).setCell ⟨R, 1, none⟩ (.int .i32 0)) :=
    ((Upd.drew (fun b => b = R) w2).trans (Upd.setCell (S := fun b => b = R) _ ⟨R, 0, none⟩ _ rfl) (fun _ _ h => h)).trans (Upd.setCell (S := fun b => b = R) _ ⟨R, 1, none⟩ _ rfl) (fun _ _ h => h)
  have HB := Lib.hid (hbi.atR hR2 hup1)
  have HU := Lib.hid ((HU1.out.trans hu2 (fun _ _ h => h)).trans hup1 (fun _ _ h => h))
  have HR4 := Lib.hid hR4
  clear hR2' hR3 hR4 hup1 hbi hu2 hR2

  go_wp2
  refine leaves_cons (f := 63) (args := #[.pointer (some ⟨R, 0, none⟩), .bool true]) (by simp) (by simp [go_sem]) ?_
  refine (store_deferred ⟨R, 0, none⟩ (.int .u32 0) .returning _ q0 z0).mono ?_
  rintro e u' w'' ⟨rfl, rfl, rfl⟩
  refine leaves_cons (f := 62) (args := #[.pointer (some ⟨R, 1, none⟩)]) (by simp [settle]) (by simp [go_sem]) ?_
  refine (unlock_deferred ⟨R, 1, none⟩ _ _ q1 z1).mono ?_
  rintro e u' w'' ⟨rfl, rfl, rfl⟩
  have fin : Built R Y ((w2.drew.setCell ⟨R, 0, none⟩ (.int .u32 1)).setCell ⟨R, 1, none⟩ (.int .i32 0)) := ⟨⟨_, _, _, _, HR4.out⟩, Z, HB.out⟩
  simp [Leaves, settle, results, Tryz.results54]
  exact ⟨HU.out, Y, fin⟩
end Go.Proofs.YtdbbalcicgllhaaGreatDoor

import Derived.Test.YtdbbalcicgllhaaGreatDoorA12
namespace Go.Proofs.YtdbbalcicgllhaaGreatDoor
open Go.RowKit

theorem mt130 (v : Value) (w : World) : (method 298 130 v "Replace").run Tryz.prog w = .ok (127, v) w := by kernel_rfl

set_option maxRecDepth 100000 in
set_option maxHeartbeats 1600000 in
theorem rep_any (R O cp : Nat) (s : Bytes) (w : World) (h : New R O cp w) (hl : s.length ≤ 100000000) :
    Calls Tryz.prog 35 #[.pointer (some ⟨R, 0, none⟩), .string ⟨s.toArray⟩] w fun e w' => e = .returned (.string ⟨(esc s).toArray⟩) ∧ Upd (fun b => b = R) w w' := by
  have hmf : ∀ (fn : Fn) (first cap : Array Value) (w : World), (Instr.makeFunc fn first cap).run Tryz.prog w = .ok (.func fn first cap) w := fun _ _ _ _ => rfl
  have hc := do_any R O cp w h
  clear h
  go_enter Tryz.func35, Tryz.ntmps35
  go_wp2_with (go_at_call 44; refine hc.mono ?_)
  rintro e w1 ⟨rfl, hu1, Y, ⟨c0, c1, c2, c4, hR⟩, Z, hbi⟩
  have r3 : w1.cell? ⟨R, 3, none⟩ = some (.iface 130 (.pointer (some ⟨Y, 0, none⟩))) := by simp [World.cell?, hR]
  have hc2 := replace_any Y Z s w1 hbi hl
  have HU := Lib.hid hu1
  have hmt := mt130
  clear hR hbi hu1 hc
  go_wp2_with (with_reducible refine hc2.mono ?_)
  rintro e w2 ⟨rfl, hu2⟩
  have HU2 := Lib.hid hu2
  clear hu2
  go_wp2
  go_ret
  exact ⟨rfl, HU.out.trans HU2.out (fun _ _ h => h.elim)⟩

def quoteB (s : Bytes) : Bytes := [34] ++ esc s ++ [34]

set_option maxRecDepth 100000 in
set_option maxHeartbeats 1600000 in
theorem quote_any (b : Nat) (d : Value) (s : Bytes) (w : World) (out : Bytes) (h : Bd 67 [d] b w out) (hl : s.length ≤ 100000000) (ho : out.length ≤ 100000000) :
    Calls Tryz.prog 24 #[.pointer (some ⟨b, 0, none⟩), .string ⟨s.toArray⟩] w fun e w' => e = .returned (.tuple #[]) ∧ Bd 67 [d] b w' (out ++ quoteB s) ∧ WStep b w w' := by
  obtain ⟨A, hA⟩ : ∃ A, w.alloc (.cells (olds.map fun x => Value.string ⟨x.toArray⟩).toArray 9) = A := ⟨_, rfl⟩
  have hnr := newrep_any w.heap.size 6 A (by rw [← hA]; exact heap_alloc_new w _)
  have huA : Upd (fun _ => False) w A := hA ▸ Upd.alloc _ w _
  have hA' : w.alloc (.cells #[.string ⟨#[10]⟩, .string ⟨#[92, 110]⟩, .string ⟨#[34]⟩, .string ⟨#[92, 34]⟩, .string ⟨#[92]⟩, .string ⟨#[92, 92]⟩] 9) = A := hA
  have HUA := Lib.hid huA
  have HB := Lib.hid h
  clear h hA huA
  go_enter Tryz.func24, Tryz.ntmps24
  go_wp2_with (go_at_call 34; refine hnr.mono ?_)
  rintro e w2 ⟨R, O, cp, rfl, hu2, hR, hnew⟩
  have hrep := rep_any R O cp s w2 hnew hl
  have hAw : w.heap.size ≤ A.heap.size := HUA.out.size
  have hu2' : Upd (fun _ => False) w w2 := HUA.out.trans hu2 (fun _ _ h => h)
  have HU2 := Lib.hid hu2'
  clear hnew hu2 hu2' hnr
  go_wp2_with (go_at_call 35; refine hrep.mono ?_)
  rintro e w3 ⟨rfl, hu3⟩
  have hu3' : Upd (fun _ => False) w w3 := HU2.out.trans hu3 (fun k hk h => by omega)
  have hb3 := HB.out.new hu3'
  have hlt3 := hb3.lt
  obtain ⟨C, hC⟩ : ∃ C, w3.alloc (.cells ([[34], esc s, [34]].map fun x => Value.string ⟨x.toArray⟩).toArray 9) = C := ⟨_, rfl⟩
  have huC : Upd (fun _ => False) w3 C := hC ▸ Upd.alloc _ w3 _
  have hel := esc_len s
  have hnk := nk_le s
  have hsay := say_p b w3.heap.size d [[34], esc s, [34]] C out (hb3.new huC) (by rw [← hC]; exact heap_alloc_new w3 _) (by omega) 3 (by simp; omega) (by simp)
  have hC' : w3.alloc (.cells #[.string ⟨#[34]⟩, .string ⟨(esc s).toArray⟩, .string ⟨#[34]⟩] 9) = C := hC
  have HS := Lib.hid ((WStep.new HB.out.lt hu3').trans (WStep.new hlt3 huC))
  clear hu3 hu3' hb3 hC huC hrep
  go_wp2_with (go_at_call 23; refine hsay.mono ?_)
  rintro e w4 ⟨rfl, hb4, hs4⟩
  have HB4 := Lib.hid hb4
  have HS4 := Lib.hid hs4
  clear hb4 hs4 hsay
  go_wp2
  go_end0
  exact ⟨rfl, by simpa [quoteB] using HB4.out, HS.out.trans HS4.out⟩
end Go.Proofs.YtdbbalcicgllhaaGreatDoor

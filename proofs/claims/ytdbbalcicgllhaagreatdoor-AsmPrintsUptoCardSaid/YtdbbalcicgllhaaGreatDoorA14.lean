import Derived.Test.YtdbbalcicgllhaaGreatDoorA13
namespace Go.Proofs.YtdbbalcicgllhaaGreatDoor
open Go.RowKit

set_option maxRecDepth 100000 in
set_option maxHeartbeats 1600000 in
theorem expr_any (b : Nat) (d : Value) (s : Bytes) (c2 c3 c4 c5 c6 : Value) (w : World) (out : Bytes) (h : Bd 67 [d] b w out) (hl : s.length ≤ 100000000) (ho : out.length ≤ 100000000) :
    Calls Tryz.prog 20 #[.pointer (some ⟨b, 0, none⟩), .agg #[.int .i64 37, .string ⟨s.toArray⟩, c2, c3, c4, c5, c6]] w fun e w' => e = .returned (.tuple #[]) ∧ Bd 67 [d] b w' (out ++ quoteB s) ∧ WStep b w w' := by
  obtain ⟨A, hA⟩ : ∃ A, w.alloc (.cells #[.int .i64 37, .string ⟨s.toArray⟩, c2, c3, c4, c5, c6] 56) = A := ⟨_, rfl⟩
  have huA : Upd (fun _ => False) w A := hA ▸ Upd.alloc _ w _
  have hn := heap_alloc_new w (.cells #[.int .i64 37, .string ⟨s.toArray⟩, c2, c3, c4, c5, c6] 56)
  rw [hA] at hn
  have a0 : A.cell? ⟨w.heap.size, 0, none⟩ = some (.int .i64 37) := by simp [World.cell?, hn]
  have a1 : A.cell? ⟨w.heap.size, 1, none⟩ = some (.string ⟨s.toArray⟩) := by simp [World.cell?, hn]
  have hc := quote_any b d s A out (h.new huA) hl ho
  have HS := Lib.hid (WStep.new h.lt huA)
  clear hn huA h
  go_enter Tryz.func20, Tryz.ntmps20
  go_wp2_with (go_at_call 24; refine hc.mono ?_)
  rintro e w4 ⟨rfl, hb4, hs4⟩
  have HB4 := Lib.hid hb4
  have HS4 := Lib.hid hs4
  clear hb4 hs4 hc
  go_wp2
  go_end0
  exact ⟨rfl, HB4.out, HS.out.trans HS4.out⟩

/-- A writing by a builder that is new keeps what was there. -/
theorem Upd.fresh {T : TypeId} {ex : List Value} {b : Nat} {w w' : World} {w0 : World} (h : Upd (WS b w) w w') (h0 : Upd (fun _ => False) w0 w) (hb : w0.heap.size ≤ b) (hbk : w.heap[b]? = some (.cells (Value.pointer none :: Value.slice none 0 0 :: ex).toArray T (0, 0))) : Upd (fun _ => False) w0 w' := by
  refine h0.trans h ?_
  rintro k hk (e | ⟨v, hv, ho⟩)
  · omega
  · have : v = .slice none 0 0 := by simpa [World.cell?, hbk] using hv.symm
    subst this
    simp [Value.ownBlock] at ho

set_option maxRecDepth 100000 in
set_option maxHeartbeats 1600000 in
theorem Expr_any (s : Bytes) (c2 c3 c4 c5 : Value) (h1 : c2.oneCell' = true ∧ c3.oneCell' = true ∧ c4.oneCell' = true ∧ c5.oneCell' = true) (w : World) (hl : s.length ≤ 100000000) :
    Calls Tryz.prog 15 #[.agg #[.int .i64 37, .string ⟨s.toArray⟩, c2, c3, c4, c5, .slice none 0 0]] w fun e w' => e = .returned (.string ⟨(quoteB s).toArray⟩) ∧ Upd (fun _ => False) w w' := by
  obtain ⟨A, hA⟩ : ∃ A, w.alloc (.cells #[.int .i64 37, .string ⟨s.toArray⟩, c2, c3, c4, c5, .slice none 0 0] 56) = A := ⟨_, rfl⟩
  have huA : Upd (fun _ => False) w A := hA ▸ Upd.alloc _ w _
  have hAs : A.heap.size = w.heap.size + 1 := by rw [← hA, World.size_alloc]
  have hn := heap_alloc_new w (.cells #[.int .i64 37, .string ⟨s.toArray⟩, c2, c3, c4, c5, .slice none 0 0] 56)
  rw [hA] at hn
  obtain ⟨B, hB⟩ : ∃ B, A.alloc (.cells #[.pointer none, .slice none 0 0, .int .i64 0] 67) = B := ⟨_, rfl⟩
  have huB : Upd (fun _ => False) A B := hB ▸ Upd.alloc _ A _
  have hnB := heap_alloc_new A (.cells #[.pointer none, .slice none 0 0, .int .i64 0] 67)
  rw [hB, hAs] at hnB
  have hnA : B.heap[w.heap.size]? = some (.cells #[.int .i64 37, .string ⟨s.toArray⟩, c2, c3, c4, c5, .slice none 0 0] 56 (0, 0)) := huB.at_ hn (fun h => h)
  have hbd : Bd 67 [.int .i64 0] (w.heap.size + 1) B [] := ⟨_, _, hnB, .inl rfl, ⟨rfl, .inl ⟨rfl, rfl⟩⟩, by simp [Value.ownBlock]⟩
  have a0 : B.cell? ⟨w.heap.size, 0, none⟩ = some (.int .i64 37) := by simp [World.cell?, hnA]
  have a1 : B.cell? ⟨w.heap.size, 1, none⟩ = some (.string ⟨s.toArray⟩) := by simp [World.cell?, hnA]
  have a2 : B.cell? ⟨w.heap.size, 2, none⟩ = some c2 := by simp [World.cell?, hnA]
  have a3 : B.cell? ⟨w.heap.size, 3, none⟩ = some c3 := by simp [World.cell?, hnA]
  have a4 : B.cell? ⟨w.heap.size, 4, none⟩ = some c4 := by simp [World.cell?, hnA]
  have a5 : B.cell? ⟨w.heap.size, 5, none⟩ = some c5 := by simp [World.cell?, hnA]
  have a6 : B.cell? ⟨w.heap.size, 6, none⟩ = some (.slice none 0 0) := by simp [World.cell?, hnA]
  have hc := expr_any (w.heap.size + 1) (.int .i64 0) s c2 c3 c4 c5 (.slice none 0 0) B [] hbd hl (by simp)
  have HU := Lib.hid (huA.trans huB (fun _ _ h => h))
  have HNB := Lib.hid hnB
  clear hn hnA hbd hnB huA huB
  go_enter Tryz.func15, Tryz.ntmps15
  go_wp2_with (go_at_call 20; refine hc.mono ?_)
  rintro e w2 ⟨rfl, hb2, hs2⟩
  have hc2 := str_any hb2 (by simp [quoteB])
  have HS2 := Lib.hid hs2
  clear hb2 hs2 hc
  go_wp2_with (go_at_call 17; refine hc2.mono ?_)
  rintro e w3 ⟨rfl, hu3⟩
  have hstep : Upd (WS (w.heap.size + 1) B) B w3 := HS2.out.up.trans hu3 (fun k hk h => h.elim .inl fun ho => .inr (HS2.out.own k hk ho))
  have HF := Lib.hid (hstep.fresh (ex := [.int .i64 0]) (T := 67) HU.out (by omega) HNB.out)
  clear hu3 hstep
  go_wp2
  go_ret
  exact ⟨by simp, HF.out⟩
end Go.Proofs.YtdbbalcicgllhaaGreatDoor

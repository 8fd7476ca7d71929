import Derived.Test.YtdbbalcicgllhaaGreatDoorA18
namespace Go.Proofs.YtdbbalcicgllhaaGreatDoor
open Go.RowKit

structure Ins.ok (x : Ins) : Prop where
  op : -9223372036854775808 ≤ x.op ∧ x.op ≤ 9223372036854775807
  a : -9223372036854775808 ≤ x.a ∧ x.a ≤ 9223372036854775807
  b : -9223372036854775808 ≤ x.b ∧ x.b ≤ 9223372036854775807
  c : -9223372036854775808 ≤ x.c ∧ x.c ≤ 9223372036854775807
  d : -9223372036854775808 ≤ x.d ∧ x.d ≤ 9223372036854775807
  l : ∀ y ∈ x.list, -9223372036854775808 ≤ y ∧ y ≤ 9223372036854775807

def itPos (w : World) (K : Nat) : Nat := match w.heap[K]? with | some (.stringIter _ p) => p | _ => 0
theorem itPos_of {w : World} {K p : Nat} {U : ByteArray} (h : w.heap[K]? = some (.stringIter U p)) : itPos w K = p := by
  unfold itPos
  rw [h]

/-- Ahead of the iterator. -/
structure Pt (b : Nat) (w0 w : World) (I : Nat) (bx : Obj) (S : Nat → Prop) (lv : Value) (l : List Int) (wr : World) (out : Bytes) : Prop where
  st : St b w0 wr out
  ws : WStep b w wr
  ib : wr.heap[I]? = some bx
  ni : ¬ WS b wr I
  row : RowV DInt 1 wr S lv l
  nr : ∀ k, S k → k < wr.heap.size ∧ ¬ WS b wr k
  wI : w.heap.size ≤ I
theorem Pt.step {b : Nat} {w0 w : World} {I : Nat} {bx : Obj} {S : Nat → Prop} {lv : Value} {l : List Int} {wr wr' : World} {out out' : Bytes} (h : Pt b w0 w I bx S lv l wr out) (hs : WStep b wr wr') (hst : St b w0 wr' out') : Pt b w0 w I bx S lv l wr' out' :=
  ⟨hst, h.ws.trans hs, (hs.at_ h.ib h.ni).1, (hs.at_ h.ib h.ni).2, h.row.upd stInt hs.up (fun k hk _ => (h.nr k hk).2),
    fun k hk => ⟨Nat.lt_of_lt_of_le (h.nr k hk).1 hs.up.size, hs.not (h.nr k hk).1 (h.nr k hk).2⟩, h.wI⟩
theorem Pt.new {b : Nat} {w0 w : World} {I : Nat} {bx : Obj} {S : Nat → Prop} {lv : Value} {l : List Int} {wr wr' : World} {out : Bytes} (h : Pt b w0 w I bx S lv l wr out) (hu : Upd (fun _ => False) wr wr') : Pt b w0 w I bx S lv l wr' out :=
  h.step (WStep.new h.st.bd.lt hu) (h.st.new hu)
theorem Pt.start {b : Nat} {w0 w : World} {I : Nat} {bx : Obj} {S : Nat → Prop} {lv : Value} {l : List Int} {wr : World} {out : Bytes} (h : Pt b w0 w I bx S lv l wr out) (U : ByteArray) : It b w0 w I wr.heap.size bx S lv l U (wr.iter U 0) out 0 := by
  have hu : Upd (fun _ => False) wr (wr.iter U 0) := Upd.alloc _ wr _
  have h2 := h.new hu
  have hit : (wr.iter U 0).heap[wr.heap.size]? = some (.stringIter U 0) := heap_alloc_new wr _
  have hI := (Array.getElem?_eq_some_iff.1 h.ib).1
  have hwI := h.wI
  exact ⟨h2.st, h2.ws, h2.ib, h2.ni, h2.row, fun k hk => ⟨(h2.nr k hk).1, (h2.nr k hk).2, by have := (h.nr k hk).1; omega⟩, hit, h2.st.bd.not_ws2 hit (fun cs e => by cases e) (by have := h.st.bd.lt; omega), by omega, by omega⟩

set_option maxRecDepth 100000 in
set_option maxHeartbeats 12800000 in
theorem instr_any (b : Nat) (w0 w : World) (out : Bytes) (k : Int) (hk : -9223372036854775808 ≤ k ∧ k ≤ 9223372036854775807) (x : Ins) (hx : x.ok) (la : Option Addr) (lc : Nat) (S : Nat → Prop) (h : St b w0 w out) (G : Nat) (hG : w.heap[G]? = some (.cells tblCells 59 (0, 0)))
    (hrow : RowV DInt 1 w S (.slice la x.list.length lc) x.list) (hS : ∀ k, S k → k < w.heap.size ∧ ¬ WS b w k) (hll : x.list.length ≤ 100000000) (hfew : out.length + (insTxt k x).length ≤ 900000000) :
    Calls Tryz.prog 16 #[.pointer (some ⟨b, 0, none⟩), .slice (some ⟨G, 0, none⟩) 57 57, .int .i64 k, .agg #[.int .i64 x.op, .int .i64 x.a, .int .i64 x.b, .int .i64 x.c, .int .i64 x.d, .slice la x.list.length lc]] w
      fun e w' => e = .returned (.tuple #[]) ∧ WStep b w w' ∧ St b w0 w' (out ++ insTxt k x) := by
  obtain ⟨n, hn⟩ : ∃ n, x.list.length = n := ⟨_, rfl⟩
  rw [hn] at hrow hll ⊢
  obtain ⟨I, hI⟩ : ∃ I, w.heap.size = I := ⟨_, rfl⟩
  obtain ⟨bx, hbx⟩ : ∃ bx, Obj.cells #[.int .i64 x.op, .int .i64 x.a, .int .i64 x.b, .int .i64 x.c, .int .i64 x.d, .slice la n lc] 34 (0, 0) = bx := ⟨_, rfl⟩
  obtain ⟨A, hA⟩ : ∃ A, w.alloc bx = A := ⟨_, rfl⟩
  have huA : Upd (fun _ => False) w A := hA ▸ Upd.alloc _ w _
  have hAI : A.heap[I]? = some bx := by rw [← hA, ← hI]; exact heap_alloc_new w _
  have hAG : A.heap[G]? = some (.cells tblCells 59 (0, 0)) := huA.at_ hG (fun h => h)
  have hwsA := WStep.new h.bd.lt huA
  have hPt : Pt b w0 w I bx S (.slice la n lc) x.list A out := ⟨h.new huA, hwsA, hAI, (h.new huA).bd.not_ws2 hAI (fun cs e => by rw [← hbx] at e; cases e) (by have := h.bd.lt; omega), hrow.upd stInt huA (fun _ _ _ h => h),
    fun k hk => ⟨Nat.lt_of_lt_of_le (hS k hk).1 huA.size, hwsA.not (hS k hk).1 (hS k hk).2⟩, by omega⟩
  have i0 : A.cell? ⟨I, 0, none⟩ = some (.int .i64 x.op) := by simp [World.cell?, hAI, ← hbx]
  obtain ⟨u, hu⟩ : ∃ u, useOf x.op = u := ⟨_, rfl⟩
  have humem := useOf_mem x.op
  rw [hu] at humem
  have hA' : w.alloc (Obj.cells #[.int .i64 x.op, .int .i64 x.a, .int .i64 x.b, .int .i64 x.c, .int .i64 x.d, .slice la n lc] 34 (0, 0)) = A := by rw [hbx]; exact hA
  have hN := Name_any x.op hx.op.1 hx.op.2 A
  have hw0I : w0.heap.size ≤ I := by rw [← hI]; exact h.st.up.size
  have hpt : ptxt [.s [9], .n k, .s [32], .s (nameOf x.op)] = [9] ++ Lib.itoa k ++ [32] ++ nameOf x.op := by simp [ptxt, Part.t]
  have hsplit : insTxt k x = ptxt [.s [9], .n k, .s [32], .s (nameOf x.op)] ++ usesTxt x u ++ [10] := by rw [hpt, ← hu]; rfl
  rw [hsplit] at hfew ⊢
  obtain ⟨H, hH⟩ : ∃ H, ptxt [.s [9], .n k, .s [32], .s (nameOf x.op)] = H := ⟨_, rfl⟩
  rw [hH] at hfew ⊢
  simp only [List.length_append, List.length_cons, List.length_nil] at hfew
  have hhead : Calls Tryz.prog 11 #[.int .i64 x.op] A fun e w1 => ∃ N : ByteArray, e = .returned (.string N) ∧ Upd (fun _ => False) A w1 ∧
      Calls Tryz.prog 14 #[.pointer (some ⟨b, 0, none⟩), .slice (some ⟨w1.heap.size, 0, none⟩) 4 4] (w1.alloc (.cells #[.iface 9 (.string ⟨#[9]⟩), .iface 3 (.int .i64 k), .iface 9 (.string ⟨#[32]⟩), .iface 9 (.string N)] 20)) fun e w' => e = .returned (.tuple #[]) ∧ WStep b w1 w' ∧ St b w0 w' (out ++ H) := by
    refine hN.mono ?_
    rintro e w1 ⟨rfl, hu1⟩
    refine ⟨⟨(nameOf x.op).toArray⟩, rfl, hu1, ?_⟩
    have := say_new (hPt.new hu1).st [.s [9], .n k, .s [32], .s (nameOf x.op)] 4 rfl (by rw [hH]; omega) (by decide) (by
      intro y hy
      simp at hy
      rcases hy with rfl | rfl | rfl | rfl
      · trivial
      · exact hk
      · trivial
      · trivial)
    rw [hH] at this
    exact this
  obtain ⟨U, hU⟩ : ∃ U : ByteArray, (⟨u.toArray⟩ : ByteArray) = U := ⟨_, rfl⟩
  obtain ⟨m, hum⟩ : ∃ m, u.length = m := ⟨_, rfl⟩
  have hUs : U.size = m := by rw [← hU, ← hum]; simp [ByteArray.size]
  have hug : ∀ (i : Nat) (c : UInt8) (hlt : i < U.size), u[i]? = some c → (U[i]'hlt).toNat = c.toNat := by
    intro i c hlt hc
    subst hU
    have : (⟨u.toArray⟩ : ByteArray)[i]'hlt = c := by
      have h2 : u[i]'(by rw [hum, ← hUs]; exact hlt) = c := by
        rw [List.getElem?_eq_getElem (by rw [hum, ← hUs]; exact hlt)] at hc
        exact Option.some.inj hc
      exact h2
    rw [this]
  have hcellU : ∀ z : Nat, x.op = z → 1 ≤ z → z ≤ 56 → A.cell? ⟨G, z * 2 + 1, none⟩ = some (.string U) := by
    intro z hz h1 h2
    have e : u = (tbl.getD z ([], [])).2 := by
      rw [← hu]
      unfold useOf entry
      rw [hz, if_pos (by omega)]
      rfl
    simp only [World.cell?, hAG]
    rw [(tblCells_at z (by omega)).2, ← hU, e]
    rfl
  have hU0 : ¬ (1 ≤ x.op ∧ x.op ≤ 56) → U = ⟨#[]⟩ := by
    intro hz
    have e : u = [] := by
      rw [← hu]
      unfold useOf entry
      rw [if_neg hz]
    rw [← hU, e]
  have HUM := Lib.hid hum
  have HUG := Lib.hid hug
  have HMEM := Lib.hid humem
  have HHEAD := Lib.hid hhead
  have HPT := Lib.hid hPt
  have HBX := Lib.hid hbx
  have HX := Lib.hid hx
  have HN := Lib.hid hn
  clear hhead hN hAI hA hrow hS hx hwsA h hG huA hsplit hpt hH hbx hn hAG hum hug humem hPt hU hu
  go_enter Tryz.func16, Tryz.ntmps16
  by_cases hz : 1 ≤ x.op ∧ x.op ≤ 56
  · obtain ⟨z, hzz⟩ : ∃ z : Nat, x.op = z := ⟨x.op.toNat, by omega⟩
    have hcz := hcellU z hzz (by omega) (by omega)
    rw [hzz] at i0 HHEAD
    have g1 : (1 : Int) ≤ z := by omega
    have g2 : (z : Int) < 57 := by omega
    rw [hzz] at hA' ⊢
    clear hz hU0 hcellU
    go_wp2_with (go_at_call 11; refine HHEAD.out.mono ?_; rintro e w1 ⟨NN, rfl, hu1, hsay⟩; have HP1 := Lib.hid (HPT.out.new hu1); have HSAY := Lib.hid hsay; clear hu1 hsay)
    go_wp2_with (go_at_call 14; refine HSAY.out.mono ?_)
    rintro e w2 ⟨rfl, hs2, hst2⟩
    have P2 := HP1.out.step hs2 hst2
    obtain ⟨K, hK⟩ : ∃ K, w2.heap.size = K := ⟨_, rfl⟩
    have I0 := P2.start U
    rw [hK] at I0
    have HI0 := Lib.hid I0
    have hwK : w0.heap.size ≤ K := Nat.le_trans hw0I (by have := P2.ib; have := (Array.getElem?_eq_some_iff.1 this).1; omega)
    clear hs2 hst2 P2 I0
    go_wp2_with fail
    go_loopw [10] (fun _ wr => ∃ p : Nat, p ≤ m ∧ It b w0 w I K bx S (.slice la n lc) x.list U wr (out ++ H ++ usesTxt x (u.take p)) p) (fun _ wr => m - itPos wr K)
    case atStart => exact ⟨0, Nat.zero_le _, by simpa [usesTxt] using HI0.out⟩
    case round =>
      obtain ⟨p, hp, hit⟩ := hrel
      have HIT := Lib.hid hit
      by_cases hlt : p < m
      · have hpU : p < U.size := by rw [hUs]; exact hlt
        obtain ⟨c, hc⟩ : ∃ c, u[p]? = some c := ⟨_, List.getElem?_eq_getElem (by rw [HUM.out]; exact hlt)⟩
        have hUc := HUG.out p c hpU hc
        have hcm := HMEM.out c (List.mem_of_getElem? hc)
        have hnx : ∀ ty, (Instr.next (.pointer (some ⟨K, 0, none⟩)) true ty).run Tryz.prog wr = .ok (.tuple #[.bool true, .int .i64 p, .int .i32 (c.toNat : Int)]) (wr.iterAt K U (p + 1)) := by
          intro ty
          rw [Lib.run_next_ascii_at wr K U p ty hit.it hpU (by rw [hUc]; rcases hcm with rfl | rfl | rfl | rfl | rfl <;> decide), hUc]
        obtain ⟨w1, hw1⟩ : ∃ w1, wr.iterAt K U (p + 1) = w1 := ⟨_, rfl⟩
        have I1 := hit.next (p + 1) hwK
        rw [hw1] at hnx I1
        have hstep := usesTxt_step x u p c hc
        have hle := usesTxt_le x u (p + 1)
        rw [hstep, List.length_append] at hle
        have hlen : (out ++ H ++ usesTxt x (u.take p)).length + (useTxt x c).length ≤ 900000000 := by simp only [List.length_append]; omega
        have HSTEP := Lib.hid hstep
        clear hstep hle hUc hc hpU hw1 hit
        rcases hcm with rfl | rfl | rfl | rfl | rfl
        · have hcell : w1.cell? ⟨I, 1, none⟩ = some (.int .i64 x.a) := by simp [World.cell?, I1.ib, ← HBX.out]
          have huse : useTxt x 65 = ptxt [.s [32], .n x.a] := by simp [useTxt, ptxt, Part.t]
          have hsay := say_new I1.st [.s [32], .n x.a] 2 rfl (by rw [← huse]; omega) (by decide) (by
            intro y hy
            simp at hy
            rcases hy with rfl | rfl
            · trivial
            · exact HX.out.a)
          rw [← huse] at hsay
          have hx2 : ((65 : UInt8).toNat : Int) = 65 := rfl
          rw [hx2] at hnx
          have H1 := Lib.hid I1
          have HSAY := Lib.hid hsay
          clear I1 hsay huse hx2 hlen
          go_wp2_with (go_at_call 14; refine HSAY.out.mono ?_)
          rintro e w2 ⟨rfl, hs2, hst2⟩
          have I2 := Lib.hid (H1.out.step hs2 hst2)
          clear hs2 hst2 hnx
          go_wp2
          go_roundw
          case rel => exact ⟨p + 1, by omega, by rw [HSTEP.out, ← List.append_assoc]; exact I2.out⟩
          case measure => rw [itPos_of I2.out.it, itPos_of HIT.out.it]; omega
        · have hcell : w1.cell? ⟨I, 2, none⟩ = some (.int .i64 x.b) := by simp [World.cell?, I1.ib, ← HBX.out]
          have huse : useTxt x 66 = ptxt [.s [32], .n x.b] := by simp [useTxt, ptxt, Part.t]
          have hsay := say_new I1.st [.s [32], .n x.b] 2 rfl (by rw [← huse]; omega) (by decide) (by
            intro y hy
            simp at hy
            rcases hy with rfl | rfl
            · trivial
            · exact HX.out.b)
          rw [← huse] at hsay
          have hx2 : ((66 : UInt8).toNat : Int) = 66 := rfl
          rw [hx2] at hnx
          have H1 := Lib.hid I1
          have HSAY := Lib.hid hsay
          clear I1 hsay huse hx2 hlen
          go_wp2_with (go_at_call 14; refine HSAY.out.mono ?_)
          rintro e w2 ⟨rfl, hs2, hst2⟩
          have I2 := Lib.hid (H1.out.step hs2 hst2)
          clear hs2 hst2 hnx
          go_wp2
          go_roundw
          case rel => exact ⟨p + 1, by omega, by rw [HSTEP.out, ← List.append_assoc]; exact I2.out⟩
          case measure => rw [itPos_of I2.out.it, itPos_of HIT.out.it]; omega
        · have hcell : w1.cell? ⟨I, 3, none⟩ = some (.int .i64 x.c) := by simp [World.cell?, I1.ib, ← HBX.out]
          have huse : useTxt x 67 = ptxt [.s [32], .n x.c] := by simp [useTxt, ptxt, Part.t]
          have hsay := say_new I1.st [.s [32], .n x.c] 2 rfl (by rw [← huse]; omega) (by decide) (by
            intro y hy
            simp at hy
            rcases hy with rfl | rfl
            · trivial
            · exact HX.out.c)
          rw [← huse] at hsay
          have hx2 : ((67 : UInt8).toNat : Int) = 67 := rfl
          rw [hx2] at hnx
          have H1 := Lib.hid I1
          have HSAY := Lib.hid hsay
          clear I1 hsay huse hx2 hlen
          go_wp2_with (go_at_call 14; refine HSAY.out.mono ?_)
          rintro e w2 ⟨rfl, hs2, hst2⟩
          have I2 := Lib.hid (H1.out.step hs2 hst2)
          clear hs2 hst2 hnx
          go_wp2
          go_roundw
          case rel => exact ⟨p + 1, by omega, by rw [HSTEP.out, ← List.append_assoc]; exact I2.out⟩
          case measure => rw [itPos_of I2.out.it, itPos_of HIT.out.it]; omega
        · have hcell : w1.cell? ⟨I, 4, none⟩ = some (.int .i64 x.d) := by simp [World.cell?, I1.ib, ← HBX.out]
          have huse : useTxt x 68 = ptxt [.s [32], .n x.d] := by simp [useTxt, ptxt, Part.t]
          have hsay := say_new I1.st [.s [32], .n x.d] 2 rfl (by rw [← huse]; omega) (by decide) (by
            intro y hy
            simp at hy
            rcases hy with rfl | rfl
            · trivial
            · exact HX.out.d)
          rw [← huse] at hsay
          have hx2 : ((68 : UInt8).toNat : Int) = 68 := rfl
          rw [hx2] at hnx
          have H1 := Lib.hid I1
          have HSAY := Lib.hid hsay
          clear I1 hsay huse hx2 hlen
          go_wp2_with (go_at_call 14; refine HSAY.out.mono ?_)
          rintro e w2 ⟨rfl, hs2, hst2⟩
          have I2 := Lib.hid (H1.out.step hs2 hst2)
          clear hs2 hst2 hnx
          go_wp2
          go_roundw
          case rel => exact ⟨p + 1, by omega, by rw [HSTEP.out, ← List.append_assoc]; exact I2.out⟩
          case measure => rw [itPos_of I2.out.it, itPos_of HIT.out.it]; omega
        · have hlcell : w1.cell? ⟨I, 5, none⟩ = some (.slice la n lc) := by simp [World.cell?, I1.ib, ← HBX.out]
          have huse : useTxt x 76 = ptxt [.s [32, 91]] ++ listTxt x.list ++ ptxt [.s [93]] := by simp [useTxt, ptxt, Part.t]
          rw [huse] at hlen
          simp only [List.length_append] at hlen
          have hsay := say_new I1.st [.s [32, 91]] 1 rfl (by simp only [List.length_append]; omega) (by decide) (by
            intro y hy
            simp at hy
            subst hy
            trivial)
          have hx2 : ((76 : UInt8).toNat : Int) = 76 := rfl
          rw [hx2] at hnx
          have H1 := Lib.hid I1
          have HSAY := Lib.hid hsay
          have HUSE := Lib.hid huse
          clear I1 hsay huse hx2
          go_wp2_with (go_at_call 14; refine HSAY.out.mono ?_)
          rintro e w2 ⟨rfl, hs2, hst2⟩
          have I2 := H1.out.step hs2 hst2
          have hlcell2 : w2.cell? ⟨I, 5, none⟩ = some (.slice la n lc) := by simp [World.cell?, I2.ib, ← HBX.out]
          obtain ⟨O2, hO2⟩ : ∃ O2, out ++ H ++ usesTxt x (List.take p u) ++ ptxt [.s [32, 91]] = O2 := ⟨_, rfl⟩
          have hO2l : O2.length + (listTxt x.list).length + (ptxt [.s [93]]).length ≤ 900000000 := by rw [← hO2]; simp only [List.length_append]; omega
          rw [hO2] at I2
          have HI2 := Lib.hid I2
          have HO2 := Lib.hid hO2
          have HLEN := Lib.hid hO2l
          clear hs2 hst2 hnx I2 hlen hO2 hO2l hlcell
          go_wp2_with fail
          clear hlcell2
          go_loopw [53] (fun i wr => ∃ j : Nat, j ≤ n ∧ i = .int .i64 j ∧ It b w0 w I K bx S (.slice la n lc) x.list U wr (O2 ++ listTxt (x.list.take j)) (p + 1)) (fun i _ => n - (intOf i).toNat)
          case atStart => exact ⟨0, Nat.zero_le _, rfl, by simpa [listTxt] using HI2.out⟩
          case round =>
          obtain ⟨j, hj, rfl, hij⟩ := hrel
          have HIJ := Lib.hid hij
          by_cases hjn : j < n
          · have hjl : j < x.list.length := by rw [HN.out]; exact hjn
            obtain ⟨g, go, vs, rfl, _, hvc, hD0⟩ := hij.row.dest j hjl
            obtain ⟨y, hy⟩ : ∃ y, x.list[j] = y := ⟨_, rfl⟩
            have hyq : x.list[j]? = some y := by rw [List.getElem?_eq_getElem hjl, hy]
            have hD : vs = [.int .i64 x.list[j]] := hD0
            clear hD0
            rw [hy] at hD
            subst hD
            have hcell := hvc 0 _ rfl
            rw [Nat.mul_one, Nat.add_zero] at hcell
            have hst := listTxt_step x.list j y hyq
            have hle := listTxt_le x.list (j + 1)
            have hyok := HX.out.l y (List.mem_of_getElem? hyq)
            rw [hst] at hle
            simp only [List.length_append] at hle
            have HST := Lib.hid hst
            have HYOK := Lib.hid hyok
            have hLEN := HLEN.out
            clear hst hyok hyq hy hjl hvc hij
            by_cases hj0 : j = 0
            · subst hj0
              rw [Nat.add_zero] at hcell
              rw [if_pos rfl] at hle
              have hsay := say_new HIJ.out.st [.n y] 1 rfl (by rw [List.length_append]; simp only [ptxt, List.map_cons, List.map_nil, List.flatten_cons, List.flatten_nil, List.append_nil, Part.t]; simp only [List.length_nil] at hle; omega) (by decide) (by
                intro z hz
                simp at hz
                subst hz
                exact HYOK.out)
              have HSAY2 := Lib.hid hsay
              clear hsay hle hLEN
              go_wp2_with (go_at_call 14; refine HSAY2.out.mono ?_; rintro e w3 ⟨rfl, hs3, hst3⟩; have I3 := Lib.hid (HIJ.out.step hs3 hst3); clear hs3 hst3)
              go_roundw
              case rel => exact ⟨0 + 1, by omega, by rfl, by rw [HST.out]; have := I3.out; simpa [ptxt, Part.t] using this⟩
              case measure => simp [intOf]; omega
            · rw [if_neg hj0] at hle
              have hj1 : (0 : Int) < j := by omega
              have hsay := say_new HIJ.out.st [.s [32]] 1 rfl (by simp [ptxt, Part.t] at hle ⊢; omega) (by decide) (by
                intro z hz
                simp at hz
                subst hz
                trivial)
              have HSAY2 := Lib.hid hsay
              clear hsay
              go_wp2_with (go_at_call 14; refine HSAY2.out.mono ?_)
              rintro e w3 ⟨rfl, hs3, hst3⟩
              have I3 := HIJ.out.step hs3 hst3
              have hsay := say_new I3.st [.n y] 1 rfl (by simp [ptxt, Part.t] at hle ⊢; omega) (by decide) (by
                intro z hz
                simp at hz
                subst hz
                exact HYOK.out)
              have HSAY3 := Lib.hid hsay
              have HI3 := Lib.hid I3
              clear hsay hle hLEN hs3 hst3 I3
              go_wp2_with (go_at_call 14; refine HSAY3.out.mono ?_)
              rintro e w4 ⟨rfl, hs4, hst4⟩
              have I4 := Lib.hid (HI3.out.step hs4 hst4)
              clear hs4 hst4
              go_wp2
              go_roundw
              case rel => exact ⟨j + 1, by omega, by go_num, by rw [HST.out, if_neg hj0]; have := I4.out; simpa [ptxt, Part.t] using this⟩
              case measure => simp [intOf]; omega
          · have hjeq : j = n := by omega
            have hall : x.list.take j = x.list := by rw [hjeq, ← HN.out]; exact List.take_length
            rw [hall] at hij
            have hLEN := HLEN.out
            have hsay := say_new hij.st [.s [93]] 1 rfl (by rw [List.length_append]; omega) (by decide) (by
              intro z hz
              simp at hz
              subst hz
              trivial)
            have HSAY2 := Lib.hid hsay
            have HIJ2 := Lib.hid hij
            clear hsay hij HIJ hall hLEN
            go_wp2_with (go_at_call 14; refine HSAY2.out.mono ?_)
            rintro e w3 ⟨rfl, hs3, hst3⟩
            have I3 := Lib.hid (HIJ2.out.step hs3 hst3)
            clear hs3 hst3
            go_wp2
            go_roundw
            case rel => exact ⟨p + 1, by omega, by rw [HSTEP.out, HUSE.out, ← List.append_assoc, ← List.append_assoc, ← List.append_assoc, HO2.out]; exact I3.out⟩
            case measure => rw [itPos_of I3.out.it, itPos_of HIT.out.it]; omega
      · have hpm : p = m := by omega
        have hall : u.take p = u := by rw [hpm, ← HUM.out]; exact List.take_length
        have hne : ∀ ty, (Instr.next (.pointer (some ⟨K, 0, none⟩)) true ty).run Tryz.prog wr = .ok (.tuple #[.bool false]) wr := fun ty => Lib.run_next_end_at wr K U p ty hit.it (by rw [hUs]; exact hlt)
        rw [hall] at hit
        have hsay := say_new hit.st [.s [10]] 1 rfl (by simp [ptxt, Part.t]; omega) (by decide) (by
          intro z hz
          simp at hz
          subst hz
          trivial)
        have HSAY2 := Lib.hid hsay
        have HIT2 := Lib.hid hit
        clear hsay hit HIT hall
        go_wp2_with (go_at_call 14; refine HSAY2.out.mono ?_)
        rintro e w3 ⟨rfl, hs3, hst3⟩
        have HWS3 := Lib.hid (HIT2.out.ws.trans hs3)
        have HST3 := Lib.hid hst3
        clear hs3 hst3
        go_wp2
        go_end0
        exact ⟨rfl, HWS3.out, by have := HST3.out; simpa [ptxt, Part.t] using this⟩
  · have hU00 := hU0 hz
    clear hcellU hU0
    subst hU00
    by_cases hz1 : 1 ≤ x.op
    · have g2 : ¬ x.op < 57 := by omega
      clear hz
      go_wp2_with (go_at_call 11; refine HHEAD.out.mono ?_; rintro e w1 ⟨NN, rfl, hu1, hsay⟩; have HP1 := Lib.hid (HPT.out.new hu1); have HSAY := Lib.hid hsay; clear hu1 hsay)
      go_wp2_with (go_at_call 14; refine HSAY.out.mono ?_)
      rintro e w2 ⟨rfl, hs2, hst2⟩
      have P2 := HP1.out.step hs2 hst2
      obtain ⟨K, hK⟩ : ∃ K, w2.heap.size = K := ⟨_, rfl⟩
      have I0 := P2.start (⟨#[]⟩ : ByteArray)
      rw [hK] at I0
      have HI0 := Lib.hid I0
      have hwK : w0.heap.size ≤ K := Nat.le_trans hw0I (by have := P2.ib; have := (Array.getElem?_eq_some_iff.1 this).1; omega)
      clear hs2 hst2 P2 I0
      go_wp2_with fail
      go_loopw [10] (fun _ wr => ∃ p : Nat, p ≤ m ∧ It b w0 w I K bx S (.slice la n lc) x.list (⟨#[]⟩ : ByteArray) wr (out ++ H ++ usesTxt x (u.take p)) p) (fun _ wr => m - itPos wr K)
      case atStart => exact ⟨0, Nat.zero_le _, by simpa [usesTxt] using HI0.out⟩
      case round =>
        obtain ⟨p, hp, hit⟩ := hrel
        have HIT := Lib.hid hit
        by_cases hlt : p < m
        · have hpU : p < (⟨#[]⟩ : ByteArray).size := by rw [hUs]; exact hlt
          obtain ⟨c, hc⟩ : ∃ c, u[p]? = some c := ⟨_, List.getElem?_eq_getElem (by rw [HUM.out]; exact hlt)⟩
          have hUc := HUG.out p c hpU hc
          have hcm := HMEM.out c (List.mem_of_getElem? hc)
          have hnx : ∀ ty, (Instr.next (.pointer (some ⟨K, 0, none⟩)) true ty).run Tryz.prog wr = .ok (.tuple #[.bool true, .int .i64 p, .int .i32 (c.toNat : Int)]) (wr.iterAt K (⟨#[]⟩ : ByteArray) (p + 1)) := by
            intro ty
            rw [Lib.run_next_ascii_at wr K (⟨#[]⟩ : ByteArray) p ty hit.it hpU (by rw [hUc]; rcases hcm with rfl | rfl | rfl | rfl | rfl <;> decide), hUc]
          obtain ⟨w1, hw1⟩ : ∃ w1, wr.iterAt K (⟨#[]⟩ : ByteArray) (p + 1) = w1 := ⟨_, rfl⟩
          have I1 := hit.next (p + 1) hwK
          rw [hw1] at hnx I1
          have hstep := usesTxt_step x u p c hc
          have hle := usesTxt_le x u (p + 1)
          rw [hstep, List.length_append] at hle
          have hlen : (out ++ H ++ usesTxt x (u.take p)).length + (useTxt x c).length ≤ 900000000 := by simp only [List.length_append]; omega
          have HSTEP := Lib.hid hstep
          clear hstep hle hUc hc hpU hw1 hit
          rcases hcm with rfl | rfl | rfl | rfl | rfl
          · have hcell : w1.cell? ⟨I, 1, none⟩ = some (.int .i64 x.a) := by simp [World.cell?, I1.ib, ← HBX.out]
            have huse : useTxt x 65 = ptxt [.s [32], .n x.a] := by simp [useTxt, ptxt, Part.t]
            have hsay := say_new I1.st [.s [32], .n x.a] 2 rfl (by rw [← huse]; omega) (by decide) (by
              intro y hy
              simp at hy
              rcases hy with rfl | rfl
              · trivial
              · exact HX.out.a)
            rw [← huse] at hsay
            have hx2 : ((65 : UInt8).toNat : Int) = 65 := rfl
            rw [hx2] at hnx
            have H1 := Lib.hid I1
            have HSAY := Lib.hid hsay
            clear I1 hsay huse hx2 hlen
            go_wp2_with (go_at_call 14; refine HSAY.out.mono ?_)
            rintro e w2 ⟨rfl, hs2, hst2⟩
            have I2 := Lib.hid (H1.out.step hs2 hst2)
            clear hs2 hst2 hnx
            go_wp2
            go_roundw
            case rel => exact ⟨p + 1, by omega, by rw [HSTEP.out, ← List.append_assoc]; exact I2.out⟩
            case measure => rw [itPos_of I2.out.it, itPos_of HIT.out.it]; omega
          · have hcell : w1.cell? ⟨I, 2, none⟩ = some (.int .i64 x.b) := by simp [World.cell?, I1.ib, ← HBX.out]
            have huse : useTxt x 66 = ptxt [.s [32], .n x.b] := by simp [useTxt, ptxt, Part.t]
            have hsay := say_new I1.st [.s [32], .n x.b] 2 rfl (by rw [← huse]; omega) (by decide) (by
              intro y hy
              simp at hy
              rcases hy with rfl | rfl
              · trivial
              · exact HX.out.b)
            rw [← huse] at hsay
            have hx2 : ((66 : UInt8).toNat : Int) = 66 := rfl
            rw [hx2] at hnx
            have H1 := Lib.hid I1
            have HSAY := Lib.hid hsay
            clear I1 hsay huse hx2 hlen
            go_wp2_with (go_at_call 14; refine HSAY.out.mono ?_)
            rintro e w2 ⟨rfl, hs2, hst2⟩
            have I2 := Lib.hid (H1.out.step hs2 hst2)
            clear hs2 hst2 hnx
            go_wp2
            go_roundw
            case rel => exact ⟨p + 1, by omega, by rw [HSTEP.out, ← List.append_assoc]; exact I2.out⟩
            case measure => rw [itPos_of I2.out.it, itPos_of HIT.out.it]; omega
          · have hcell : w1.cell? ⟨I, 3, none⟩ = some (.int .i64 x.c) := by simp [World.cell?, I1.ib, ← HBX.out]
            have huse : useTxt x 67 = ptxt [.s [32], .n x.c] := by simp [useTxt, ptxt, Part.t]
            have hsay := say_new I1.st [.s [32], .n x.c] 2 rfl (by rw [← huse]; omega) (by decide) (by
              intro y hy
              simp at hy
              rcases hy with rfl | rfl
              · trivial
              · exact HX.out.c)
            rw [← huse] at hsay
            have hx2 : ((67 : UInt8).toNat : Int) = 67 := rfl
            rw [hx2] at hnx
            have H1 := Lib.hid I1
            have HSAY := Lib.hid hsay
            clear I1 hsay huse hx2 hlen
            go_wp2_with (go_at_call 14; refine HSAY.out.mono ?_)
            rintro e w2 ⟨rfl, hs2, hst2⟩
            have I2 := Lib.hid (H1.out.step hs2 hst2)
            clear hs2 hst2 hnx
            go_wp2
            go_roundw
            case rel => exact ⟨p + 1, by omega, by rw [HSTEP.out, ← List.append_assoc]; exact I2.out⟩
            case measure => rw [itPos_of I2.out.it, itPos_of HIT.out.it]; omega
          · have hcell : w1.cell? ⟨I, 4, none⟩ = some (.int .i64 x.d) := by simp [World.cell?, I1.ib, ← HBX.out]
            have huse : useTxt x 68 = ptxt [.s [32], .n x.d] := by simp [useTxt, ptxt, Part.t]
            have hsay := say_new I1.st [.s [32], .n x.d] 2 rfl (by rw [← huse]; omega) (by decide) (by
              intro y hy
              simp at hy
              rcases hy with rfl | rfl
              · trivial
              · exact HX.out.d)
            rw [← huse] at hsay
            have hx2 : ((68 : UInt8).toNat : Int) = 68 := rfl
            rw [hx2] at hnx
            have H1 := Lib.hid I1
            have HSAY := Lib.hid hsay
            clear I1 hsay huse hx2 hlen
            go_wp2_with (go_at_call 14; refine HSAY.out.mono ?_)
            rintro e w2 ⟨rfl, hs2, hst2⟩
            have I2 := Lib.hid (H1.out.step hs2 hst2)
            clear hs2 hst2 hnx
            go_wp2
            go_roundw
            case rel => exact ⟨p + 1, by omega, by rw [HSTEP.out, ← List.append_assoc]; exact I2.out⟩
            case measure => rw [itPos_of I2.out.it, itPos_of HIT.out.it]; omega
          · have hlcell : w1.cell? ⟨I, 5, none⟩ = some (.slice la n lc) := by simp [World.cell?, I1.ib, ← HBX.out]
            have huse : useTxt x 76 = ptxt [.s [32, 91]] ++ listTxt x.list ++ ptxt [.s [93]] := by simp [useTxt, ptxt, Part.t]
            rw [huse] at hlen
            simp only [List.length_append] at hlen
            have hsay := say_new I1.st [.s [32, 91]] 1 rfl (by simp only [List.length_append]; omega) (by decide) (by
              intro y hy
              simp at hy
              subst hy
              trivial)
            have hx2 : ((76 : UInt8).toNat : Int) = 76 := rfl
            rw [hx2] at hnx
            have H1 := Lib.hid I1
            have HSAY := Lib.hid hsay
            have HUSE := Lib.hid huse
            clear I1 hsay huse hx2
            go_wp2_with (go_at_call 14; refine HSAY.out.mono ?_)
            rintro e w2 ⟨rfl, hs2, hst2⟩
            have I2 := H1.out.step hs2 hst2
            have hlcell2 : w2.cell? ⟨I, 5, none⟩ = some (.slice la n lc) := by simp [World.cell?, I2.ib, ← HBX.out]
            obtain ⟨O2, hO2⟩ : ∃ O2, out ++ H ++ usesTxt x (List.take p u) ++ ptxt [.s [32, 91]] = O2 := ⟨_, rfl⟩
            have hO2l : O2.length + (listTxt x.list).length + (ptxt [.s [93]]).length ≤ 900000000 := by rw [← hO2]; simp only [List.length_append]; omega
            rw [hO2] at I2
            have HI2 := Lib.hid I2
            have HO2 := Lib.hid hO2
            have HLEN := Lib.hid hO2l
            clear hs2 hst2 hnx I2 hlen hO2 hO2l hlcell
            go_wp2_with fail
            clear hlcell2
            go_loopw [53] (fun i wr => ∃ j : Nat, j ≤ n ∧ i = .int .i64 j ∧ It b w0 w I K bx S (.slice la n lc) x.list (⟨#[]⟩ : ByteArray) wr (O2 ++ listTxt (x.list.take j)) (p + 1)) (fun i _ => n - (intOf i).toNat)
            case atStart => exact ⟨0, Nat.zero_le _, rfl, by simpa [listTxt] using HI2.out⟩
            case round =>
            obtain ⟨j, hj, rfl, hij⟩ := hrel
            have HIJ := Lib.hid hij
            by_cases hjn : j < n
            · have hjl : j < x.list.length := by rw [HN.out]; exact hjn
              obtain ⟨g, go, vs, rfl, _, hvc, hD0⟩ := hij.row.dest j hjl
              obtain ⟨y, hy⟩ : ∃ y, x.list[j] = y := ⟨_, rfl⟩
              have hyq : x.list[j]? = some y := by rw [List.getElem?_eq_getElem hjl, hy]
              have hD : vs = [.int .i64 x.list[j]] := hD0
              clear hD0
              rw [hy] at hD
              subst hD
              have hcell := hvc 0 _ rfl
              rw [Nat.mul_one, Nat.add_zero] at hcell
              have hst := listTxt_step x.list j y hyq
              have hle := listTxt_le x.list (j + 1)
              have hyok := HX.out.l y (List.mem_of_getElem? hyq)
              rw [hst] at hle
              simp only [List.length_append] at hle
              have HST := Lib.hid hst
              have HYOK := Lib.hid hyok
              have hLEN := HLEN.out
              clear hst hyok hyq hy hjl hvc hij
              by_cases hj0 : j = 0
              · subst hj0
                rw [Nat.add_zero] at hcell
                rw [if_pos rfl] at hle
                have hsay := say_new HIJ.out.st [.n y] 1 rfl (by rw [List.length_append]; simp only [ptxt, List.map_cons, List.map_nil, List.flatten_cons, List.flatten_nil, List.append_nil, Part.t]; simp only [List.length_nil] at hle; omega) (by decide) (by
                  intro z hz
                  simp at hz
                  subst hz
                  exact HYOK.out)
                have HSAY2 := Lib.hid hsay
                clear hsay hle hLEN
                go_wp2_with (go_at_call 14; refine HSAY2.out.mono ?_; rintro e w3 ⟨rfl, hs3, hst3⟩; have I3 := Lib.hid (HIJ.out.step hs3 hst3); clear hs3 hst3)
                go_roundw
                case rel => exact ⟨0 + 1, by omega, by rfl, by rw [HST.out]; have := I3.out; simpa [ptxt, Part.t] using this⟩
                case measure => simp [intOf]; omega
              · rw [if_neg hj0] at hle
                have hj1 : (0 : Int) < j := by omega
                have hsay := say_new HIJ.out.st [.s [32]] 1 rfl (by simp [ptxt, Part.t] at hle ⊢; omega) (by decide) (by
                  intro z hz
                  simp at hz
                  subst hz
                  trivial)
                have HSAY2 := Lib.hid hsay
                clear hsay
                go_wp2_with (go_at_call 14; refine HSAY2.out.mono ?_)
                rintro e w3 ⟨rfl, hs3, hst3⟩
                have I3 := HIJ.out.step hs3 hst3
                have hsay := say_new I3.st [.n y] 1 rfl (by simp [ptxt, Part.t] at hle ⊢; omega) (by decide) (by
                  intro z hz
                  simp at hz
                  subst hz
                  exact HYOK.out)
                have HSAY3 := Lib.hid hsay
                have HI3 := Lib.hid I3
                clear hsay hle hLEN hs3 hst3 I3
                go_wp2_with (go_at_call 14; refine HSAY3.out.mono ?_)
                rintro e w4 ⟨rfl, hs4, hst4⟩
                have I4 := Lib.hid (HI3.out.step hs4 hst4)
                clear hs4 hst4
                go_wp2
                go_roundw
                case rel => exact ⟨j + 1, by omega, by go_num, by rw [HST.out, if_neg hj0]; have := I4.out; simpa [ptxt, Part.t] using this⟩
                case measure => simp [intOf]; omega
            · have hjeq : j = n := by omega
              have hall : x.list.take j = x.list := by rw [hjeq, ← HN.out]; exact List.take_length
              rw [hall] at hij
              have hLEN := HLEN.out
              have hsay := say_new hij.st [.s [93]] 1 rfl (by rw [List.length_append]; omega) (by decide) (by
                intro z hz
                simp at hz
                subst hz
                trivial)
              have HSAY2 := Lib.hid hsay
              have HIJ2 := Lib.hid hij
              clear hsay hij HIJ hall hLEN
              go_wp2_with (go_at_call 14; refine HSAY2.out.mono ?_)
              rintro e w3 ⟨rfl, hs3, hst3⟩
              have I3 := Lib.hid (HIJ2.out.step hs3 hst3)
              clear hs3 hst3
              go_wp2
              go_roundw
              case rel => exact ⟨p + 1, by omega, by rw [HSTEP.out, HUSE.out, ← List.append_assoc, ← List.append_assoc, ← List.append_assoc, HO2.out]; exact I3.out⟩
              case measure => rw [itPos_of I3.out.it, itPos_of HIT.out.it]; omega
        · have hpm : p = m := by omega
          have hall : u.take p = u := by rw [hpm, ← HUM.out]; exact List.take_length
          have hne : ∀ ty, (Instr.next (.pointer (some ⟨K, 0, none⟩)) true ty).run Tryz.prog wr = .ok (.tuple #[.bool false]) wr := fun ty => Lib.run_next_end_at wr K (⟨#[]⟩ : ByteArray) p ty hit.it (by rw [hUs]; exact hlt)
          rw [hall] at hit
          have hsay := say_new hit.st [.s [10]] 1 rfl (by simp [ptxt, Part.t]; omega) (by decide) (by
            intro z hz
            simp at hz
            subst hz
            trivial)
          have HSAY2 := Lib.hid hsay
          have HIT2 := Lib.hid hit
          clear hsay hit HIT hall
          go_wp2_with (go_at_call 14; refine HSAY2.out.mono ?_)
          rintro e w3 ⟨rfl, hs3, hst3⟩
          have HWS3 := Lib.hid (HIT2.out.ws.trans hs3)
          have HST3 := Lib.hid hst3
          clear hs3 hst3
          go_wp2
          go_end0
          exact ⟨rfl, HWS3.out, by have := HST3.out; simpa [ptxt, Part.t] using this⟩
    · clear hz
      go_wp2_with (go_at_call 11; refine HHEAD.out.mono ?_; rintro e w1 ⟨NN, rfl, hu1, hsay⟩; have HP1 := Lib.hid (HPT.out.new hu1); have HSAY := Lib.hid hsay; clear hu1 hsay)
      go_wp2_with (go_at_call 14; refine HSAY.out.mono ?_)
      rintro e w2 ⟨rfl, hs2, hst2⟩
      have P2 := HP1.out.step hs2 hst2
      obtain ⟨K, hK⟩ : ∃ K, w2.heap.size = K := ⟨_, rfl⟩
      have I0 := P2.start (⟨#[]⟩ : ByteArray)
      rw [hK] at I0
      have HI0 := Lib.hid I0
      have hwK : w0.heap.size ≤ K := Nat.le_trans hw0I (by have := P2.ib; have := (Array.getElem?_eq_some_iff.1 this).1; omega)
      clear hs2 hst2 P2 I0
      go_wp2_with fail
      go_loopw [10] (fun _ wr => ∃ p : Nat, p ≤ m ∧ It b w0 w I K bx S (.slice la n lc) x.list (⟨#[]⟩ : ByteArray) wr (out ++ H ++ usesTxt x (u.take p)) p) (fun _ wr => m - itPos wr K)
      case atStart => exact ⟨0, Nat.zero_le _, by simpa [usesTxt] using HI0.out⟩
      case round =>
        obtain ⟨p, hp, hit⟩ := hrel
        have HIT := Lib.hid hit
        by_cases hlt : p < m
        · have hpU : p < (⟨#[]⟩ : ByteArray).size := by rw [hUs]; exact hlt
          obtain ⟨c, hc⟩ : ∃ c, u[p]? = some c := ⟨_, List.getElem?_eq_getElem (by rw [HUM.out]; exact hlt)⟩
          have hUc := HUG.out p c hpU hc
          have hcm := HMEM.out c (List.mem_of_getElem? hc)
          have hnx : ∀ ty, (Instr.next (.pointer (some ⟨K, 0, none⟩)) true ty).run Tryz.prog wr = .ok (.tuple #[.bool true, .int .i64 p, .int .i32 (c.toNat : Int)]) (wr.iterAt K (⟨#[]⟩ : ByteArray) (p + 1)) := by
            intro ty
            rw [Lib.run_next_ascii_at wr K (⟨#[]⟩ : ByteArray) p ty hit.it hpU (by rw [hUc]; rcases hcm with rfl | rfl | rfl | rfl | rfl <;> decide), hUc]
          obtain ⟨w1, hw1⟩ : ∃ w1, wr.iterAt K (⟨#[]⟩ : ByteArray) (p + 1) = w1 := ⟨_, rfl⟩
          have I1 := hit.next (p + 1) hwK
          rw [hw1] at hnx I1
          have hstep := usesTxt_step x u p c hc
          have hle := usesTxt_le x u (p + 1)
          rw [hstep, List.length_append] at hle
          have hlen : (out ++ H ++ usesTxt x (u.take p)).length + (useTxt x c).length ≤ 900000000 := by simp only [List.length_append]; omega
          have HSTEP := Lib.hid hstep
          clear hstep hle hUc hc hpU hw1 hit
          rcases hcm with rfl | rfl | rfl | rfl | rfl
          · have hcell : w1.cell? ⟨I, 1, none⟩ = some (.int .i64 x.a) := by simp [World.cell?, I1.ib, ← HBX.out]
            have huse : useTxt x 65 = ptxt [.s [32], .n x.a] := by simp [useTxt, ptxt, Part.t]
            have hsay := say_new I1.st [.s [32], .n x.a] 2 rfl (by rw [← huse]; omega) (by decide) (by
              intro y hy
              simp at hy
              rcases hy with rfl | rfl
              · trivial
              · exact HX.out.a)
            rw [← huse] at hsay
            have hx2 : ((65 : UInt8).toNat : Int) = 65 := rfl
            rw [hx2] at hnx
            have H1 := Lib.hid I1
            have HSAY := Lib.hid hsay
            clear I1 hsay huse hx2 hlen
            go_wp2_with (go_at_call 14; refine HSAY.out.mono ?_)
            rintro e w2 ⟨rfl, hs2, hst2⟩
            have I2 := Lib.hid (H1.out.step hs2 hst2)
            clear hs2 hst2 hnx
            go_wp2
            go_roundw
            case rel => exact ⟨p + 1, by omega, by rw [HSTEP.out, ← List.append_assoc]; exact I2.out⟩
            case measure => rw [itPos_of I2.out.it, itPos_of HIT.out.it]; omega
          · have hcell : w1.cell? ⟨I, 2, none⟩ = some (.int .i64 x.b) := by simp [World.cell?, I1.ib, ← HBX.out]
            have huse : useTxt x 66 = ptxt [.s [32], .n x.b] := by simp [useTxt, ptxt, Part.t]
            have hsay := say_new I1.st [.s [32], .n x.b] 2 rfl (by rw [← huse]; omega) (by decide) (by
              intro y hy
              simp at hy
              rcases hy with rfl | rfl
              · trivial
              · exact HX.out.b)
            rw [← huse] at hsay
            have hx2 : ((66 : UInt8).toNat : Int) = 66 := rfl
            rw [hx2] at hnx
            have H1 := Lib.hid I1
            have HSAY := Lib.hid hsay
            clear I1 hsay huse hx2 hlen
            go_wp2_with (go_at_call 14; refine HSAY.out.mono ?_)
            rintro e w2 ⟨rfl, hs2, hst2⟩
            have I2 := Lib.hid (H1.out.step hs2 hst2)
            clear hs2 hst2 hnx
            go_wp2
            go_roundw
            case rel => exact ⟨p + 1, by omega, by rw [HSTEP.out, ← List.append_assoc]; exact I2.out⟩
            case measure => rw [itPos_of I2.out.it, itPos_of HIT.out.it]; omega
          · have hcell : w1.cell? ⟨I, 3, none⟩ = some (.int .i64 x.c) := by simp [World.cell?, I1.ib, ← HBX.out]
            have huse : useTxt x 67 = ptxt [.s [32], .n x.c] := by simp [useTxt, ptxt, Part.t]
            have hsay := say_new I1.st [.s [32], .n x.c] 2 rfl (by rw [← huse]; omega) (by decide) (by
              intro y hy
              simp at hy
              rcases hy with rfl | rfl
              · trivial
              · exact HX.out.c)
            rw [← huse] at hsay
            have hx2 : ((67 : UInt8).toNat : Int) = 67 := rfl
            rw [hx2] at hnx
            have H1 := Lib.hid I1
            have HSAY := Lib.hid hsay
            clear I1 hsay huse hx2 hlen
            go_wp2_with (go_at_call 14; refine HSAY.out.mono ?_)
            rintro e w2 ⟨rfl, hs2, hst2⟩
            have I2 := Lib.hid (H1.out.step hs2 hst2)
            clear hs2 hst2 hnx
            go_wp2
            go_roundw
            case rel => exact ⟨p + 1, by omega, by rw [HSTEP.out, ← List.append_assoc]; exact I2.out⟩
            case measure => rw [itPos_of I2.out.it, itPos_of HIT.out.it]; omega
          · have hcell : w1.cell? ⟨I, 4, none⟩ = some (.int .i64 x.d) := by simp [World.cell?, I1.ib, ← HBX.out]
            have huse : useTxt x 68 = ptxt [.s [32], .n x.d] := by simp [useTxt, ptxt, Part.t]
            have hsay := say_new I1.st [.s [32], .n x.d] 2 rfl (by rw [← huse]; omega) (by decide) (by
              intro y hy
              simp at hy
              rcases hy with rfl | rfl
              · trivial
              · exact HX.out.d)
            rw [← huse] at hsay
            have hx2 : ((68 : UInt8).toNat : Int) = 68 := rfl
            rw [hx2] at hnx
            have H1 := Lib.hid I1
            have HSAY := Lib.hid hsay
            clear I1 hsay huse hx2 hlen
            go_wp2_with (go_at_call 14; refine HSAY.out.mono ?_)
            rintro e w2 ⟨rfl, hs2, hst2⟩
            have I2 := Lib.hid (H1.out.step hs2 hst2)
            clear hs2 hst2 hnx
            go_wp2
            go_roundw
            case rel => exact ⟨p + 1, by omega, by rw [HSTEP.out, ← List.append_assoc]; exact I2.out⟩
            case measure => rw [itPos_of I2.out.it, itPos_of HIT.out.it]; omega
          · have hlcell : w1.cell? ⟨I, 5, none⟩ = some (.slice la n lc) := by simp [World.cell?, I1.ib, ← HBX.out]
            have huse : useTxt x 76 = ptxt [.s [32, 91]] ++ listTxt x.list ++ ptxt [.s [93]] := by simp [useTxt, ptxt, Part.t]
            rw [huse] at hlen
            simp only [List.length_append] at hlen
            have hsay := say_new I1.st [.s [32, 91]] 1 rfl (by simp only [List.length_append]; omega) (by decide) (by
              intro y hy
              simp at hy
              subst hy
              trivial)
            have hx2 : ((76 : UInt8).toNat : Int) = 76 := rfl
            rw [hx2] at hnx
            have H1 := Lib.hid I1
            have HSAY := Lib.hid hsay
            have HUSE := Lib.hid huse
            clear I1 hsay huse hx2
            go_wp2_with (go_at_call 14; refine HSAY.out.mono ?_)
            rintro e w2 ⟨rfl, hs2, hst2⟩
            have I2 := H1.out.step hs2 hst2
            have hlcell2 : w2.cell? ⟨I, 5, none⟩ = some (.slice la n lc) := by simp [World.cell?, I2.ib, ← HBX.out]
            obtain ⟨O2, hO2⟩ : ∃ O2, out ++ H ++ usesTxt x (List.take p u) ++ ptxt [.s [32, 91]] = O2 := ⟨_, rfl⟩
            have hO2l : O2.length + (listTxt x.list).length + (ptxt [.s [93]]).length ≤ 900000000 := by rw [← hO2]; simp only [List.length_append]; omega
            rw [hO2] at I2
            have HI2 := Lib.hid I2
            have HO2 := Lib.hid hO2
            have HLEN := Lib.hid hO2l
            clear hs2 hst2 hnx I2 hlen hO2 hO2l hlcell
            go_wp2_with fail
            clear hlcell2
            go_loopw [53] (fun i wr => ∃ j : Nat, j ≤ n ∧ i = .int .i64 j ∧ It b w0 w I K bx S (.slice la n lc) x.list (⟨#[]⟩ : ByteArray) wr (O2 ++ listTxt (x.list.take j)) (p + 1)) (fun i _ => n - (intOf i).toNat)
            case atStart => exact ⟨0, Nat.zero_le _, rfl, by simpa [listTxt] using HI2.out⟩
            case round =>
            obtain ⟨j, hj, rfl, hij⟩ := hrel
            have HIJ := Lib.hid hij
            by_cases hjn : j < n
            · have hjl : j < x.list.length := by rw [HN.out]; exact hjn
              obtain ⟨g, go, vs, rfl, _, hvc, hD0⟩ := hij.row.dest j hjl
              obtain ⟨y, hy⟩ : ∃ y, x.list[j] = y := ⟨_, rfl⟩
              have hyq : x.list[j]? = some y := by rw [List.getElem?_eq_getElem hjl, hy]
              have hD : vs = [.int .i64 x.list[j]] := hD0
              clear hD0
              rw [hy] at hD
              subst hD
              have hcell := hvc 0 _ rfl
              rw [Nat.mul_one, Nat.add_zero] at hcell
              have hst := listTxt_step x.list j y hyq
              have hle := listTxt_le x.list (j + 1)
              have hyok := HX.out.l y (List.mem_of_getElem? hyq)
              rw [hst] at hle
              simp only [List.length_append] at hle
              have HST := Lib.hid hst
              have HYOK := Lib.hid hyok
              have hLEN := HLEN.out
              clear hst hyok hyq hy hjl hvc hij
              by_cases hj0 : j = 0
              · subst hj0
                rw [Nat.add_zero] at hcell
                rw [if_pos rfl] at hle
                have hsay := say_new HIJ.out.st [.n y] 1 rfl (by rw [List.length_append]; simp only [ptxt, List.map_cons, List.map_nil, List.flatten_cons, List.flatten_nil, List.append_nil, Part.t]; simp only [List.length_nil] at hle; omega) (by decide) (by
                  intro z hz
                  simp at hz
                  subst hz
                  exact HYOK.out)
                have HSAY2 := Lib.hid hsay
                clear hsay hle hLEN
                go_wp2_with (go_at_call 14; refine HSAY2.out.mono ?_; rintro e w3 ⟨rfl, hs3, hst3⟩; have I3 := Lib.hid (HIJ.out.step hs3 hst3); clear hs3 hst3)
                go_roundw
                case rel => exact ⟨0 + 1, by omega, by rfl, by rw [HST.out]; have := I3.out; simpa [ptxt, Part.t] using this⟩
                case measure => simp [intOf]; omega
              · rw [if_neg hj0] at hle
                have hj1 : (0 : Int) < j := by omega
                have hsay := say_new HIJ.out.st [.s [32]] 1 rfl (by simp [ptxt, Part.t] at hle ⊢; omega) (by decide) (by
                  intro z hz
                  simp at hz
                  subst hz
                  trivial)
                have HSAY2 := Lib.hid hsay
                clear hsay
                go_wp2_with (go_at_call 14; refine HSAY2.out.mono ?_)
                rintro e w3 ⟨rfl, hs3, hst3⟩
                have I3 := HIJ.out.step hs3 hst3
                have hsay := say_new I3.st [.n y] 1 rfl (by simp [ptxt, Part.t] at hle ⊢; omega) (by decide) (by
                  intro z hz
                  simp at hz
                  subst hz
                  exact HYOK.out)
                have HSAY3 := Lib.hid hsay
                have HI3 := Lib.hid I3
                clear hsay hle hLEN hs3 hst3 I3
                go_wp2_with (go_at_call 14; refine HSAY3.out.mono ?_)
                rintro e w4 ⟨rfl, hs4, hst4⟩
                have I4 := Lib.hid (HI3.out.step hs4 hst4)
                clear hs4 hst4
                go_wp2
                go_roundw
                case rel => exact ⟨j + 1, by omega, by go_num, by rw [HST.out, if_neg hj0]; have := I4.out; simpa [ptxt, Part.t] using this⟩
                case measure => simp [intOf]; omega
            · have hjeq : j = n := by omega
              have hall : x.list.take j = x.list := by rw [hjeq, ← HN.out]; exact List.take_length
              rw [hall] at hij
              have hLEN := HLEN.out
              have hsay := say_new hij.st [.s [93]] 1 rfl (by rw [List.length_append]; omega) (by decide) (by
                intro z hz
                simp at hz
                subst hz
                trivial)
              have HSAY2 := Lib.hid hsay
              have HIJ2 := Lib.hid hij
              clear hsay hij HIJ hall hLEN
              go_wp2_with (go_at_call 14; refine HSAY2.out.mono ?_)
              rintro e w3 ⟨rfl, hs3, hst3⟩
              have I3 := Lib.hid (HIJ2.out.step hs3 hst3)
              clear hs3 hst3
              go_wp2
              go_roundw
              case rel => exact ⟨p + 1, by omega, by rw [HSTEP.out, HUSE.out, ← List.append_assoc, ← List.append_assoc, ← List.append_assoc, HO2.out]; exact I3.out⟩
              case measure => rw [itPos_of I3.out.it, itPos_of HIT.out.it]; omega
        · have hpm : p = m := by omega
          have hall : u.take p = u := by rw [hpm, ← HUM.out]; exact List.take_length
          have hne : ∀ ty, (Instr.next (.pointer (some ⟨K, 0, none⟩)) true ty).run Tryz.prog wr = .ok (.tuple #[.bool false]) wr := fun ty => Lib.run_next_end_at wr K (⟨#[]⟩ : ByteArray) p ty hit.it (by rw [hUs]; exact hlt)
          rw [hall] at hit
          have hsay := say_new hit.st [.s [10]] 1 rfl (by simp [ptxt, Part.t]; omega) (by decide) (by
            intro z hz
            simp at hz
            subst hz
            trivial)
          have HSAY2 := Lib.hid hsay
          have HIT2 := Lib.hid hit
          clear hsay hit HIT hall
          go_wp2_with (go_at_call 14; refine HSAY2.out.mono ?_)
          rintro e w3 ⟨rfl, hs3, hst3⟩
          have HWS3 := Lib.hid (HIT2.out.ws.trans hs3)
          have HST3 := Lib.hid hst3
          clear hs3 hst3
          go_wp2
          go_end0
          exact ⟨rfl, HWS3.out, by have := HST3.out; simpa [ptxt, Part.t] using this⟩
end Go.Proofs.YtdbbalcicgllhaaGreatDoor

import Derived.Test.YtdbbalcicgllhaaGreatDoorA7
namespace Go.Proofs.YtdbbalcicgllhaaGreatDoor
open Go.RowKit

theorem wpList_append_run {w w' : World} {v' : Value} {ops : Array Oper} {rest : List Oper} {o : Oper} {a : Act} {Q : Exit → Act → World → Prop} (hgd : o.guard = none) (sl x : Operand) (t u : TypeId)
    (ho : o.op = .call { callee := .builtin .append, args := #[sl, x], argTypes := #[t, u] })
    (hr : (Builtin.append_ #[t, u] o.type #[a.eval sl, a.eval x]).run Tryz.prog w = .ok v' w')
    (h : wpList Tryz.prog ops Q rest (a.put o.dst v') w') : wpList Tryz.prog ops Q (o :: rest) a w := by
  refine wpList_plain hgd fun K hK => ?_
  unfold Oper.wp execOp
  simp only [ho, resolve, invoke, builtin, Sem.run_bind, Sem.run_pure, Result.andThen_ok, List.map_toArray, List.map_cons, List.map_nil, hr]
  exact hK _ _ h

theorem z129all : Tryz.zeroCells129.toList.take 256 = List.replicate 256 (Value.slice none 0 0) := by kernel_rfl
theorem bi_start (w : World) : BI (w.heap.size + 1) w.heap.size 0 (((w.alloc (.cells #[.string ⟨#[]⟩, .string ⟨#[]⟩, .string ⟨#[]⟩] 9)).alloc (.cells Tryz.zeroCells129 129)).setRow (w.heap.size + 1) (Tryz.zeroCells129.toList.set 256 (.slice (some ⟨w.heap.size, 0, none⟩) 0 3)).toArray) := by
  obtain ⟨A, hA⟩ : ∃ A, w.alloc (.cells #[.string ⟨#[]⟩, .string ⟨#[]⟩, .string ⟨#[]⟩] 9) = A := ⟨_, rfl⟩
  have hAs : A.heap.size = w.heap.size + 1 := by rw [← hA, World.size_alloc]
  have hAZ : A.heap[w.heap.size]? = some (.cells #[.string ⟨#[]⟩, .string ⟨#[]⟩, .string ⟨#[]⟩] 9 (0, 0)) := by rw [← hA]; exact heap_alloc_new w _
  rw [hA]
  have hBY : (A.alloc (.cells Tryz.zeroCells129 129)).heap[w.heap.size + 1]? = some (.cells Tryz.zeroCells129 129 (0, 0)) := by rw [← hAs]; exact heap_alloc_new A _
  have hBZ : (A.alloc (.cells Tryz.zeroCells129 129)).heap[w.heap.size]? = some (.cells #[.string ⟨#[]⟩, .string ⟨#[]⟩, .string ⟨#[]⟩] 9 (0, 0)) := by rw [Below.heap_alloc A _ _ (by omega)]; exact hAZ
  have hlen : Tryz.zeroCells129.toList.length = 257 := z129size
  refine ⟨⟨_, setRow_heap _ _ _ _ _ _ hBY, ?_, ?_, ?_⟩, ⟨#[.string ⟨#[]⟩, .string ⟨#[]⟩, .string ⟨#[]⟩], ?_, rfl, fun i x h => by omega⟩⟩
  · rw [List.size_toArray, List.length_set]; exact hlen
  · rw [List.getElem?_toArray, List.getElem?_set_self (by rw [hlen]; decide)]
  · intro c hc
    refine ⟨.slice none 0 0, ?_, rfl⟩
    rw [List.getElem?_toArray, List.getElem?_set_ne (by omega), ← List.getElem?_take_of_lt hc, z129all, List.getElem?_replicate, if_pos hc]
  · rw [setRow_other _ _ _ _ (by omega)]; exact hBZ

set_option maxRecDepth 100000 in
set_option maxHeartbeats 3200000 in
theorem build_any (R O cp : Nat) (c0 c1 c2 c3 : Value) (os : Array Value) (fr : Nat × Nat) (w : World) (hR : w.heap[R]? = some (.cells #[c0, c1, c2, c3, .slice (some ⟨O, 0, none⟩) 6 cp] 102 (0, 0)))
    (hO : w.heap[O]? = some (.cells os 9 fr)) (hos : ∀ (i : Nat) (x : Bytes), olds[i]? = some x → os[i]? = some (.string ⟨x.toArray⟩)) :
    Calls Tryz.prog 55 #[.pointer (some ⟨R, 0, none⟩)] w fun e w' => ∃ Y, e = .returned (.iface 130 (.pointer (some ⟨Y, 0, none⟩))) ∧ Upd (fun _ => False) w w' ∧ w.heap.size ≤ Y ∧ ∃ Z, BI Y Z 3 w' := by
  obtain ⟨i0, hi, hz0, hz1, hz2⟩ := info_parts i22
  have r4 : w.cell? ⟨R, 4, none⟩ = some (.slice (some ⟨O, 0, none⟩) 6 cp) := by simp [World.cell?, hR]
  have cell : ∀ (i : Nat) (x : Bytes), olds[i]? = some x → w.cell? ⟨O, i, none⟩ = some (.string ⟨x.toArray⟩) := fun i x h => by simp [World.cell?, hO, hos i x h]
  have o0 := cell 0 _ rfl
  have o1 := cell 1 _ rfl
  have o2 := cell 2 _ rfl
  have o3 := cell 3 _ rfl
  have o4 := cell 4 _ rfl
  have o5 := cell 5 _ rfl
  have hOlt : O < w.heap.size := (Array.getElem?_eq_some_iff.1 hO).1
  clear cell hos hR hO
  have hmk := mk22
  have hst : ∀ (W : World), (storeCells ⟨W.heap.size + 1, 0, none⟩ (Tryz.zeroCells129.toList.set 256 (.slice (some ⟨W.heap.size, 0, none⟩) 0 3))).run Tryz.prog ((W.alloc (.cells #[.string ⟨#[]⟩, .string ⟨#[]⟩, .string ⟨#[]⟩] 9)).alloc (.cells Tryz.zeroCells129 129)) = .ok () (((W.alloc (.cells #[.string ⟨#[]⟩, .string ⟨#[]⟩, .string ⟨#[]⟩] 9)).alloc (.cells Tryz.zeroCells129 129)).setRow (W.heap.size + 1) (Tryz.zeroCells129.toList.set 256 (.slice (some ⟨W.heap.size, 0, none⟩) 0 3)).toArray) := fun W => st129 _ rfl _ _ (by have := heap_alloc_new (W.alloc (.cells #[.string ⟨#[]⟩, .string ⟨#[]⟩, .string ⟨#[]⟩] 9)) (.cells Tryz.zeroCells129 129); rwa [World.size_alloc] at this)
  go_enter Tryz.func55, Tryz.ntmps55
  go_wp2
  go_loopw [4, 5] (fun b i wr => w = wr ∧ ((b = .bool true ∧ i = .int .i64 0) ∨ (b = .bool false ∧ (i = .int .i64 2 ∨ i = .int .i64 4 ∨ i = .int .i64 6)))) (fun _ i _ => 6 - (intOf i).toNat)
  case atStart => exact ⟨rfl, .inl ⟨rfl, rfl⟩⟩
  case round =>
    obtain ⟨rfl, hrel⟩ := hrel
    rcases hrel with ⟨rfl, rfl⟩ | ⟨rfl, rfl | rfl | rfl⟩
    · go_wp2_with fail
      go_roundw
      case rel => refine ⟨trivial, ?_⟩; exact (.inr ⟨rfl, .inl rfl⟩)
      case measure => simp [intOf]
    · go_wp2_with fail
      go_roundw
      case rel => refine ⟨trivial, ?_⟩; exact (.inr ⟨rfl, .inr (.inl rfl)⟩)
      case measure => simp [intOf]
    · go_wp2_with fail
      go_roundw
      case rel => refine ⟨trivial, ?_⟩; exact (.inr ⟨rfl, .inr (.inr rfl)⟩)
      case measure => simp [intOf]
    · go_wp2_with fail
      go_loopw [12] (fun i wr => ∃ k : Nat, k ≤ 3 ∧ i = .int .i64 (4 - 2 * (k : Int)) ∧ Upd (fun _ => False) w wr ∧ BI (w.heap.size + 1) w.heap.size k wr) (fun i _ => (intOf i + 2).toNat)
      case atStart =>
        refine ⟨0, by omega, rfl, ?_, bi_start w⟩
        exact ((Upd.alloc (fun _ => False) w _).trans (Upd.alloc (fun _ => False) _ _) (fun _ _ h => h)).trans (Upd.setRow (S := fun b => b = w.heap.size + 1) _ _ _ rfl) (fun k hk h => by omega)
      case round =>
        obtain ⟨k, hk, rfl, hu, hbi⟩ := hrel
        have HU := Lib.hid hu
        have HB := Lib.hid hbi
        by_cases hk3 : k < 3
        · have p0 := hu.cell o0 (fun h => h)
          have p1 := hu.cell o1 (fun h => h)
          have p2 := hu.cell o2 (fun h => h)
          have p3 := hu.cell o3 (fun h => h)
          have p4 := hu.cell o4 (fun h => h)
          have p5 := hu.cell o5 (fun h => h)
          have Q := q43
          have rp := round_pack (w.heap.size + 1) w.heap.size k wr hbi hk3
          have c256 : wr.cell? ⟨w.heap.size + 1, 256, none⟩ = some (.slice (some ⟨w.heap.size, 0, none⟩) k 3) := by
            obtain ⟨⟨arr, hy, hys, h256, hc⟩, _⟩ := hbi
            simp [World.cell?, hy, h256]
          have ck : ∀ c, keys[k]? = some c → wr.cell? ⟨w.heap.size + 1, c.toNat, none⟩ = some (.slice none 0 0) := by
            intro c hkc
            obtain ⟨⟨arr, hy, hys, h256, hc⟩, _⟩ := hbi
            obtain ⟨v, hv, hr⟩ := hc c.toNat c.toNat_lt
            rw [if_neg] at hr
            · have hr : v = .slice none 0 0 := hr
              subst hr
              simp [World.cell?, hy, hv]
            · rw [UInt8.ofNat_toNat]
              have : k = 0 ∨ k = 1 ∨ k = 2 := by omega
              rcases this with rfl | rfl | rfl <;> simp [keys] at hkc ⊢ <;> subst hkc <;> decide
          clear hmk hst hu hbi o0 o1 o2 o3 o4 o5 r4 hk
          have fin : ∀ (W : World), Upd (fun b => b = w.heap.size + 1 ∨ b = w.heap.size) wr W → Upd (fun _ => False) w W := fun W hW => HU.out.trans hW (fun j hj h => by rcases h with h | h <;> omega)
          obtain rfl | rfl | rfl : k = 0 ∨ k = 1 ∨ k = 2 := by omega
          · obtain ⟨w2, w4, cp2, hap, hc2, hf2, hcv, hc4, hf4, hu5, hb5⟩ := rp 92 rfl 92 rfl ⟨#[92, 92]⟩ rfl (by omega)
            have c1 : wr.cell? ⟨w.heap.size + 1, 92, none⟩ = some (.slice none 0 0) := ck 92 rfl
            have ix : (((⟨#[92]⟩ : ByteArray)[0]'(by decide)).toNat : Int) = 92 := rfl
            have cv := cv43 92
            have hx : ((92 : UInt8).toNat : Int) = 92 := rfl
            have hx2 : (92 : UInt8).toNat = 92 := rfl
            rw [hx] at cv
            rw [hx2] at hc4 hf4 hu5 hb5
            have HU5 := Lib.hid (fin _ hu5)
            have HB5 := Lib.hid hb5
            clear ck rp hu5 hb5 fin
            go_wp2_with (at_builtin; refine wpList_append_run rfl _ _ 22 22 rfl hap ?_)
            go_roundw
            case rel => exact ⟨1, by decide, rfl, HU5.out, HB5.out⟩
            case measure => decide
          · obtain ⟨w2, w4, cp2, hap, hc2, hf2, hcv, hc4, hf4, hu5, hb5⟩ := rp 34 rfl 34 rfl ⟨#[92, 34]⟩ rfl (by omega)
            have c1 : wr.cell? ⟨w.heap.size + 1, 34, none⟩ = some (.slice none 0 0) := ck 34 rfl
            have ix : (((⟨#[34]⟩ : ByteArray)[0]'(by decide)).toNat : Int) = 34 := rfl
            have cv := cv43 34
            have hx : ((34 : UInt8).toNat : Int) = 34 := rfl
            have hx2 : (34 : UInt8).toNat = 34 := rfl
            rw [hx] at cv
            rw [hx2] at hc4 hf4 hu5 hb5
            have HU5 := Lib.hid (fin _ hu5)
            have HB5 := Lib.hid hb5
            clear ck rp hu5 hb5 fin
            go_wp2_with (at_builtin; refine wpList_append_run rfl _ _ 22 22 rfl hap ?_)
            go_roundw
            case rel => exact ⟨2, by decide, rfl, HU5.out, HB5.out⟩
            case measure => decide
          · obtain ⟨w2, w4, cp2, hap, hc2, hf2, hcv, hc4, hf4, hu5, hb5⟩ := rp 10 rfl 10 rfl ⟨#[92, 110]⟩ rfl (by omega)
            have c1 : wr.cell? ⟨w.heap.size + 1, 10, none⟩ = some (.slice none 0 0) := ck 10 rfl
            have ix : (((⟨#[10]⟩ : ByteArray)[0]'(by decide)).toNat : Int) = 10 := rfl
            have cv := cv43 10
            have hx : ((10 : UInt8).toNat : Int) = 10 := rfl
            have hx2 : (10 : UInt8).toNat = 10 := rfl
            rw [hx] at cv
            rw [hx2] at hc4 hf4 hu5 hb5
            have HU5 := Lib.hid (fin _ hu5)
            have HB5 := Lib.hid hb5
            clear ck rp hu5 hb5 fin
            go_wp2_with (at_builtin; refine wpList_append_run rfl _ _ 22 22 rfl hap ?_)
            go_roundw
            case rel => exact ⟨3, by decide, rfl, HU5.out, HB5.out⟩
            case measure => decide
        · have : k = 3 := by omega
          subst this
          go_wp2_with fail
          go_ret
          exact ⟨_, rfl, HU.out, by omega, _, HB.out⟩
end Go.Proofs.YtdbbalcicgllhaaGreatDoor

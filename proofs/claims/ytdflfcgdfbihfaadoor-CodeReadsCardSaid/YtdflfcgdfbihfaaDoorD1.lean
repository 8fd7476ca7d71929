import Derived.Test.YtdflfcgdfbihfaaDoorC6
namespace Go.Proofs.YtdflfcgdfbihfaaDoor
open Go.RowKit CodeText

/-- The writer at block 'Q': its row, the call's own from 'B' on, reads as these bytes. -/
structure Wr (B Q : Nat) (w : World) (out : Bytes) : Prop where
  at_ : ∃ v, w.heap[Q]? = some (.cells #[v] 63 (0, 0)) ∧ w.ownsRow B 5 1 v out.length (out.map fun b => .int .u8 b.toNat) ∧ v.ownBlock ≠ some Q ∧ ∃ a n c, v = .slice a n c
  few : out.length ≤ 1000000
  lo : B ≤ w.heap.size

/-- What a step of the writer may turn: its block, and the blocks of its rows. -/
def QS (B Q : Nat) (k : Nat) : Prop := k = Q ∨ B ≤ k

theorem Wr.upd {B Q : Nat} {w w' : World} {out : Bytes} {S : Nat → Prop} (h : Wr B Q w out) (hu : Upd S w w') (h1 : ¬ S Q) (h2 : ∀ k, B ≤ k → k < w.heap.size → ¬ S k) : Wr B Q w' out := by
  obtain ⟨⟨v, k1, k2, k3, k4⟩, hf, hl⟩ := h
  exact ⟨⟨v, (hu.block Q (Array.getElem?_eq_some_iff.1 k1).1 h1).trans k1, ownsRow_upd k2 hu (fun k hk => h2 k (k2.lt k hk).1 (k2.lt k hk).2), k3, k4⟩, hf, Nat.le_trans hl hu.size⟩

theorem ubyte (u : Nat) (h : u < 128) : (UInt8.ofNat u).toNat = u := toNat_ofNat (by omega)

theorem uenc_step_small {u : Nat} (h : u < 128) : uenc u = [UInt8.ofNat u] := uenc_small h

theorem u8_or128 (x : Nat) (h : x < 128) : bits .or .u8 (x : Int) 128 = ((x + 128 : Nat) : Int) := by
  have key : ∀ n : Fin 128, bits .or .u8 ((n.val : Nat) : Int) 128 = ((n.val + 128 : Nat) : Int) := by decide +kernel
  exact key ⟨x, h⟩

/-- The blocks that are neither the writer's nor its row's stay. -/
def Keep (Q : Nat) (w w' : World) : Prop := ∀ t, t < w.heap.size → t ≠ Q → (∀ v, w.heap[Q]? = some (.cells #[v] 63 (0, 0)) → v.ownBlock ≠ some t) →
  w'.heap[t]? = w.heap[t]? ∧ ∀ v, w'.heap[Q]? = some (.cells #[v] 63 (0, 0)) → v.ownBlock ≠ some t
theorem Keep.refl (Q : Nat) (w : World) : Keep Q w w := fun _ _ _ h => ⟨rfl, h⟩
theorem Keep.trans {Q : Nat} {a b c : World} (h : Keep Q a b) (k : Keep Q b c) (hs : a.heap.size ≤ b.heap.size) : Keep Q a c := fun t ht hq hv =>
  have h1 := h t ht hq hv
  have h2 := k t (Nat.lt_of_lt_of_le ht hs) hq h1.2
  ⟨h2.1.trans h1.1, h2.2⟩

theorem append_one {B Q : Nat} {w w2 : World} {out : Bytes} {v' : Value} {b : UInt8} {v : Value} (h : Wr B Q w out) (hv : w.cell? ⟨Q, 0, none⟩ = some v) (hQ : Q < B) (o : Obj)
    (hown : w2.ownsRow B 5 1 v' (out.length + 1) ((out.map fun b => Value.int .u8 b.toNat) ++ [.int .u8 b.toNat])) (hg : (w.alloc o).grownBy w2 v.ownBlock) (hat : v'.ownBlock = v.ownBlock ∨ v'.ownBlock = some (w.heap.size + 1))
    (hf : out.length ≤ 999999) (hsl : ∃ a n c, v' = .slice a n c) :
    Upd (QS B Q) w (w2.setCell ⟨Q, 0, none⟩ v') ∧ Wr B Q (w2.setCell ⟨Q, 0, none⟩ v') (out ++ [b]) ∧ Keep Q w (w2.setCell ⟨Q, 0, none⟩ v') := by
  obtain ⟨⟨v0, k1, k2, k3, k4⟩, hfw, hl⟩ := h
  have hv0 : v0 = v := by
    have : w.cell? ⟨Q, 0, none⟩ = some v0 := by simp [World.cell?, k1]
    rw [this] at hv
    exact Option.some.inj hv
  subst hv0
  have hb := fun k hk => k2.lt k hk
  have hu : Upd (fun k => v0.ownBlock = some k) w w2 := (Upd.alloc (fun k => v0.ownBlock = some k) w o).trans (Upd.grown hg (S := fun k => v0.ownBlock = some k) (fun k hk => hk)) (fun _ _ h => h)
  have hq : w2.heap[Q]? = some (.cells #[v0] 63 (0, 0)) := (hu.block Q (Array.getElem?_eq_some_iff.1 k1).1 (fun h => k3 h)).trans k1
  have hne : v'.ownBlock ≠ some Q := by
    rcases hat with hat | hat
    · rw [hat]; exact k3
    · rw [hat]; intro hh; injection hh with hh; omega
  have hup : Upd (QS B Q) w (w2.setCell ⟨Q, 0, none⟩ v') := ⟨hu.os, hu.tape, hu.output, by simpa [World.setCell] using hu.size, fun k hk hS => by
    rw [Below.heap_setCell _ _ _ _ (fun e => hS (.inl e))]
    exact hu.block k hk (fun h => hS (.inr (hb k h).1))⟩
  have hq' : (w2.setCell ⟨Q, 0, none⟩ v').heap[Q]? = some (.cells #[v'] 63 (0, 0)) := by simp [World.setCell, Array.getElem?_modify, hq]
  refine ⟨hup, ⟨⟨v', hq', ?_, hne, hsl⟩, by simp; omega, Nat.le_trans hl hup.size⟩, ?_⟩
  · rw [List.length_append, List.map_append]
    exact ownsRow_upd hown (Upd.setCell (S := fun k => k = Q) w2 _ _ rfl) (fun k hk e => hne (by rw [hk, e]))
  · intro t ht htQ hvt
    refine ⟨?_, ?_⟩
    · rw [Below.heap_setCell _ _ _ _ htQ]
      exact hu.block t ht (hvt v0 k1)
    · intro v hv2
      rw [hq'] at hv2
      injection hv2 with hv2
      injection hv2 with hv2 _ _
      have : v = v' := by simpa using hv2.symm
      subst this
      rcases hat with hat | hat
      · rw [hat]; exact hvt v0 k1
      · rw [hat]; intro hh; injection hh with hh; omega

theorem ownsRow_shape {B : Nat} {e : TypeId} {size : Nat} {v : Value} {n : Nat} {xs : List Value} {w : World} (h : w.ownsRow B e size v n xs) : ∃ a c, v = .slice a n c := by
  rcases h.2 with ⟨h1, h2⟩ | ⟨g, cap, cur, h1, _⟩
  · subst h2; exact ⟨none, 0, h1⟩
  · exact ⟨_, cap, h1⟩

theorem wr_cell {B Q : Nat} {w w2 : World} {out : Bytes} {v : Value} (h : Wr B Q w out) (hv : w.cell? ⟨Q, 0, none⟩ = some v) {o : Obj} (hg : (w.alloc o).grownBy w2 v.ownBlock) :
    w2.cell? ⟨Q, 0, none⟩ = some v ∧ w2.frozen? ⟨Q, 0, none⟩ = false := by
  obtain ⟨⟨v0, k1, k2, k3, k4⟩, hfw, hl⟩ := h
  have hv0 : v0 = v := by
    have : w.cell? ⟨Q, 0, none⟩ = some v0 := by simp [World.cell?, k1]
    rw [this] at hv
    exact Option.some.inj hv
  subst hv0
  have hu : Upd (fun k => v0.ownBlock = some k) w w2 := (Upd.alloc (fun k => v0.ownBlock = some k) w o).trans (Upd.grown hg (S := fun k => v0.ownBlock = some k) (fun k hk => hk)) (fun _ _ h => h)
  have hq : w2.heap[Q]? = some (.cells #[v0] 63 (0, 0)) := (hu.block Q (Array.getElem?_eq_some_iff.1 k1).1 (fun h => k3 h)).trans k1
  simp [World.cell?, World.frozen?, hq]

theorem zag_nonneg {n : Int} (hn : Fits n) (h : ¬ n < 0) : IntKind.u64.wrap (IntKind.u64.wrap n * 2) = ((zag n : Nat) : Int) := by
  unfold Fits at hn
  unfold zag
  rw [if_neg h, IntKind.wrap_u64, IntKind.wrap_u64]
  omega
theorem zag_negative {n : Int} (hn : Fits n) (h : n < 0) : bits .xor .u64 IntKind.u64.max (IntKind.u64.wrap (IntKind.u64.wrap n * 2)) = ((zag n : Nat) : Int) := by
  rw [Lib.zigzag_neg hn.1 h]
  unfold zag Lib.zigzag
  rw [if_neg (by omega), if_pos h]
theorem u8_wrap (u : Nat) : IntKind.u8.wrap (u : Int) = ((u % 256 : Nat) : Int) := by
  simp [IntKind.wrap, IntKind.bits, IntKind.signed]
theorem byte_more (u : Nat) : bits .or .u8 (IntKind.u8.wrap (u : Int)) 128 = (((UInt8.ofNat (u % 128 + 128)).toNat : Nat) : Int) := by
  rw [u8_wrap, toNat_ofNat (by omega)]
  have key : ∀ n : Fin 256, bits .or .u8 ((n.val : Nat) : Int) 128 = ((n.val % 128 + 128 : Nat) : Int) := by decide +kernel
  rw [key ⟨u % 256, by omega⟩]
  simp only
  omega
theorem byte_last (u : Nat) (h : u < 128) : IntKind.u8.wrap (u : Int) = (((UInt8.ofNat u).toNat : Nat) : Int) := by
  rw [u8_wrap, toNat_ofNat (by omega)]
  omega

set_option maxRecDepth 100000 in
set_option maxHeartbeats 1600000 in
theorem wnum_any (B Q : Nat) (n : Int) (hn : Fits n) (out : Bytes) (w : World) (h : Wr B Q w out) (hfew : out.length ≤ 900000) (hQB : Q < B) :
    Calls Tryd.prog 30 #[.pointer (some ⟨Q, 0, none⟩), .int .i64 n] w fun e w' => e = .returned (.tuple #[]) ∧ Upd (QS B Q) w w' ∧ Wr B Q w' (out ++ wnum n) ∧ Keep Q w w' := by
  have hzl := zag_lt hn
  have hwl := wnum_len hn
  obtain ⟨i0, hi, hz0, hz1, hz2⟩ := info_parts i5
  have HW := Lib.hid h
  have hB0 := h.lo
  obtain ⟨z, hz⟩ : ∃ z, zag n = z := ⟨_, rfl⟩
  have HZ : Hid (wnum n = uenc z) := by show wnum n = _; rw [← hz]; rfl
  rw [hz] at hzl
  replace hzl : z < 18446744073709551616 := hzl
  rw [HZ.out] at hwl ⊢
  have body : ∀ (n : Int) (hsgn : (n < 0 ∧ bits .xor .u64 IntKind.u64.max (IntKind.u64.wrap (IntKind.u64.wrap n * 2)) = (z : Int)) ∨ (¬ n < 0 ∧ IntKind.u64.wrap (IntKind.u64.wrap n * 2) = (z : Int))),
      Calls Tryd.prog 30 #[.pointer (some ⟨Q, 0, none⟩), .int .i64 n] w fun e w' => e = .returned (.tuple #[]) ∧ Upd (QS B Q) w w' ∧ Wr B Q w' (out ++ uenc z) ∧ Keep Q w w' := by
    intro n hsgn
    clear HZ hz hn h
    rcases hsgn with ⟨hneg, hv⟩ | ⟨hneg, hv⟩
    · go_enter Tryd.func30, Tryd.ntmps30
      go_wp2
      go_loopw [4] (fun vu wr => ∃ (u : Nat) (done : Bytes), vu = .int .u64 u ∧ u < 18446744073709551616 ∧ uenc z = done ++ uenc u ∧ Upd (QS B Q) w wr ∧ Wr B Q wr (out ++ done) ∧ Keep Q w wr) (fun vu _ => (intOf vu).toNat)
      case atStart => exact ⟨z, [], by first | rfl | (rw [hv]) | skip, hzl, rfl, Upd.refl _ _, by simpa using HW.out, Keep.refl _ _⟩
      case round =>
        obtain ⟨u, done, rfl, hu, henc, hup, hwr, hkp⟩ := hrel
        have HKP := Lib.hid hkp
        clear hkp
        have hup' := hup.size
        have hdl : done.length ≤ 10 := by
          have := congrArg List.length henc
          rw [List.length_append] at this
          omega
        have hol : (out ++ done).length ≤ 900010 := by rw [List.length_append]; omega
        obtain ⟨OD, hOD⟩ : ∃ x, out ++ done = x := ⟨_, rfl⟩
        have HOD := Lib.hid hOD
        rw [hOD] at hwr hol
        clear hOD
        obtain ⟨v0, k1, k2, k3, k4⟩ := hwr.at_
        have hc0 : wr.cell? ⟨Q, 0, none⟩ = some v0 := by simp [World.cell?, k1]
        have HV0 := Lib.hid hc0
        have HO := Lib.hid k2
        have HWR := Lib.hid hwr
        have HUP := Lib.hid hup
        have HENC := Lib.hid henc
        obtain ⟨L, hL⟩ : ∃ L, OD.length = L := ⟨_, rfl⟩
        rw [hL] at HO hol
        have HLL := Lib.hid hL
        clear hup hwr k1 k2 k3 k4 henc hL
        by_cases hbig : 128 ≤ u
        · have HN : Hid (uenc u = UInt8.ofNat (u % 128 + 128) :: uenc (u / 128)) := uenc_big (by omega)
          have hby : bits .or .u8 ((u : Int) % 256) 128 = (((UInt8.ofNat (u % 128 + 128)).toNat : Nat) : Int) := by
            have := byte_more u
            rwa [u8_wrap, Int.natCast_emod] at this
          obtain ⟨y, hy⟩ : ∃ y : UInt8, y = UInt8.ofNat (u % 128 + 128) := ⟨_, rfl⟩
          rw [← hy] at hby
          have HY := Lib.hid hy
          clear hy
          go_wp2_with (at_builtin; refine wpList_append_own_at _ rfl _ _ 22 rfl B 5 i0 (.int .u8 0) 1 1 Tryd.underlying22 hi hz0 hz1 hz2 rfl (by decide) _ _ _ rfl (HO.out.alloc _) ⟨wr.heap.size, 0, none⟩ 1 1 [.int .u8 y.toNat] rfl rfl ?c1 ?c2 ?c3 ?c4 ?c5 ?grow)
          case c1 => exact World.news_of_block (heap_alloc_new _ _)
          case c2 => intro u hu; simp at hu; subst hu; rfl
          case c3 => unfold maxLen; omega
          case c4 => omega
          case c5 => simp only [World.size_alloc]; omega
          case grow =>
            intro v' w3 hown1 hgrow _ hat
            obtain ⟨sa, sc, rfl⟩ := ownsRow_shape hown1
            have HE := Lib.hid (append_one (b := y) HWR.out HV0.out hQB _ (by rw [HLL.out]; exact hown1) hgrow (by simpa using hat) (by rw [HLL.out]; omega) ⟨_, _, _, rfl⟩)
            obtain ⟨q0, f0⟩ := wr_cell HWR.out HV0.out hgrow
            clear hown1 hgrow hat
            go_wp2_with fail
            go_roundw
            case rel => exact ⟨u / 128, done ++ [y], congrArg (Value.int .u64) (by omega), by omega, by rw [HENC.out, HN.out, HY.out]; simp, HUP.out.trans HE.out.1 (fun _ _ h => h), by rw [← List.append_assoc, HOD.out]; exact HE.out.2.1, HKP.out.trans HE.out.2.2 hup'⟩
            case measure => simp [intOf]; omega
        · have HN : Hid (uenc u = [UInt8.ofNat u]) := uenc_small (by omega)
          have hby : (u : Int) = (((UInt8.ofNat u).toNat : Nat) : Int) := by
            have h7 := byte_last u (by omega)
            rw [u8_wrap] at h7
            omega
          obtain ⟨y, hy⟩ : ∃ y : UInt8, y = UInt8.ofNat u := ⟨_, rfl⟩
          rw [← hy] at hby
          have HY := Lib.hid hy
          clear hy
          go_wp2_with (at_builtin; refine wpList_append_own_at _ rfl _ _ 22 rfl B 5 i0 (.int .u8 0) 1 1 Tryd.underlying22 hi hz0 hz1 hz2 rfl (by decide) _ _ _ rfl (HO.out.alloc _) ⟨wr.heap.size, 0, none⟩ 1 1 [.int .u8 y.toNat] rfl rfl ?c1 ?c2 ?c3 ?c4 ?c5 ?grow)
          case c1 => exact World.news_of_block (heap_alloc_new _ _)
          case c2 => intro u hu; simp at hu; subst hu; rfl
          case c3 => unfold maxLen; omega
          case c4 => omega
          case c5 => simp only [World.size_alloc]; omega
          case grow =>
            intro v' w3 hown1 hgrow _ hat
            obtain ⟨sa, sc, rfl⟩ := ownsRow_shape hown1
            have HE := Lib.hid (append_one (b := y) HWR.out HV0.out hQB _ (by rw [HLL.out]; exact hown1) hgrow (by simpa using hat) (by rw [HLL.out]; omega) ⟨_, _, _, rfl⟩)
            obtain ⟨q0, f0⟩ := wr_cell HWR.out HV0.out hgrow
            clear hown1 hgrow hat
            go_wp2_with fail
            go_end0
            exact ⟨rfl, HUP.out.trans HE.out.1 (fun _ _ h => h), by rw [HENC.out, HN.out, ← HY.out, ← List.append_assoc, HOD.out]; exact HE.out.2.1, HKP.out.trans HE.out.2.2 hup'⟩
    · go_enter Tryd.func30, Tryd.ntmps30
      go_wp2
      go_loopw [4] (fun vu wr => ∃ (u : Nat) (done : Bytes), vu = .int .u64 u ∧ u < 18446744073709551616 ∧ uenc z = done ++ uenc u ∧ Upd (QS B Q) w wr ∧ Wr B Q wr (out ++ done) ∧ Keep Q w wr) (fun vu _ => (intOf vu).toNat)
      case atStart => exact ⟨z, [], by first | rfl | (rw [hv]) | skip, hzl, rfl, Upd.refl _ _, by simpa using HW.out, Keep.refl _ _⟩
      case round =>
        obtain ⟨u, done, rfl, hu, henc, hup, hwr, hkp⟩ := hrel
        have HKP := Lib.hid hkp
        clear hkp
        have hup' := hup.size
        have hdl : done.length ≤ 10 := by
          have := congrArg List.length henc
          rw [List.length_append] at this
          omega
        have hol : (out ++ done).length ≤ 900010 := by rw [List.length_append]; omega
        obtain ⟨OD, hOD⟩ : ∃ x, out ++ done = x := ⟨_, rfl⟩
        have HOD := Lib.hid hOD
        rw [hOD] at hwr hol
        clear hOD
        obtain ⟨v0, k1, k2, k3, k4⟩ := hwr.at_
        have hc0 : wr.cell? ⟨Q, 0, none⟩ = some v0 := by simp [World.cell?, k1]
        have HV0 := Lib.hid hc0
        have HO := Lib.hid k2
        have HWR := Lib.hid hwr
        have HUP := Lib.hid hup
        have HENC := Lib.hid henc
        obtain ⟨L, hL⟩ : ∃ L, OD.length = L := ⟨_, rfl⟩
        rw [hL] at HO hol
        have HLL := Lib.hid hL
        clear hup hwr k1 k2 k3 k4 henc hL
        by_cases hbig : 128 ≤ u
        · have HN : Hid (uenc u = UInt8.ofNat (u % 128 + 128) :: uenc (u / 128)) := uenc_big (by omega)
          have hby : bits .or .u8 ((u : Int) % 256) 128 = (((UInt8.ofNat (u % 128 + 128)).toNat : Nat) : Int) := by
            have := byte_more u
            rwa [u8_wrap, Int.natCast_emod] at this
          obtain ⟨y, hy⟩ : ∃ y : UInt8, y = UInt8.ofNat (u % 128 + 128) := ⟨_, rfl⟩
          rw [← hy] at hby
          have HY := Lib.hid hy
          clear hy
          go_wp2_with (at_builtin; refine wpList_append_own_at _ rfl _ _ 22 rfl B 5 i0 (.int .u8 0) 1 1 Tryd.underlying22 hi hz0 hz1 hz2 rfl (by decide) _ _ _ rfl (HO.out.alloc _) ⟨wr.heap.size, 0, none⟩ 1 1 [.int .u8 y.toNat] rfl rfl ?c1 ?c2 ?c3 ?c4 ?c5 ?grow)
          case c1 => exact World.news_of_block (heap_alloc_new _ _)
          case c2 => intro u hu; simp at hu; subst hu; rfl
          case c3 => unfold maxLen; omega
          case c4 => omega
          case c5 => simp only [World.size_alloc]; omega
          case grow =>
            intro v' w3 hown1 hgrow _ hat
            obtain ⟨sa, sc, rfl⟩ := ownsRow_shape hown1
            have HE := Lib.hid (append_one (b := y) HWR.out HV0.out hQB _ (by rw [HLL.out]; exact hown1) hgrow (by simpa using hat) (by rw [HLL.out]; omega) ⟨_, _, _, rfl⟩)
            obtain ⟨q0, f0⟩ := wr_cell HWR.out HV0.out hgrow
            clear hown1 hgrow hat
            go_wp2_with fail
            go_roundw
            case rel => exact ⟨u / 128, done ++ [y], congrArg (Value.int .u64) (by omega), by omega, by rw [HENC.out, HN.out, HY.out]; simp, HUP.out.trans HE.out.1 (fun _ _ h => h), by rw [← List.append_assoc, HOD.out]; exact HE.out.2.1, HKP.out.trans HE.out.2.2 hup'⟩
            case measure => simp [intOf]; omega
        · have HN : Hid (uenc u = [UInt8.ofNat u]) := uenc_small (by omega)
          have hby : (u : Int) = (((UInt8.ofNat u).toNat : Nat) : Int) := by
            have h7 := byte_last u (by omega)
            rw [u8_wrap] at h7
            omega
          obtain ⟨y, hy⟩ : ∃ y : UInt8, y = UInt8.ofNat u := ⟨_, rfl⟩
          rw [← hy] at hby
          have HY := Lib.hid hy
          clear hy
          go_wp2_with (at_builtin; refine wpList_append_own_at _ rfl _ _ 22 rfl B 5 i0 (.int .u8 0) 1 1 Tryd.underlying22 hi hz0 hz1 hz2 rfl (by decide) _ _ _ rfl (HO.out.alloc _) ⟨wr.heap.size, 0, none⟩ 1 1 [.int .u8 y.toNat] rfl rfl ?c1 ?c2 ?c3 ?c4 ?c5 ?grow)
          case c1 => exact World.news_of_block (heap_alloc_new _ _)
          case c2 => intro u hu; simp at hu; subst hu; rfl
          case c3 => unfold maxLen; omega
          case c4 => omega
          case c5 => simp only [World.size_alloc]; omega
          case grow =>
            intro v' w3 hown1 hgrow _ hat
            obtain ⟨sa, sc, rfl⟩ := ownsRow_shape hown1
            have HE := Lib.hid (append_one (b := y) HWR.out HV0.out hQB _ (by rw [HLL.out]; exact hown1) hgrow (by simpa using hat) (by rw [HLL.out]; omega) ⟨_, _, _, rfl⟩)
            obtain ⟨q0, f0⟩ := wr_cell HWR.out HV0.out hgrow
            clear hown1 hgrow hat
            go_wp2_with fail
            go_end0
            exact ⟨rfl, HUP.out.trans HE.out.1 (fun _ _ h => h), by rw [HENC.out, HN.out, ← HY.out, ← List.append_assoc, HOD.out]; exact HE.out.2.1, HKP.out.trans HE.out.2.2 hup'⟩
  by_cases hneg : n < 0
  · exact body n (.inl ⟨hneg, by rw [← hz]; exact zag_negative hn hneg⟩)
  · exact body n (.inr ⟨hneg, by rw [← hz]; exact zag_nonneg hn hneg⟩)

end Go.Proofs.YtdflfcgdfbihfaaDoor

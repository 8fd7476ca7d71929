import Derived.Test.YtdbbalcicgllhaaGreatDoorA27
namespace Go.Proofs.YtdbbalcicgllhaaGreatDoor
open Go.RowKit

/-- Which row of the law's table is read. -/
def rowOf (z : Int) : Nat := if 1 ≤ z ∧ z ≤ 56 then z.toNat else 0
theorem rowOf_lt (z : Int) : rowOf z < 57 := by
  unfold rowOf
  split
  · omega
  · decide
theorem lawRow (z : Int) : lawTbl[rowOf z]? = some (entry z) := by
  unfold rowOf entry
  by_cases h : 1 ≤ z ∧ z ≤ 56
  · rw [if_pos h, if_pos h]
    exact lawTbl_at z.toNat (by omega) (by omega)
  · rw [if_neg h, if_neg h]
    rfl
theorem lawT1_row (z : Int) : lawT1[rowOf z]? = some (.string ⟨(nameOf z).toArray⟩) := by
  unfold lawT1
  rw [List.getElem?_toArray, List.getElem?_map, lawRow z]
  rfl
theorem lawT2_row (z : Int) : lawT2[rowOf z]? = some (.string ⟨(useOf z).toArray⟩) := by
  unfold lawT2
  rw [List.getElem?_toArray, List.getElem?_map, lawRow z]
  rfl

theorem uses_len : ∀ p ∈ tbl, p.2.length ≤ 10 := by
  have h : tbl.all (fun p => Nat.ble p.2.length 10) = true := by kernel_rfl
  intro p hp
  exact Nat.le_of_ble_eq_true (List.all_eq_true.1 h p hp)
theorem useOf_len (z : Int) : (useOf z).length ≤ 10 := by
  unfold useOf entry
  split
  · rename_i hz
    have h2 : tbl[z.toNat]? = some (tbl.getD z.toNat ([], [])) := tbl_at _ (by omega)
    exact uses_len _ (List.mem_of_getElem? h2)
  · simp

set_option maxRecDepth 100000 in
set_option maxHeartbeats 12800000 in
theorem lawInstr_any (k : Int) (hk : -9223372036854775808 ≤ k ∧ k ≤ 9223372036854775807) (x : Ins) (hx : x.ok) (la : Option Addr) (lc : Nat) (S : Nat → Prop) (w : World)
    (hrow : RowV DInt 1 w S (.slice la x.list.length lc) x.list) (hll : x.list.length ≤ 100000000) (hfew : (insTxt k x).length ≤ 700000000) :
    Calls Tryz.prog 8 #[.int .i64 k, .agg #[.int .i64 x.op, .int .i64 x.a, .int .i64 x.b, .int .i64 x.c, .int .i64 x.d, .slice la x.list.length lc]] w
      fun e w' => e = .returned (.string ⟨(insTxt k x).toArray⟩) ∧ Upd (fun _ => False) w w' := by
  obtain ⟨n, hn⟩ : ∃ n, x.list.length = n := ⟨_, rfl⟩
  rw [hn] at hrow hll ⊢
  obtain ⟨I, hI⟩ : ∃ I, w.heap.size = I := ⟨_, rfl⟩
  obtain ⟨bx, hbx⟩ : ∃ bx, Obj.cells #[.int .i64 x.op, .int .i64 x.a, .int .i64 x.b, .int .i64 x.c, .int .i64 x.d, .slice la n lc] 34 (0, 0) = bx := ⟨_, rfl⟩
  obtain ⟨A, hA⟩ : ∃ A, w.alloc bx = A := ⟨_, rfl⟩
  have huA : Upd (fun _ => False) w A := hA ▸ Upd.alloc _ w _
  have hAI : A.heap[I]? = some bx := by rw [← hA, ← hI]; exact heap_alloc_new w _
  have hA' : w.alloc (Obj.cells #[.int .i64 x.op, .int .i64 x.a, .int .i64 x.b, .int .i64 x.c, .int .i64 x.d, .slice la n lc] 34 (0, 0)) = A := by rw [hbx]; exact hA
  obtain ⟨o, ho⟩ : ∃ o, rowOf x.op = o := ⟨_, rfl⟩
  obtain ⟨u, hu⟩ : ∃ u, useOf x.op = u := ⟨_, rfl⟩
  have humem := useOf_mem x.op
  rw [hu] at humem
  obtain ⟨U, hU⟩ : ∃ U : ByteArray, (⟨u.toArray⟩ : ByteArray) = U := ⟨_, rfl⟩
  obtain ⟨NM, hNM⟩ : ∃ NM : ByteArray, (⟨(nameOf x.op).toArray⟩ : ByteArray) = NM := ⟨_, rfl⟩
  have hT : Calls Tryz.prog 10 #[] A fun e w' => e = .returned (.tuple #[.slice (some ⟨A.heap.size, 0, none⟩) 57 57, .slice (some ⟨A.heap.size + 1, 0, none⟩) 57 57]) ∧ Upd (fun _ => False) A w' ∧ w'.cell? ⟨A.heap.size, o, none⟩ = some (.string NM) ∧ w'.cell? ⟨A.heap.size + 1, o, none⟩ = some (.string U) := by
    refine (table_any A).mono ?_
    rintro e w' ⟨rfl, rfl⟩
    have c1 := heap_alloc_new A (.cells lawT1 9)
    have c2 := heap_alloc_new (A.alloc (.cells lawT1 9)) (.cells lawT2 9)
    rw [World.size_alloc] at c2
    have c3 : ((A.alloc (.cells lawT1 9)).alloc (.cells lawT2 9)).heap[A.heap.size]? = some (.cells lawT1 9 (0, 0)) := by
      rw [Below.heap_alloc _ _ _ (by rw [World.size_alloc]; omega)]
      exact c1
    have e1 := lawT1_row x.op
    have e2 := lawT2_row x.op
    rw [ho, hNM] at e1
    rw [ho, hu, hU] at e2
    exact ⟨rfl, (Upd.alloc _ A _).trans (Upd.alloc _ _ _) (fun _ _ h => h), by (simp only [World.cell?, c3]; exact e1), by (simp only [World.cell?, c2]; exact e2)⟩
  have j0 : A.cell? ⟨I, 0, none⟩ = some (.int .i64 x.op) := by simp [World.cell?, hAI, ← hbx]
  have j1 : A.cell? ⟨I, 1, none⟩ = some (.int .i64 x.a) := by simp [World.cell?, hAI, ← hbx]
  have j2 : A.cell? ⟨I, 2, none⟩ = some (.int .i64 x.b) := by simp [World.cell?, hAI, ← hbx]
  have j3 : A.cell? ⟨I, 3, none⟩ = some (.int .i64 x.c) := by simp [World.cell?, hAI, ← hbx]
  have j4 : A.cell? ⟨I, 4, none⟩ = some (.int .i64 x.d) := by simp [World.cell?, hAI, ← hbx]
  have j5 : A.cell? ⟨I, 5, none⟩ = some (.slice la n lc) := by simp [World.cell?, hAI, ← hbx]
  obtain ⟨H, hH⟩ : ∃ H, [9] ++ Lib.itoa k ++ [32] ++ nameOf x.op = H := ⟨_, rfl⟩
  have hsplit : insTxt k x = H ++ usesTxt x u ++ [10] := by rw [← hH, ← hu]; rfl
  rw [hsplit] at hfew ⊢
  simp only [List.length_append, List.length_cons, List.length_nil] at hfew
  obtain ⟨KD, hKD⟩ : ∃ KD : ByteArray, (⟨(Lib.itoa k).toArray⟩ : ByteArray) = KD := ⟨_, rfl⟩
  have hkd : ∀ W, Calls Tryz.prog 6 #[.int .i64 k] W fun e w' => e = .returned (.string KD) ∧ Upd (fun _ => False) W w' := fun W => by
    have h := digits_any k hk.1 hk.2 W
    rw [hKD] at h
    exact h
  have hKs : KD.size ≤ 21 := by rw [← hKD, size_eq]; exact Lib.itoa_length_le _ hk.1 hk.2
  have hNs : NM.size ≤ 700000000 := by
    have e1 : NM.size = (nameOf x.op).length := by rw [← hNM, size_eq]
    have e2 : (nameOf x.op).length ≤ H.length := by rw [← hH]; simp only [List.length_append]; omega
    omega
  have hhead : (⟨#[9]⟩ : ByteArray) ++ KD ++ (⟨#[32]⟩ : ByteArray) ++ NM = ⟨H.toArray⟩ := by
    rw [← hKD, ← hNM, ← hH]
    exact app_bytes _ _ _ (app_bytes _ [32] _ (app_bytes _ _ _ rfl))
  have HN := Lib.hid hn
  have HROW := Lib.hid (hrow.upd stInt huA (fun _ _ _ h => h))
  have HX := Lib.hid hx
  have HA := Lib.hid huA
  have HT := Lib.hid hT
  have HH := Lib.hid hhead
  have HKD := Lib.hid hkd
  have HJ := Lib.hid (show A.cell? ⟨I, 1, none⟩ = some (.int .i64 x.a) ∧ A.cell? ⟨I, 2, none⟩ = some (.int .i64 x.b) ∧ A.cell? ⟨I, 3, none⟩ = some (.int .i64 x.c) ∧ A.cell? ⟨I, 4, none⟩ = some (.int .i64 x.d) ∧ A.cell? ⟨I, 5, none⟩ = some (.slice la n lc) from ⟨j1, j2, j3, j4, j5⟩)
  have HMEM := Lib.hid humem
  have hUs : U.size = u.length := by rw [← hU, size_eq]
  have hug : ∀ (i : Nat) (c : UInt8) (hlt : i < U.size), u[i]? = some c → ((U[i]'hlt).toNat : Int) = (c.toNat : Int) := by
    intro i c hlt hc
    subst hU
    have : (⟨u.toArray⟩ : ByteArray)[i]'hlt = c := by
      have h2 : u[i]'(by rw [← hUs]; exact hlt) = c := by
        rw [List.getElem?_eq_getElem (by rw [← hUs]; exact hlt)] at hc
        exact Option.some.inj hc
      exact h2
    rw [this]
  have HUG := Lib.hid hug
  obtain ⟨m, hm⟩ : ∃ m, u.length = m := ⟨_, rfl⟩
  have hmb : m ≤ 10 := by
    have h := useOf_len x.op
    rw [hu, hm] at h
    exact h
  rw [hm] at hUs
  have HM := Lib.hid hm
  clear hhead hkd hT hx hrow huA hAI hA hbx hug humem hH hsplit hU hNM hKD hu hm j1 j2 j3 j4 j5 hn
  go_enter Tryz.func8, Tryz.ntmps8
  by_cases hz : 1 ≤ x.op ∧ x.op ≤ 56
  · have g1 : ¬ x.op < 1 := by omega
    have g2 : ¬ 56 < x.op := by omega
    have ho2 : x.op = (o : Int) := by
      rw [← ho]
      unfold rowOf
      rw [if_pos hz]
      omega
    rw [ho2] at g1 g2 j0 hA' ⊢
    have g3 : (o : Int) < 57 := by have := rowOf_lt x.op; omega
    have g4 : o < 57 := by omega
    clear hz ho ho2
    go_wp2_with (go_at_call 10; refine HT.out.mono ?_; rintro e w2 ⟨rfl, hu2, hc1, hc2⟩; have HU2 := Lib.hid hu2; have i0 := HU2.out.cell j0 (fun h => h); have HR2 := Lib.hid hc2; clear hu2 hc2)
    go_region_with (go_at_call 6; refine (HKD.out _).mono ?_; rintro e w3 ⟨rfl, hu3⟩; have q1 := hu3.cell (show w2.drew.cell? ⟨A.heap.size, o, none⟩ = some (.string NM) from hc1) (fun h => h))
    all_goals
      have HU3 := Lib.hid ((HU2.out.trans (Upd.drew (fun _ => False) w2) (fun _ _ h => h)).trans hu3 (fun _ _ h => h))
      have ia := HU3.out.cell HJ.out.1 (fun h => h)
      have ib := HU3.out.cell HJ.out.2.1 (fun h => h)
      have ic := HU3.out.cell HJ.out.2.2.1 (fun h => h)
      have id := HU3.out.cell HJ.out.2.2.2.1 (fun h => h)
      have il := HU3.out.cell HJ.out.2.2.2.2 (fun h => h)
      have q2 := hu3.cell (show w2.drew.cell? ⟨A.heap.size + 1, o, none⟩ = some (.string U) from HR2.out) (fun h => h)
      have Q2 := Lib.hid q2
      have HROW3 := Lib.hid (HROW.out.upd stInt HU3.out (fun _ _ _ h => h))
      have IA := Lib.hid ia
      have IB := Lib.hid ib
      have IC := Lib.hid ic
      have ID := Lib.hid id
      have IL := Lib.hid il
      clear ia ib ic id il hu3
      go_wp2
      go_loopw [8, 38] (fun x1 i wr => ∃ p : Nat, p ≤ m ∧ i = .int .i64 p ∧ ∃ X : ByteArray, x1 = .string X ∧ X = ⟨(H ++ usesTxt x (u.take p)).toArray⟩ ∧ Upd (fun _ => False) w3 wr) (fun _ i _ => m - (intOf i).toNat)
      case atStart => exact ⟨0, Nat.zero_le _, rfl, _, rfl, by simpa [usesTxt] using HH.out, Upd.refl _ _⟩
      case round =>
      obtain ⟨p, hp, rfl, X, rfl, hX, hu⟩ := hrel
      have hXs : X.size ≤ 700000000 := by
        rw [hX, size_eq, List.length_append]
        have h1 := usesTxt_le x u p
        omega
      have HXX := Lib.hid hX
      have qU := hu.cell Q2.out (fun h => h)
      clear hX
      by_cases hlt : p < m
      · have hpU : p < U.size := by rw [hUs]; exact hlt
        obtain ⟨c, hc⟩ : ∃ c, u[p]? = some c := ⟨_, List.getElem?_eq_getElem (by rw [HM.out]; exact hlt)⟩
        have ix := HUG.out p c hpU hc
        have hcm := HMEM.out c (List.mem_of_getElem? hc)
        have hstep := usesTxt_step x u p c hc
        have hle := usesTxt_le x u (p + 1)
        rw [hstep, List.length_append] at hle
        have hlen : (H ++ usesTxt x (u.take p)).length + (useTxt x c).length ≤ 700000000 := by simp only [List.length_append]; omega
        have HSTEP := Lib.hid hstep
        clear hstep hle hc
        rcases hcm with rfl | rfl | rfl | rfl | rfl
        · have hcell := hu.cell IA.out (fun h => h)
          obtain ⟨L, hL⟩ : ∃ L : ByteArray, (⟨(Lib.itoa x.a).toArray⟩ : ByteArray) = L := ⟨_, rfl⟩
          have hd := digits_any x.a HX.out.a.1 HX.out.a.2 wr
          have hLs : L.size ≤ 21 := by rw [← hL, size_eq]; exact Lib.itoa_length_le _ HX.out.a.1 HX.out.a.2
          rw [hL] at hd
          have z0a : ¬ 9223372036854775807 < 1 + L.size := by omega
          have z0b : 1 + L.size ≤ 9223372036854775807 := by omega
          have z1a : ¬ 9223372036854775807 < L.size + 1 := by omega
          have z1b : L.size + 1 ≤ 9223372036854775807 := by omega
          have z2a : ¬ 9223372036854775807 < X.size + (1 + L.size) := by omega
          have z2b : X.size + (1 + L.size) ≤ 9223372036854775807 := by omega
          have z3a : ¬ 9223372036854775807 < X.size + (L.size + 1) := by omega
          have z3b : X.size + (L.size + 1) ≤ 9223372036854775807 := by omega
          have z4a : ¬ 9223372036854775807 < X.size + 1 + L.size := by omega
          have z4b : X.size + 1 + L.size ≤ 9223372036854775807 := by omega
          have hres : X ++ ((⟨#[32]⟩ : ByteArray) ++ L) = ⟨(H ++ usesTxt x (u.take p) ++ useTxt x 65).toArray⟩ := by
            rw [← hL, show (⟨#[32]⟩ : ByteArray) ++ (⟨(Lib.itoa x.a).toArray⟩ : ByteArray) = ⟨([32] ++ Lib.itoa x.a).toArray⟩ from ByteArray.mk_append_mk [32] _]
            exact app_bytes _ _ X HXX.out
          have HRES := Lib.hid hres
          have HD := Lib.hid hd
          have hx2 : ((65 : UInt8).toNat : Int) = 65 := rfl
          rw [hx2] at ix
          have HUU := Lib.hid hu
          clear hres hd hx2 hL hu
          go_wp2_with (go_at_call 6; refine HD.out.mono ?_; rintro e w2 ⟨rfl, hu2⟩; have HU2 := Lib.hid hu2; clear hu2)
          go_roundw
          case rel => exact ⟨p + 1, by omega, by go_num, _, rfl, by rw [HSTEP.out, ← List.append_assoc]; exact HRES.out, HUU.out.trans HU2.out (fun _ _ h => h)⟩
          case measure => simp [intOf]; omega
        · have hcell := hu.cell IB.out (fun h => h)
          obtain ⟨L, hL⟩ : ∃ L : ByteArray, (⟨(Lib.itoa x.b).toArray⟩ : ByteArray) = L := ⟨_, rfl⟩
          have hd := digits_any x.b HX.out.b.1 HX.out.b.2 wr
          have hLs : L.size ≤ 21 := by rw [← hL, size_eq]; exact Lib.itoa_length_le _ HX.out.b.1 HX.out.b.2
          rw [hL] at hd
          have z0a : ¬ 9223372036854775807 < 1 + L.size := by omega
          have z0b : 1 + L.size ≤ 9223372036854775807 := by omega
          have z1a : ¬ 9223372036854775807 < L.size + 1 := by omega
          have z1b : L.size + 1 ≤ 9223372036854775807 := by omega
          have z2a : ¬ 9223372036854775807 < X.size + (1 + L.size) := by omega
          have z2b : X.size + (1 + L.size) ≤ 9223372036854775807 := by omega
          have z3a : ¬ 9223372036854775807 < X.size + (L.size + 1) := by omega
          have z3b : X.size + (L.size + 1) ≤ 9223372036854775807 := by omega
          have z4a : ¬ 9223372036854775807 < X.size + 1 + L.size := by omega
          have z4b : X.size + 1 + L.size ≤ 9223372036854775807 := by omega
          have hres : X ++ ((⟨#[32]⟩ : ByteArray) ++ L) = ⟨(H ++ usesTxt x (u.take p) ++ useTxt x 66).toArray⟩ := by
            rw [← hL, show (⟨#[32]⟩ : ByteArray) ++ (⟨(Lib.itoa x.b).toArray⟩ : ByteArray) = ⟨([32] ++ Lib.itoa x.b).toArray⟩ from ByteArray.mk_append_mk [32] _]
            exact app_bytes _ _ X HXX.out
          have HRES := Lib.hid hres
          have HD := Lib.hid hd
          have hx2 : ((66 : UInt8).toNat : Int) = 66 := rfl
          rw [hx2] at ix
          have HUU := Lib.hid hu
          clear hres hd hx2 hL hu
          go_wp2_with (go_at_call 6; refine HD.out.mono ?_; rintro e w2 ⟨rfl, hu2⟩; have HU2 := Lib.hid hu2; clear hu2)
          go_roundw
          case rel => exact ⟨p + 1, by omega, by go_num, _, rfl, by rw [HSTEP.out, ← List.append_assoc]; exact HRES.out, HUU.out.trans HU2.out (fun _ _ h => h)⟩
          case measure => simp [intOf]; omega
        · have hcell := hu.cell IC.out (fun h => h)
          obtain ⟨L, hL⟩ : ∃ L : ByteArray, (⟨(Lib.itoa x.c).toArray⟩ : ByteArray) = L := ⟨_, rfl⟩
          have hd := digits_any x.c HX.out.c.1 HX.out.c.2 wr
          have hLs : L.size ≤ 21 := by rw [← hL, size_eq]; exact Lib.itoa_length_le _ HX.out.c.1 HX.out.c.2
          rw [hL] at hd
          have z0a : ¬ 9223372036854775807 < 1 + L.size := by omega
          have z0b : 1 + L.size ≤ 9223372036854775807 := by omega
          have z1a : ¬ 9223372036854775807 < L.size + 1 := by omega
          have z1b : L.size + 1 ≤ 9223372036854775807 := by omega
          have z2a : ¬ 9223372036854775807 < X.size + (1 + L.size) := by omega
          have z2b : X.size + (1 + L.size) ≤ 9223372036854775807 := by omega
          have z3a : ¬ 9223372036854775807 < X.size + (L.size + 1) := by omega
          have z3b : X.size + (L.size + 1) ≤ 9223372036854775807 := by omega
          have z4a : ¬ 9223372036854775807 < X.size + 1 + L.size := by omega
          have z4b : X.size + 1 + L.size ≤ 9223372036854775807 := by omega
          have hres : X ++ ((⟨#[32]⟩ : ByteArray) ++ L) = ⟨(H ++ usesTxt x (u.take p) ++ useTxt x 67).toArray⟩ := by
            rw [← hL, show (⟨#[32]⟩ : ByteArray) ++ (⟨(Lib.itoa x.c).toArray⟩ : ByteArray) = ⟨([32] ++ Lib.itoa x.c).toArray⟩ from ByteArray.mk_append_mk [32] _]
            exact app_bytes _ _ X HXX.out
          have HRES := Lib.hid hres
          have HD := Lib.hid hd
          have hx2 : ((67 : UInt8).toNat : Int) = 67 := rfl
          rw [hx2] at ix
          have HUU := Lib.hid hu
          clear hres hd hx2 hL hu
          go_wp2_with (go_at_call 6; refine HD.out.mono ?_; rintro e w2 ⟨rfl, hu2⟩; have HU2 := Lib.hid hu2; clear hu2)
          go_roundw
          case rel => exact ⟨p + 1, by omega, by go_num, _, rfl, by rw [HSTEP.out, ← List.append_assoc]; exact HRES.out, HUU.out.trans HU2.out (fun _ _ h => h)⟩
          case measure => simp [intOf]; omega
        · have hcell := hu.cell ID.out (fun h => h)
          obtain ⟨L, hL⟩ : ∃ L : ByteArray, (⟨(Lib.itoa x.d).toArray⟩ : ByteArray) = L := ⟨_, rfl⟩
          have hd := digits_any x.d HX.out.d.1 HX.out.d.2 wr
          have hLs : L.size ≤ 21 := by rw [← hL, size_eq]; exact Lib.itoa_length_le _ HX.out.d.1 HX.out.d.2
          rw [hL] at hd
          have z0a : ¬ 9223372036854775807 < 1 + L.size := by omega
          have z0b : 1 + L.size ≤ 9223372036854775807 := by omega
          have z1a : ¬ 9223372036854775807 < L.size + 1 := by omega
          have z1b : L.size + 1 ≤ 9223372036854775807 := by omega
          have z2a : ¬ 9223372036854775807 < X.size + (1 + L.size) := by omega
          have z2b : X.size + (1 + L.size) ≤ 9223372036854775807 := by omega
          have z3a : ¬ 9223372036854775807 < X.size + (L.size + 1) := by omega
          have z3b : X.size + (L.size + 1) ≤ 9223372036854775807 := by omega
          have z4a : ¬ 9223372036854775807 < X.size + 1 + L.size := by omega
          have z4b : X.size + 1 + L.size ≤ 9223372036854775807 := by omega
          have hres : X ++ ((⟨#[32]⟩ : ByteArray) ++ L) = ⟨(H ++ usesTxt x (u.take p) ++ useTxt x 68).toArray⟩ := by
            rw [← hL, show (⟨#[32]⟩ : ByteArray) ++ (⟨(Lib.itoa x.d).toArray⟩ : ByteArray) = ⟨([32] ++ Lib.itoa x.d).toArray⟩ from ByteArray.mk_append_mk [32] _]
            exact app_bytes _ _ X HXX.out
          have HRES := Lib.hid hres
          have HD := Lib.hid hd
          have hx2 : ((68 : UInt8).toNat : Int) = 68 := rfl
          rw [hx2] at ix
          have HUU := Lib.hid hu
          clear hres hd hx2 hL hu
          go_wp2_with (go_at_call 6; refine HD.out.mono ?_; rintro e w2 ⟨rfl, hu2⟩; have HU2 := Lib.hid hu2; clear hu2)
          go_roundw
          case rel => exact ⟨p + 1, by omega, by go_num, _, rfl, by rw [HSTEP.out, ← List.append_assoc]; exact HRES.out, HUU.out.trans HU2.out (fun _ _ h => h)⟩
          case measure => simp [intOf]; omega
        · have hlcell := hu.cell IL.out (fun h => h)
          obtain ⟨O, hO⟩ : ∃ O, H ++ usesTxt x (u.take p) ++ [32, 91] = O := ⟨_, rfl⟩
          have huse : useTxt x 76 = [32, 91] ++ listTxt x.list ++ [93] := by simp [useTxt]
          rw [huse] at hlen
          simp only [List.length_append, List.length_cons, List.length_nil] at hlen
          have hOl : O.length + (listTxt x.list).length + 1 ≤ 800000000 := by rw [← hO]; simp only [List.length_append, List.length_cons, List.length_nil]; omega
          have hX1 : X ++ (⟨#[32, 91]⟩ : ByteArray) = ⟨O.toArray⟩ := by rw [← hO]; exact app_bytes _ _ X HXX.out
          have z0a : ¬ 9223372036854775807 < X.size + 2 := by omega
          have z0b : X.size + 2 ≤ 9223372036854775807 := by omega
          have hx2 : ((76 : UInt8).toNat : Int) = 76 := rfl
          rw [hx2] at ix
          have HX1 := Lib.hid hX1
          have HO := Lib.hid hO
          have HOL := Lib.hid hOl
          have HUU := Lib.hid hu
          have HUSE := Lib.hid huse
          clear hX1 hO hOl hx2 hlen hu huse
          go_wp2_with fail
          clear hlcell
          go_loopw [8, 52] (fun x1 i wr => ∃ j : Nat, j ≤ n ∧ i = .int .i64 j ∧ ∃ Z : ByteArray, x1 = .string Z ∧ Z = ⟨(O ++ listTxt (x.list.take j)).toArray⟩ ∧ Upd (fun _ => False) w3 wr) (fun _ i _ => n - (intOf i).toNat)
          case atStart => exact ⟨0, Nat.zero_le _, rfl, _, rfl, by simpa [listTxt] using HX1.out, HUU.out⟩
          case round =>
          obtain ⟨j, hj, rfl, Z, rfl, hZ, huj⟩ := hrel
          have hZs : Z.size ≤ 800000000 := by
            rw [hZ, size_eq, List.length_append]
            have h1 := listTxt_le x.list j
            have h2 := HOL.out
            omega
          have HZ := Lib.hid hZ
          have HUJ := Lib.hid huj
          by_cases hjn : j < n
          · have hjl : j < x.list.length := by rw [HN.out]; exact hjn
            have hrow := HROW3.out.upd stInt huj (fun _ _ _ h => h)
            obtain ⟨g, go, vs, rfl, _, hvc, hD0⟩ := hrow.dest j hjl
            obtain ⟨y, hy⟩ : ∃ y, x.list[j] = y := ⟨_, rfl⟩
            have hyq : x.list[j]? = some y := by rw [List.getElem?_eq_getElem hjl, hy]
            have hD : vs = [.int .i64 x.list[j]] := hD0
            clear hD0
            rw [hy] at hD
            subst hD
            have hcell := hvc 0 _ rfl
            rw [Nat.mul_one, Nat.add_zero] at hcell
            have hst := listTxt_step x.list j y hyq
            have hyok := HX.out.l y (List.mem_of_getElem? hyq)
            obtain ⟨L, hL⟩ : ∃ L : ByteArray, (⟨(Lib.itoa y).toArray⟩ : ByteArray) = L := ⟨_, rfl⟩
            have hd := digits_any y hyok.1 hyok.2 wr
            have hLs : L.size ≤ 21 := by rw [← hL, size_eq]; exact Lib.itoa_length_le _ hyok.1 hyok.2
            rw [hL] at hd
            have HST := Lib.hid hst
            have HD := Lib.hid hd
            have HLL := Lib.hid hL
            clear hd hst hyok hyq hy hjl hvc hrow huj hZ hL
            have z0a : ¬ 9223372036854775807 < Z.size + L.size := by omega
            have z0b : Z.size + L.size ≤ 9223372036854775807 := by omega
            have z1a : ¬ 9223372036854775807 < Z.size + 1 := by omega
            have z1b : Z.size + 1 ≤ 9223372036854775807 := by omega
            have z2a : ¬ 9223372036854775807 < Z.size + 1 + L.size := by omega
            have z2b : Z.size + 1 + L.size ≤ 9223372036854775807 := by omega
            by_cases hj0 : j = 0
            · subst hj0
              rw [Nat.add_zero] at hcell
              go_wp2_with (go_at_call 6; refine HD.out.mono ?_; rintro e w2 ⟨rfl, hu2⟩; have HU2 := Lib.hid hu2; clear hu2)
              go_roundw
              case rel => exact ⟨0 + 1, by omega, by rfl, _, rfl, by rw [HST.out, ← HLL.out]; exact (app_bytes _ _ Z HZ.out).trans (by simp [listTxt]), HUJ.out.trans HU2.out (fun _ _ h => h)⟩
              case measure => simp [intOf]; omega
            · have hj1 : (0 : Int) < j := by omega
              go_wp2_with (go_at_call 6; refine HD.out.mono ?_; rintro e w2 ⟨rfl, hu2⟩; have HU2 := Lib.hid hu2; clear hu2)
              go_roundw
              case rel => exact ⟨j + 1, by omega, by go_num, _, rfl, by rw [HST.out, if_neg hj0, ← HLL.out]; exact (app_bytes _ _ _ (app_bytes _ [32] Z HZ.out)).trans (by simp), HUJ.out.trans HU2.out (fun _ _ h => h)⟩
              case measure => simp [intOf]; omega
          · have hjeq : j = n := by omega
            have hall : x.list.take j = x.list := by rw [hjeq, ← HN.out]; exact List.take_length
            rw [hall] at hZ
            have z0a : ¬ 9223372036854775807 < Z.size + 1 := by omega
            have z0b : Z.size + 1 ≤ 9223372036854775807 := by omega
            have HZ2 := Lib.hid hZ
            clear hZ huj hall
            go_wp2_with fail
            go_roundw
            case rel => exact ⟨p + 1, by omega, by go_num, _, rfl, by rw [HSTEP.out, HUSE.out]; exact (app_bytes _ [93] Z HZ2.out).trans (by rw [← HO.out]; simp), HUJ.out⟩
            case measure => simp [intOf]; omega
      · have hpm : p = m := by omega
        have hall : u.take p = u := by rw [hpm, ← HM.out]; exact List.take_length
        have hX2 := HXX.out
        rw [hall] at hX2
        have hres : X ++ (⟨#[10]⟩ : ByteArray) = ⟨(H ++ usesTxt x u ++ [10]).toArray⟩ := app_bytes _ [10] X hX2
        have z0a : ¬ 9223372036854775807 < X.size + 1 := by omega
        have z0b : X.size + 1 ≤ 9223372036854775807 := by omega
        have HRES := Lib.hid hres
        have HUU := Lib.hid hu
        clear hX2 hres hall hu
        go_wp2_with fail
        go_ret
        refine ⟨?_, (HA.out.trans HU3.out (fun _ _ h => h)).trans HUU.out (fun _ _ h => h)⟩
        exact Eq.trans (b := Ending.returned (.string (X ++ (⟨#[10]⟩ : ByteArray)))) rfl (congrArg (fun x => Ending.returned (.string x)) HRES.out)
  · have ho0 : o = 0 := by
      rw [← ho]
      unfold rowOf
      rw [if_neg hz]
    subst ho0
    have g3 : (0 : Int) < 57 := by decide
    clear ho
    by_cases hz1 : x.op < 1
    · clear hz
      go_wp2_with (go_at_call 10; refine HT.out.mono ?_; rintro e w2 ⟨rfl, hu2, hc1, hc2⟩; have HU2 := Lib.hid hu2; have i0 := HU2.out.cell j0 (fun h => h); have HR2 := Lib.hid hc2; clear hu2 hc2)
      go_region_with (go_at_call 6; refine (HKD.out _).mono ?_; rintro e w3 ⟨rfl, hu3⟩; have q1 := hu3.cell (show w2.drew.cell? ⟨A.heap.size, 0, none⟩ = some (.string NM) from hc1) (fun h => h))
      all_goals
        have HU3 := Lib.hid ((HU2.out.trans (Upd.drew (fun _ => False) w2) (fun _ _ h => h)).trans hu3 (fun _ _ h => h))
        have ia := HU3.out.cell HJ.out.1 (fun h => h)
        have ib := HU3.out.cell HJ.out.2.1 (fun h => h)
        have ic := HU3.out.cell HJ.out.2.2.1 (fun h => h)
        have id := HU3.out.cell HJ.out.2.2.2.1 (fun h => h)
        have il := HU3.out.cell HJ.out.2.2.2.2 (fun h => h)
        have q2 := hu3.cell (show w2.drew.cell? ⟨A.heap.size + 1, 0, none⟩ = some (.string U) from HR2.out) (fun h => h)
        have Q2 := Lib.hid q2
        have HROW3 := Lib.hid (HROW.out.upd stInt HU3.out (fun _ _ _ h => h))
        have IA := Lib.hid ia
        have IB := Lib.hid ib
        have IC := Lib.hid ic
        have ID := Lib.hid id
        have IL := Lib.hid il
        clear ia ib ic id il hu3
        go_wp2
        go_loopw [8, 38] (fun x1 i wr => ∃ p : Nat, p ≤ m ∧ i = .int .i64 p ∧ ∃ X : ByteArray, x1 = .string X ∧ X = ⟨(H ++ usesTxt x (u.take p)).toArray⟩ ∧ Upd (fun _ => False) w3 wr) (fun _ i _ => m - (intOf i).toNat)
        case atStart => exact ⟨0, Nat.zero_le _, rfl, _, rfl, by simpa [usesTxt] using HH.out, Upd.refl _ _⟩
        case round =>
        obtain ⟨p, hp, rfl, X, rfl, hX, hu⟩ := hrel
        have hXs : X.size ≤ 700000000 := by
          rw [hX, size_eq, List.length_append]
          have h1 := usesTxt_le x u p
          omega
        have HXX := Lib.hid hX
        have qU := hu.cell Q2.out (fun h => h)
        clear hX
        by_cases hlt : p < m
        · have hpU : p < U.size := by rw [hUs]; exact hlt
          obtain ⟨c, hc⟩ : ∃ c, u[p]? = some c := ⟨_, List.getElem?_eq_getElem (by rw [HM.out]; exact hlt)⟩
          have ix := HUG.out p c hpU hc
          have hcm := HMEM.out c (List.mem_of_getElem? hc)
          have hstep := usesTxt_step x u p c hc
          have hle := usesTxt_le x u (p + 1)
          rw [hstep, List.length_append] at hle
          have hlen : (H ++ usesTxt x (u.take p)).length + (useTxt x c).length ≤ 700000000 := by simp only [List.length_append]; omega
          have HSTEP := Lib.hid hstep
          clear hstep hle hc
          rcases hcm with rfl | rfl | rfl | rfl | rfl
          · have hcell := hu.cell IA.out (fun h => h)
            obtain ⟨L, hL⟩ : ∃ L : ByteArray, (⟨(Lib.itoa x.a).toArray⟩ : ByteArray) = L := ⟨_, rfl⟩
            have hd := digits_any x.a HX.out.a.1 HX.out.a.2 wr
            have hLs : L.size ≤ 21 := by rw [← hL, size_eq]; exact Lib.itoa_length_le _ HX.out.a.1 HX.out.a.2
            rw [hL] at hd
            have z0a : ¬ 9223372036854775807 < 1 + L.size := by omega
            have z0b : 1 + L.size ≤ 9223372036854775807 := by omega
            have z1a : ¬ 9223372036854775807 < L.size + 1 := by omega
            have z1b : L.size + 1 ≤ 9223372036854775807 := by omega
            have z2a : ¬ 9223372036854775807 < X.size + (1 + L.size) := by omega
            have z2b : X.size + (1 + L.size) ≤ 9223372036854775807 := by omega
            have z3a : ¬ 9223372036854775807 < X.size + (L.size + 1) := by omega
            have z3b : X.size + (L.size + 1) ≤ 9223372036854775807 := by omega
            have z4a : ¬ 9223372036854775807 < X.size + 1 + L.size := by omega
            have z4b : X.size + 1 + L.size ≤ 9223372036854775807 := by omega
            have hres : X ++ ((⟨#[32]⟩ : ByteArray) ++ L) = ⟨(H ++ usesTxt x (u.take p) ++ useTxt x 65).toArray⟩ := by
              rw [← hL, show (⟨#[32]⟩ : ByteArray) ++ (⟨(Lib.itoa x.a).toArray⟩ : ByteArray) = ⟨([32] ++ Lib.itoa x.a).toArray⟩ from ByteArray.mk_append_mk [32] _]
              exact app_bytes _ _ X HXX.out
            have HRES := Lib.hid hres
            have HD := Lib.hid hd
            have hx2 : ((65 : UInt8).toNat : Int) = 65 := rfl
            rw [hx2] at ix
            have HUU := Lib.hid hu
            clear hres hd hx2 hL hu
            go_wp2_with (go_at_call 6; refine HD.out.mono ?_; rintro e w2 ⟨rfl, hu2⟩; have HU2 := Lib.hid hu2; clear hu2)
            go_roundw
            case rel => exact ⟨p + 1, by omega, by go_num, _, rfl, by rw [HSTEP.out, ← List.append_assoc]; exact HRES.out, HUU.out.trans HU2.out (fun _ _ h => h)⟩
            case measure => simp [intOf]; omega
          · have hcell := hu.cell IB.out (fun h => h)
            obtain ⟨L, hL⟩ : ∃ L : ByteArray, (⟨(Lib.itoa x.b).toArray⟩ : ByteArray) = L := ⟨_, rfl⟩
            have hd := digits_any x.b HX.out.b.1 HX.out.b.2 wr
            have hLs : L.size ≤ 21 := by rw [← hL, size_eq]; exact Lib.itoa_length_le _ HX.out.b.1 HX.out.b.2
            rw [hL] at hd
            have z0a : ¬ 9223372036854775807 < 1 + L.size := by omega
            have z0b : 1 + L.size ≤ 9223372036854775807 := by omega
            have z1a : ¬ 9223372036854775807 < L.size + 1 := by omega
            have z1b : L.size + 1 ≤ 9223372036854775807 := by omega
            have z2a : ¬ 9223372036854775807 < X.size + (1 + L.size) := by omega
            have z2b : X.size + (1 + L.size) ≤ 9223372036854775807 := by omega
            have z3a : ¬ 9223372036854775807 < X.size + (L.size + 1) := by omega
            have z3b : X.size + (L.size + 1) ≤ 9223372036854775807 := by omega
            have z4a : ¬ 9223372036854775807 < X.size + 1 + L.size := by omega
            have z4b : X.size + 1 + L.size ≤ 9223372036854775807 := by omega
            have hres : X ++ ((⟨#[32]⟩ : ByteArray) ++ L) = ⟨(H ++ usesTxt x (u.take p) ++ useTxt x 66).toArray⟩ := by
              rw [← hL, show (⟨#[32]⟩ : ByteArray) ++ (⟨(Lib.itoa x.b).toArray⟩ : ByteArray) = ⟨([32] ++ Lib.itoa x.b).toArray⟩ from ByteArray.mk_append_mk [32] _]
              exact app_bytes _ _ X HXX.out
            have HRES := Lib.hid hres
            have HD := Lib.hid hd
            have hx2 : ((66 : UInt8).toNat : Int) = 66 := rfl
            rw [hx2] at ix
            have HUU := Lib.hid hu
            clear hres hd hx2 hL hu
            go_wp2_with (go_at_call 6; refine HD.out.mono ?_; rintro e w2 ⟨rfl, hu2⟩; have HU2 := Lib.hid hu2; clear hu2)
            go_roundw
            case rel => exact ⟨p + 1, by omega, by go_num, _, rfl, by rw [HSTEP.out, ← List.append_assoc]; exact HRES.out, HUU.out.trans HU2.out (fun _ _ h => h)⟩
            case measure => simp [intOf]; omega
          · have hcell := hu.cell IC.out (fun h => h)
            obtain ⟨L, hL⟩ : ∃ L : ByteArray, (⟨(Lib.itoa x.c).toArray⟩ : ByteArray) = L := ⟨_, rfl⟩
            have hd := digits_any x.c HX.out.c.1 HX.out.c.2 wr
            have hLs : L.size ≤ 21 := by rw [← hL, size_eq]; exact Lib.itoa_length_le _ HX.out.c.1 HX.out.c.2
            rw [hL] at hd
            have z0a : ¬ 9223372036854775807 < 1 + L.size := by omega
            have z0b : 1 + L.size ≤ 9223372036854775807 := by omega
            have z1a : ¬ 9223372036854775807 < L.size + 1 := by omega
            have z1b : L.size + 1 ≤ 9223372036854775807 := by omega
            have z2a : ¬ 9223372036854775807 < X.size + (1 + L.size) := by omega
            have z2b : X.size + (1 + L.size) ≤ 9223372036854775807 := by omega
            have z3a : ¬ 9223372036854775807 < X.size + (L.size + 1) := by omega
            have z3b : X.size + (L.size + 1) ≤ 9223372036854775807 := by omega
            have z4a : ¬ 9223372036854775807 < X.size + 1 + L.size := by omega
            have z4b : X.size + 1 + L.size ≤ 9223372036854775807 := by omega
            have hres : X ++ ((⟨#[32]⟩ : ByteArray) ++ L) = ⟨(H ++ usesTxt x (u.take p) ++ useTxt x 67).toArray⟩ := by
              rw [← hL, show (⟨#[32]⟩ : ByteArray) ++ (⟨(Lib.itoa x.c).toArray⟩ : ByteArray) = ⟨([32] ++ Lib.itoa x.c).toArray⟩ from ByteArray.mk_append_mk [32] _]
              exact app_bytes _ _ X HXX.out
            have HRES := Lib.hid hres
            have HD := Lib.hid hd
            have hx2 : ((67 : UInt8).toNat : Int) = 67 := rfl
            rw [hx2] at ix
            have HUU := Lib.hid hu
            clear hres hd hx2 hL hu
            go_wp2_with (go_at_call 6; refine HD.out.mono ?_; rintro e w2 ⟨rfl, hu2⟩; have HU2 := Lib.hid hu2; clear hu2)
            go_roundw
            case rel => exact ⟨p + 1, by omega, by go_num, _, rfl, by rw [HSTEP.out, ← List.append_assoc]; exact HRES.out, HUU.out.trans HU2.out (fun _ _ h => h)⟩
            case measure => simp [intOf]; omega
          · have hcell := hu.cell ID.out (fun h => h)
            obtain ⟨L, hL⟩ : ∃ L : ByteArray, (⟨(Lib.itoa x.d).toArray⟩ : ByteArray) = L := ⟨_, rfl⟩
            have hd := digits_any x.d HX.out.d.1 HX.out.d.2 wr
            have hLs : L.size ≤ 21 := by rw [← hL, size_eq]; exact Lib.itoa_length_le _ HX.out.d.1 HX.out.d.2
            rw [hL] at hd
            have z0a : ¬ 9223372036854775807 < 1 + L.size := by omega
            have z0b : 1 + L.size ≤ 9223372036854775807 := by omega
            have z1a : ¬ 9223372036854775807 < L.size + 1 := by omega
            have z1b : L.size + 1 ≤ 9223372036854775807 := by omega
            have z2a : ¬ 9223372036854775807 < X.size + (1 + L.size) := by omega
            have z2b : X.size + (1 + L.size) ≤ 9223372036854775807 := by omega
            have z3a : ¬ 9223372036854775807 < X.size + (L.size + 1) := by omega
            have z3b : X.size + (L.size + 1) ≤ 9223372036854775807 := by omega
            have z4a : ¬ 9223372036854775807 < X.size + 1 + L.size := by omega
            have z4b : X.size + 1 + L.size ≤ 9223372036854775807 := by omega
            have hres : X ++ ((⟨#[32]⟩ : ByteArray) ++ L) = ⟨(H ++ usesTxt x (u.take p) ++ useTxt x 68).toArray⟩ := by
              rw [← hL, show (⟨#[32]⟩ : ByteArray) ++ (⟨(Lib.itoa x.d).toArray⟩ : ByteArray) = ⟨([32] ++ Lib.itoa x.d).toArray⟩ from ByteArray.mk_append_mk [32] _]
              exact app_bytes _ _ X HXX.out
            have HRES := Lib.hid hres
            have HD := Lib.hid hd
            have hx2 : ((68 : UInt8).toNat : Int) = 68 := rfl
            rw [hx2] at ix
            have HUU := Lib.hid hu
            clear hres hd hx2 hL hu
            go_wp2_with (go_at_call 6; refine HD.out.mono ?_; rintro e w2 ⟨rfl, hu2⟩; have HU2 := Lib.hid hu2; clear hu2)
            go_roundw
            case rel => exact ⟨p + 1, by omega, by go_num, _, rfl, by rw [HSTEP.out, ← List.append_assoc]; exact HRES.out, HUU.out.trans HU2.out (fun _ _ h => h)⟩
            case measure => simp [intOf]; omega
          · have hlcell := hu.cell IL.out (fun h => h)
            obtain ⟨O, hO⟩ : ∃ O, H ++ usesTxt x (u.take p) ++ [32, 91] = O := ⟨_, rfl⟩
            have huse : useTxt x 76 = [32, 91] ++ listTxt x.list ++ [93] := by simp [useTxt]
            rw [huse] at hlen
            simp only [List.length_append, List.length_cons, List.length_nil] at hlen
            have hOl : O.length + (listTxt x.list).length + 1 ≤ 800000000 := by rw [← hO]; simp only [List.length_append, List.length_cons, List.length_nil]; omega
            have hX1 : X ++ (⟨#[32, 91]⟩ : ByteArray) = ⟨O.toArray⟩ := by rw [← hO]; exact app_bytes _ _ X HXX.out
            have z0a : ¬ 9223372036854775807 < X.size + 2 := by omega
            have z0b : X.size + 2 ≤ 9223372036854775807 := by omega
            have hx2 : ((76 : UInt8).toNat : Int) = 76 := rfl
            rw [hx2] at ix
            have HX1 := Lib.hid hX1
            have HO := Lib.hid hO
            have HOL := Lib.hid hOl
            have HUU := Lib.hid hu
            have HUSE := Lib.hid huse
            clear hX1 hO hOl hx2 hlen hu huse
            go_wp2_with fail
            clear hlcell
            go_loopw [8, 52] (fun x1 i wr => ∃ j : Nat, j ≤ n ∧ i = .int .i64 j ∧ ∃ Z : ByteArray, x1 = .string Z ∧ Z = ⟨(O ++ listTxt (x.list.take j)).toArray⟩ ∧ Upd (fun _ => False) w3 wr) (fun _ i _ => n - (intOf i).toNat)
            case atStart => exact ⟨0, Nat.zero_le _, rfl, _, rfl, by simpa [listTxt] using HX1.out, HUU.out⟩
            case round =>
            obtain ⟨j, hj, rfl, Z, rfl, hZ, huj⟩ := hrel
            have hZs : Z.size ≤ 800000000 := by
              rw [hZ, size_eq, List.length_append]
              have h1 := listTxt_le x.list j
              have h2 := HOL.out
              omega
            have HZ := Lib.hid hZ
            have HUJ := Lib.hid huj
            by_cases hjn : j < n
            · have hjl : j < x.list.length := by rw [HN.out]; exact hjn
              have hrow := HROW3.out.upd stInt huj (fun _ _ _ h => h)
              obtain ⟨g, go, vs, rfl, _, hvc, hD0⟩ := hrow.dest j hjl
              obtain ⟨y, hy⟩ : ∃ y, x.list[j] = y := ⟨_, rfl⟩
              have hyq : x.list[j]? = some y := by rw [List.getElem?_eq_getElem hjl, hy]
              have hD : vs = [.int .i64 x.list[j]] := hD0
              clear hD0
              rw [hy] at hD
              subst hD
              have hcell := hvc 0 _ rfl
              rw [Nat.mul_one, Nat.add_zero] at hcell
              have hst := listTxt_step x.list j y hyq
              have hyok := HX.out.l y (List.mem_of_getElem? hyq)
              obtain ⟨L, hL⟩ : ∃ L : ByteArray, (⟨(Lib.itoa y).toArray⟩ : ByteArray) = L := ⟨_, rfl⟩
              have hd := digits_any y hyok.1 hyok.2 wr
              have hLs : L.size ≤ 21 := by rw [← hL, size_eq]; exact Lib.itoa_length_le _ hyok.1 hyok.2
              rw [hL] at hd
              have HST := Lib.hid hst
              have HD := Lib.hid hd
              have HLL := Lib.hid hL
              clear hd hst hyok hyq hy hjl hvc hrow huj hZ hL
              have z0a : ¬ 9223372036854775807 < Z.size + L.size := by omega
              have z0b : Z.size + L.size ≤ 9223372036854775807 := by omega
              have z1a : ¬ 9223372036854775807 < Z.size + 1 := by omega
              have z1b : Z.size + 1 ≤ 9223372036854775807 := by omega
              have z2a : ¬ 9223372036854775807 < Z.size + 1 + L.size := by omega
              have z2b : Z.size + 1 + L.size ≤ 9223372036854775807 := by omega
              by_cases hj0 : j = 0
              · subst hj0
                rw [Nat.add_zero] at hcell
                go_wp2_with (go_at_call 6; refine HD.out.mono ?_; rintro e w2 ⟨rfl, hu2⟩; have HU2 := Lib.hid hu2; clear hu2)
                go_roundw
                case rel => exact ⟨0 + 1, by omega, by rfl, _, rfl, by rw [HST.out, ← HLL.out]; exact (app_bytes _ _ Z HZ.out).trans (by simp [listTxt]), HUJ.out.trans HU2.out (fun _ _ h => h)⟩
                case measure => simp [intOf]; omega
              · have hj1 : (0 : Int) < j := by omega
                go_wp2_with (go_at_call 6; refine HD.out.mono ?_; rintro e w2 ⟨rfl, hu2⟩; have HU2 := Lib.hid hu2; clear hu2)
                go_roundw
                case rel => exact ⟨j + 1, by omega, by go_num, _, rfl, by rw [HST.out, if_neg hj0, ← HLL.out]; exact (app_bytes _ _ _ (app_bytes _ [32] Z HZ.out)).trans (by simp), HUJ.out.trans HU2.out (fun _ _ h => h)⟩
                case measure => simp [intOf]; omega
            · have hjeq : j = n := by omega
              have hall : x.list.take j = x.list := by rw [hjeq, ← HN.out]; exact List.take_length
              rw [hall] at hZ
              have z0a : ¬ 9223372036854775807 < Z.size + 1 := by omega
              have z0b : Z.size + 1 ≤ 9223372036854775807 := by omega
              have HZ2 := Lib.hid hZ
              clear hZ huj hall
              go_wp2_with fail
              go_roundw
              case rel => exact ⟨p + 1, by omega, by go_num, _, rfl, by rw [HSTEP.out, HUSE.out]; exact (app_bytes _ [93] Z HZ2.out).trans (by rw [← HO.out]; simp), HUJ.out⟩
              case measure => simp [intOf]; omega
        · have hpm : p = m := by omega
          have hall : u.take p = u := by rw [hpm, ← HM.out]; exact List.take_length
          have hX2 := HXX.out
          rw [hall] at hX2
          have hres : X ++ (⟨#[10]⟩ : ByteArray) = ⟨(H ++ usesTxt x u ++ [10]).toArray⟩ := app_bytes _ [10] X hX2
          have z0a : ¬ 9223372036854775807 < X.size + 1 := by omega
          have z0b : X.size + 1 ≤ 9223372036854775807 := by omega
          have HRES := Lib.hid hres
          have HUU := Lib.hid hu
          clear hX2 hres hall hu
          go_wp2_with fail
          go_ret
          refine ⟨?_, (HA.out.trans HU3.out (fun _ _ h => h)).trans HUU.out (fun _ _ h => h)⟩
          exact Eq.trans (b := Ending.returned (.string (X ++ (⟨#[10]⟩ : ByteArray)))) rfl (congrArg (fun x => Ending.returned (.string x)) HRES.out)
    · have g2 : 56 < x.op := by omega
      clear hz
      go_wp2_with (go_at_call 10; refine HT.out.mono ?_; rintro e w2 ⟨rfl, hu2, hc1, hc2⟩; have HU2 := Lib.hid hu2; have i0 := HU2.out.cell j0 (fun h => h); have HR2 := Lib.hid hc2; clear hu2 hc2)
      go_region_with (go_at_call 6; refine (HKD.out _).mono ?_; rintro e w3 ⟨rfl, hu3⟩; have q1 := hu3.cell (show w2.drew.cell? ⟨A.heap.size, 0, none⟩ = some (.string NM) from hc1) (fun h => h))
      all_goals
        have HU3 := Lib.hid ((HU2.out.trans (Upd.drew (fun _ => False) w2) (fun _ _ h => h)).trans hu3 (fun _ _ h => h))
        have ia := HU3.out.cell HJ.out.1 (fun h => h)
        have ib := HU3.out.cell HJ.out.2.1 (fun h => h)
        have ic := HU3.out.cell HJ.out.2.2.1 (fun h => h)
        have id := HU3.out.cell HJ.out.2.2.2.1 (fun h => h)
        have il := HU3.out.cell HJ.out.2.2.2.2 (fun h => h)
        have q2 := hu3.cell (show w2.drew.cell? ⟨A.heap.size + 1, 0, none⟩ = some (.string U) from HR2.out) (fun h => h)
        have Q2 := Lib.hid q2
        have HROW3 := Lib.hid (HROW.out.upd stInt HU3.out (fun _ _ _ h => h))
        have IA := Lib.hid ia
        have IB := Lib.hid ib
        have IC := Lib.hid ic
        have ID := Lib.hid id
        have IL := Lib.hid il
        clear ia ib ic id il hu3
        go_wp2
        go_loopw [8, 38] (fun x1 i wr => ∃ p : Nat, p ≤ m ∧ i = .int .i64 p ∧ ∃ X : ByteArray, x1 = .string X ∧ X = ⟨(H ++ usesTxt x (u.take p)).toArray⟩ ∧ Upd (fun _ => False) w3 wr) (fun _ i _ => m - (intOf i).toNat)
        case atStart => exact ⟨0, Nat.zero_le _, rfl, _, rfl, by simpa [usesTxt] using HH.out, Upd.refl _ _⟩
        case round =>
        obtain ⟨p, hp, rfl, X, rfl, hX, hu⟩ := hrel
        have hXs : X.size ≤ 700000000 := by
          rw [hX, size_eq, List.length_append]
          have h1 := usesTxt_le x u p
          omega
        have HXX := Lib.hid hX
        have qU := hu.cell Q2.out (fun h => h)
        clear hX
        by_cases hlt : p < m
        · have hpU : p < U.size := by rw [hUs]; exact hlt
          obtain ⟨c, hc⟩ : ∃ c, u[p]? = some c := ⟨_, List.getElem?_eq_getElem (by rw [HM.out]; exact hlt)⟩
          have ix := HUG.out p c hpU hc
          have hcm := HMEM.out c (List.mem_of_getElem? hc)
          have hstep := usesTxt_step x u p c hc
          have hle := usesTxt_le x u (p + 1)
          rw [hstep, List.length_append] at hle
          have hlen : (H ++ usesTxt x (u.take p)).length + (useTxt x c).length ≤ 700000000 := by simp only [List.length_append]; omega
          have HSTEP := Lib.hid hstep
          clear hstep hle hc
          rcases hcm with rfl | rfl | rfl | rfl | rfl
          · have hcell := hu.cell IA.out (fun h => h)
            obtain ⟨L, hL⟩ : ∃ L : ByteArray, (⟨(Lib.itoa x.a).toArray⟩ : ByteArray) = L := ⟨_, rfl⟩
            have hd := digits_any x.a HX.out.a.1 HX.out.a.2 wr
            have hLs : L.size ≤ 21 := by rw [← hL, size_eq]; exact Lib.itoa_length_le _ HX.out.a.1 HX.out.a.2
            rw [hL] at hd
            have z0a : ¬ 9223372036854775807 < 1 + L.size := by omega
            have z0b : 1 + L.size ≤ 9223372036854775807 := by omega
            have z1a : ¬ 9223372036854775807 < L.size + 1 := by omega
            have z1b : L.size + 1 ≤ 9223372036854775807 := by omega
            have z2a : ¬ 9223372036854775807 < X.size + (1 + L.size) := by omega
            have z2b : X.size + (1 + L.size) ≤ 9223372036854775807 := by omega
            have z3a : ¬ 9223372036854775807 < X.size + (L.size + 1) := by omega
            have z3b : X.size + (L.size + 1) ≤ 9223372036854775807 := by omega
            have z4a : ¬ 9223372036854775807 < X.size + 1 + L.size := by omega
            have z4b : X.size + 1 + L.size ≤ 9223372036854775807 := by omega
            have hres : X ++ ((⟨#[32]⟩ : ByteArray) ++ L) = ⟨(H ++ usesTxt x (u.take p) ++ useTxt x 65).toArray⟩ := by
              rw [← hL, show (⟨#[32]⟩ : ByteArray) ++ (⟨(Lib.itoa x.a).toArray⟩ : ByteArray) = ⟨([32] ++ Lib.itoa x.a).toArray⟩ from ByteArray.mk_append_mk [32] _]
              exact app_bytes _ _ X HXX.out
            have HRES := Lib.hid hres
            have HD := Lib.hid hd
            have hx2 : ((65 : UInt8).toNat : Int) = 65 := rfl
            rw [hx2] at ix
            have HUU := Lib.hid hu
            clear hres hd hx2 hL hu
            go_wp2_with (go_at_call 6; refine HD.out.mono ?_; rintro e w2 ⟨rfl, hu2⟩; have HU2 := Lib.hid hu2; clear hu2)
            go_roundw
            case rel => exact ⟨p + 1, by omega, by go_num, _, rfl, by rw [HSTEP.out, ← List.append_assoc]; exact HRES.out, HUU.out.trans HU2.out (fun _ _ h => h)⟩
            case measure => simp [intOf]; omega
          · have hcell := hu.cell IB.out (fun h => h)
            obtain ⟨L, hL⟩ : ∃ L : ByteArray, (⟨(Lib.itoa x.b).toArray⟩ : ByteArray) = L := ⟨_, rfl⟩
            have hd := digits_any x.b HX.out.b.1 HX.out.b.2 wr
            have hLs : L.size ≤ 21 := by rw [← hL, size_eq]; exact Lib.itoa_length_le _ HX.out.b.1 HX.out.b.2
            rw [hL] at hd
            have z0a : ¬ 9223372036854775807 < 1 + L.size := by omega
            have z0b : 1 + L.size ≤ 9223372036854775807 := by omega
            have z1a : ¬ 9223372036854775807 < L.size + 1 := by omega
            have z1b : L.size + 1 ≤ 9223372036854775807 := by omega
            have z2a : ¬ 9223372036854775807 < X.size + (1 + L.size) := by omega
            have z2b : X.size + (1 + L.size) ≤ 9223372036854775807 := by omega
            have z3a : ¬ 9223372036854775807 < X.size + (L.size + 1) := by omega
            have z3b : X.size + (L.size + 1) ≤ 9223372036854775807 := by omega
            have z4a : ¬ 9223372036854775807 < X.size + 1 + L.size := by omega
            have z4b : X.size + 1 + L.size ≤ 9223372036854775807 := by omega
            have hres : X ++ ((⟨#[32]⟩ : ByteArray) ++ L) = ⟨(H ++ usesTxt x (u.take p) ++ useTxt x 66).toArray⟩ := by
              rw [← hL, show (⟨#[32]⟩ : ByteArray) ++ (⟨(Lib.itoa x.b).toArray⟩ : ByteArray) = ⟨([32] ++ Lib.itoa x.b).toArray⟩ from ByteArray.mk_append_mk [32] _]
              exact app_bytes _ _ X HXX.out
            have HRES := Lib.hid hres
            have HD := Lib.hid hd
            have hx2 : ((66 : UInt8).toNat : Int) = 66 := rfl
            rw [hx2] at ix
            have HUU := Lib.hid hu
            clear hres hd hx2 hL hu
            go_wp2_with (go_at_call 6; refine HD.out.mono ?_; rintro e w2 ⟨rfl, hu2⟩; have HU2 := Lib.hid hu2; clear hu2)
            go_roundw
            case rel => exact ⟨p + 1, by omega, by go_num, _, rfl, by rw [HSTEP.out, ← List.append_assoc]; exact HRES.out, HUU.out.trans HU2.out (fun _ _ h => h)⟩
            case measure => simp [intOf]; omega
          · have hcell := hu.cell IC.out (fun h => h)
            obtain ⟨L, hL⟩ : ∃ L : ByteArray, (⟨(Lib.itoa x.c).toArray⟩ : ByteArray) = L := ⟨_, rfl⟩
            have hd := digits_any x.c HX.out.c.1 HX.out.c.2 wr
            have hLs : L.size ≤ 21 := by rw [← hL, size_eq]; exact Lib.itoa_length_le _ HX.out.c.1 HX.out.c.2
            rw [hL] at hd
            have z0a : ¬ 9223372036854775807 < 1 + L.size := by omega
            have z0b : 1 + L.size ≤ 9223372036854775807 := by omega
            have z1a : ¬ 9223372036854775807 < L.size + 1 := by omega
            have z1b : L.size + 1 ≤ 9223372036854775807 := by omega
            have z2a : ¬ 9223372036854775807 < X.size + (1 + L.size) := by omega
            have z2b : X.size + (1 + L.size) ≤ 9223372036854775807 := by omega
            have z3a : ¬ 9223372036854775807 < X.size + (L.size + 1) := by omega
            have z3b : X.size + (L.size + 1) ≤ 9223372036854775807 := by omega
            have z4a : ¬ 9223372036854775807 < X.size + 1 + L.size := by omega
            have z4b : X.size + 1 + L.size ≤ 9223372036854775807 := by omega
            have hres : X ++ ((⟨#[32]⟩ : ByteArray) ++ L) = ⟨(H ++ usesTxt x (u.take p) ++ useTxt x 67).toArray⟩ := by
              rw [← hL, show (⟨#[32]⟩ : ByteArray) ++ (⟨(Lib.itoa x.c).toArray⟩ : ByteArray) = ⟨([32] ++ Lib.itoa x.c).toArray⟩ from ByteArray.mk_append_mk [32] _]
              exact app_bytes _ _ X HXX.out
            have HRES := Lib.hid hres
            have HD := Lib.hid hd
            have hx2 : ((67 : UInt8).toNat : Int) = 67 := rfl
            rw [hx2] at ix
            have HUU := Lib.hid hu
            clear hres hd hx2 hL hu
            go_wp2_with (go_at_call 6; refine HD.out.mono ?_; rintro e w2 ⟨rfl, hu2⟩; have HU2 := Lib.hid hu2; clear hu2)
            go_roundw
            case rel => exact ⟨p + 1, by omega, by go_num, _, rfl, by rw [HSTEP.out, ← List.append_assoc]; exact HRES.out, HUU.out.trans HU2.out (fun _ _ h => h)⟩
            case measure => simp [intOf]; omega
          · have hcell := hu.cell ID.out (fun h => h)
            obtain ⟨L, hL⟩ : ∃ L : ByteArray, (⟨(Lib.itoa x.d).toArray⟩ : ByteArray) = L := ⟨_, rfl⟩
            have hd := digits_any x.d HX.out.d.1 HX.out.d.2 wr
            have hLs : L.size ≤ 21 := by rw [← hL, size_eq]; exact Lib.itoa_length_le _ HX.out.d.1 HX.out.d.2
            rw [hL] at hd
            have z0a : ¬ 9223372036854775807 < 1 + L.size := by omega
            have z0b : 1 + L.size ≤ 9223372036854775807 := by omega
            have z1a : ¬ 9223372036854775807 < L.size + 1 := by omega
            have z1b : L.size + 1 ≤ 9223372036854775807 := by omega
            have z2a : ¬ 9223372036854775807 < X.size + (1 + L.size) := by omega
            have z2b : X.size + (1 + L.size) ≤ 9223372036854775807 := by omega
            have z3a : ¬ 9223372036854775807 < X.size + (L.size + 1) := by omega
            have z3b : X.size + (L.size + 1) ≤ 9223372036854775807 := by omega
            have z4a : ¬ 9223372036854775807 < X.size + 1 + L.size := by omega
            have z4b : X.size + 1 + L.size ≤ 9223372036854775807 := by omega
            have hres : X ++ ((⟨#[32]⟩ : ByteArray) ++ L) = ⟨(H ++ usesTxt x (u.take p) ++ useTxt x 68).toArray⟩ := by
              rw [← hL, show (⟨#[32]⟩ : ByteArray) ++ (⟨(Lib.itoa x.d).toArray⟩ : ByteArray) = ⟨([32] ++ Lib.itoa x.d).toArray⟩ from ByteArray.mk_append_mk [32] _]
              exact app_bytes _ _ X HXX.out
            have HRES := Lib.hid hres
            have HD := Lib.hid hd
            have hx2 : ((68 : UInt8).toNat : Int) = 68 := rfl
            rw [hx2] at ix
            have HUU := Lib.hid hu
            clear hres hd hx2 hL hu
            go_wp2_with (go_at_call 6; refine HD.out.mono ?_; rintro e w2 ⟨rfl, hu2⟩; have HU2 := Lib.hid hu2; clear hu2)
            go_roundw
            case rel => exact ⟨p + 1, by omega, by go_num, _, rfl, by rw [HSTEP.out, ← List.append_assoc]; exact HRES.out, HUU.out.trans HU2.out (fun _ _ h => h)⟩
            case measure => simp [intOf]; omega
          · have hlcell := hu.cell IL.out (fun h => h)
            obtain ⟨O, hO⟩ : ∃ O, H ++ usesTxt x (u.take p) ++ [32, 91] = O := ⟨_, rfl⟩
            have huse : useTxt x 76 = [32, 91] ++ listTxt x.list ++ [93] := by simp [useTxt]
            rw [huse] at hlen
            simp only [List.length_append, List.length_cons, List.length_nil] at hlen
            have hOl : O.length + (listTxt x.list).length + 1 ≤ 800000000 := by rw [← hO]; simp only [List.length_append, List.length_cons, List.length_nil]; omega
            have hX1 : X ++ (⟨#[32, 91]⟩ : ByteArray) = ⟨O.toArray⟩ := by rw [← hO]; exact app_bytes _ _ X HXX.out
            have z0a : ¬ 9223372036854775807 < X.size + 2 := by omega
            have z0b : X.size + 2 ≤ 9223372036854775807 := by omega
            have hx2 : ((76 : UInt8).toNat : Int) = 76 := rfl
            rw [hx2] at ix
            have HX1 := Lib.hid hX1
            have HO := Lib.hid hO
            have HOL := Lib.hid hOl
            have HUU := Lib.hid hu
            have HUSE := Lib.hid huse
            clear hX1 hO hOl hx2 hlen hu huse
            go_wp2_with fail
            clear hlcell
            go_loopw [8, 52] (fun x1 i wr => ∃ j : Nat, j ≤ n ∧ i = .int .i64 j ∧ ∃ Z : ByteArray, x1 = .string Z ∧ Z = ⟨(O ++ listTxt (x.list.take j)).toArray⟩ ∧ Upd (fun _ => False) w3 wr) (fun _ i _ => n - (intOf i).toNat)
            case atStart => exact ⟨0, Nat.zero_le _, rfl, _, rfl, by simpa [listTxt] using HX1.out, HUU.out⟩
            case round =>
            obtain ⟨j, hj, rfl, Z, rfl, hZ, huj⟩ := hrel
            have hZs : Z.size ≤ 800000000 := by
              rw [hZ, size_eq, List.length_append]
              have h1 := listTxt_le x.list j
              have h2 := HOL.out
              omega
            have HZ := Lib.hid hZ
            have HUJ := Lib.hid huj
            by_cases hjn : j < n
            · have hjl : j < x.list.length := by rw [HN.out]; exact hjn
              have hrow := HROW3.out.upd stInt huj (fun _ _ _ h => h)
              obtain ⟨g, go, vs, rfl, _, hvc, hD0⟩ := hrow.dest j hjl
              obtain ⟨y, hy⟩ : ∃ y, x.list[j] = y := ⟨_, rfl⟩
              have hyq : x.list[j]? = some y := by rw [List.getElem?_eq_getElem hjl, hy]
              have hD : vs = [.int .i64 x.list[j]] := hD0
              clear hD0
              rw [hy] at hD
              subst hD
              have hcell := hvc 0 _ rfl
              rw [Nat.mul_one, Nat.add_zero] at hcell
              have hst := listTxt_step x.list j y hyq
              have hyok := HX.out.l y (List.mem_of_getElem? hyq)
              obtain ⟨L, hL⟩ : ∃ L : ByteArray, (⟨(Lib.itoa y).toArray⟩ : ByteArray) = L := ⟨_, rfl⟩
              have hd := digits_any y hyok.1 hyok.2 wr
              have hLs : L.size ≤ 21 := by rw [← hL, size_eq]; exact Lib.itoa_length_le _ hyok.1 hyok.2
              rw [hL] at hd
              have HST := Lib.hid hst
              have HD := Lib.hid hd
              have HLL := Lib.hid hL
              clear hd hst hyok hyq hy hjl hvc hrow huj hZ hL
              have z0a : ¬ 9223372036854775807 < Z.size + L.size := by omega
              have z0b : Z.size + L.size ≤ 9223372036854775807 := by omega
              have z1a : ¬ 9223372036854775807 < Z.size + 1 := by omega
              have z1b : Z.size + 1 ≤ 9223372036854775807 := by omega
              have z2a : ¬ 9223372036854775807 < Z.size + 1 + L.size := by omega
              have z2b : Z.size + 1 + L.size ≤ 9223372036854775807 := by omega
              by_cases hj0 : j = 0
              · subst hj0
                rw [Nat.add_zero] at hcell
                go_wp2_with (go_at_call 6; refine HD.out.mono ?_; rintro e w2 ⟨rfl, hu2⟩; have HU2 := Lib.hid hu2; clear hu2)
                go_roundw
                case rel => exact ⟨0 + 1, by omega, by rfl, _, rfl, by rw [HST.out, ← HLL.out]; exact (app_bytes _ _ Z HZ.out).trans (by simp [listTxt]), HUJ.out.trans HU2.out (fun _ _ h => h)⟩
                case measure => simp [intOf]; omega
              · have hj1 : (0 : Int) < j := by omega
                go_wp2_with (go_at_call 6; refine HD.out.mono ?_; rintro e w2 ⟨rfl, hu2⟩; have HU2 := Lib.hid hu2; clear hu2)
                go_roundw
                case rel => exact ⟨j + 1, by omega, by go_num, _, rfl, by rw [HST.out, if_neg hj0, ← HLL.out]; exact (app_bytes _ _ _ (app_bytes _ [32] Z HZ.out)).trans (by simp), HUJ.out.trans HU2.out (fun _ _ h => h)⟩
                case measure => simp [intOf]; omega
            · have hjeq : j = n := by omega
              have hall : x.list.take j = x.list := by rw [hjeq, ← HN.out]; exact List.take_length
              rw [hall] at hZ
              have z0a : ¬ 9223372036854775807 < Z.size + 1 := by omega
              have z0b : Z.size + 1 ≤ 9223372036854775807 := by omega
              have HZ2 := Lib.hid hZ
              clear hZ huj hall
              go_wp2_with fail
              go_roundw
              case rel => exact ⟨p + 1, by omega, by go_num, _, rfl, by rw [HSTEP.out, HUSE.out]; exact (app_bytes _ [93] Z HZ2.out).trans (by rw [← HO.out]; simp), HUJ.out⟩
              case measure => simp [intOf]; omega
        · have hpm : p = m := by omega
          have hall : u.take p = u := by rw [hpm, ← HM.out]; exact List.take_length
          have hX2 := HXX.out
          rw [hall] at hX2
          have hres : X ++ (⟨#[10]⟩ : ByteArray) = ⟨(H ++ usesTxt x u ++ [10]).toArray⟩ := app_bytes _ [10] X hX2
          have z0a : ¬ 9223372036854775807 < X.size + 1 := by omega
          have z0b : X.size + 1 ≤ 9223372036854775807 := by omega
          have HRES := Lib.hid hres
          have HUU := Lib.hid hu
          clear hX2 hres hall hu
          go_wp2_with fail
          go_ret
          refine ⟨?_, (HA.out.trans HU3.out (fun _ _ h => h)).trans HUU.out (fun _ _ h => h)⟩
          exact Eq.trans (b := Ending.returned (.string (X ++ (⟨#[10]⟩ : ByteArray)))) rfl (congrArg (fun x => Ending.returned (.string x)) HRES.out)
end Go.Proofs.YtdbbalcicgllhaaGreatDoor

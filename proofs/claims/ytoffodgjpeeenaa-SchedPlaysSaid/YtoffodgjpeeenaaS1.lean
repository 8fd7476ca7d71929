import Derived.Test.YtoffodgjpeeenaaP2
import Derived.Deep.RegionWith
import Derived.Deep.RegionLaw
import Derived.Deep.DeepCutAuto
import Derived.Deep.CutBlock
import Derived.Deep.RegionHeld3
namespace Go.Proofs.Ytoffodgjpeeenaa
open Go.RowKit

/-- append to a row of the call's own, as one step of a region that draws. -/
theorem step_append_fresh {P : Program} {ops : Array Oper} {o : Oper} {a : Act} {w : World} {K : Act → World → Prop} {Q : Exit → Act → World → Prop} {E : Prop}
    (hgd : o.guard = none) (s x : Operand) (t : TypeId) (ho : o.op = .call { callee := .builtin .append, args := #[s, x], argTypes := #[t, t] })
    (base : Nat) (e : TypeId) (i : TypeInfo) (z : Value) (size bytes : Nat) (ht : P.underlying t = some (.slice e)) (hi : P.info? e = some i) (hz : i.zero = some z)
    (hsize : i.size = size) (hby : i.bytes = bytes) (hzs : z.cells.size = size) (hsz : 0 < size)
    (v : Value) (n : Nat) (xs : List Value) (hs : a.eval s = v) (hown : w.ownsRow base e size v n xs)
    (ad : Addr) (m c : Nat) (news : List Value) (hx : a.eval x = .slice (some ad) m c) (hl : news.length = m * size) (hnews : ∀ j u, news[j]? = some u → w.cell? (ad.add j) = some u) (h1 : ∀ u ∈ news, u.oneCell' = true)
    (h63 : n + m ≤ maxLen) (hbytes : (n + m) * bytes ≤ 140737488355328) (hbase : base ≤ w.heap.size)
    (h : ∀ v' w', w'.ownsRow base e size v' (n + m) (xs ++ news) → w.grownBy w' v.ownBlock → Hid (v'.ownBlock = v.ownBlock ∨ ∀ k, v'.ownBlock = some k → w.heap.size ≤ k) → K (a.put o.dst v') w') :
    if Region.wanted o (yielded ops a.tmps) = true then Oper.wp P o a w K Q else E := by
  have hw : Region.wanted o (yielded ops a.tmps) = true := by simp [Region.wanted, hgd]
  rw [if_pos hw]
  obtain ⟨v', w', hr, h2, h3, h4⟩ := run_append_fresh (P := P) w base t o.type e i z size bytes ht hi hz hsize hby hzs hsz v n xs hown ad m c news hl hnews h1 h63 hbytes hbase
  unfold Oper.wp execOp
  simp only [ho, resolve, invoke, builtin, Sem.run_bind, Sem.run_pure, Result.andThen_ok, List.map_toArray, List.map_cons, List.map_nil, hs, hx, hr]
  exact h v' w' h2 h3 h4

/-- What a step leaves: both queues alike, no longer schedule, one more at most. -/
def Went (B : Nat) (w0 w' : World) (b rb : Nat) (ls ll : Nat) : Prop := ∃ scr l, Pair B w0 w' b rb scr l scr l ∧ scr.length ≤ ls ∧ l.length ≤ ll + 1

theorem box_cells {w : World} {c : Nat} {k x : Int} (h : w.heap[c]? = some (.cells #[.int .i64 k, .int .i64 x] 37)) : w.cell? ⟨c, 0, none⟩ = some (.int .i64 k) ∧ w.cell? ⟨c, 1, none⟩ = some (.int .i64 x) := by
  simp [World.cell?, h]

/-- What an append to the document's list comes to, said for the walk: the value, the struct's cell, and the pair behind the store. -/
theorem went_of {B n : Nat} {Lv v' : Value} {rb : Nat} {w1 w2 wa : World} {l : List Int} {x : Int} {G : World → List Int → Prop}
    (hK : ∀ w1' g cap id, w1'.ownsRow B 3 1 (.slice (some ⟨g, 0, none⟩) (l.length + 1) cap) (l.length + 1) (l.map (.int .i64) ++ [.int .i64 id]) → Upd (fun k => Lv.ownBlock = some k) w1 w1' → (Lv.ownBlock = some g ∨ w1.heap.size ≤ g) →
        G (w1'.setCell ⟨rb, 2, none⟩ (.slice (some ⟨g, 0, none⟩) (l.length + 1) cap)) (l ++ [id]))
    (hnb : Lv.ownBlock ≠ some rb) (hrb : rb < w1.heap.size) (hua : Upd (fun _ => False) w1 wa) (hn : l.length = n)
    (hown : w2.ownsRow B 3 1 v' (n + 1) (l.map (.int .i64) ++ [.int .i64 x])) (hgrow : wa.grownBy w2 Lv.ownBlock) (hfr : Hid (v'.ownBlock = Lv.ownBlock ∨ ∀ k, v'.ownBlock = some k → wa.heap.size ≤ k)) :
    ∃ g cap, v' = .slice (some ⟨g, 0, none⟩) (n + 1) cap ∧ w2.cell? ⟨rb, 2, none⟩ = w1.cell? ⟨rb, 2, none⟩ ∧ w2.frozen? ⟨rb, 2, none⟩ = w1.frozen? ⟨rb, 2, none⟩ ∧ Hid (G (w2.setCell ⟨rb, 2, none⟩ (.slice (some ⟨g, 0, none⟩) (n + 1) cap)) (l ++ [x])) := by
  subst hn
  obtain ⟨g, cap, rfl⟩ := own_shape hown
  have hu : Upd (fun k => Lv.ownBlock = some k) w1 w2 := (hua.mono (fun _ _ h => h.elim)).trans (Upd.grown hgrow (fun k h => h)) (fun _ _ h => h)
  refine ⟨g, cap, rfl, World.cell?_of_block (a := ⟨rb, 2, none⟩) (hu.block rb hrb hnb), World.frozen?_of_block (a := ⟨rb, 2, none⟩) (hu.block rb hrb hnb), hK w2 g cap x hown hu ?_⟩
  rcases hfr.out with e | e
  · exact .inl e.symm
  · exact .inr (by have := e g rfl; have := hua.size; omega)

set_option maxHeartbeats 1600000 in
set_option maxRecDepth 100000 in
theorem step_push {B : Nat} {w0 : World} {b rb : Nat} {scr l : List Int} (x : Int) (w : World) (h : Pair B w0 w b rb scr l scr l) (_hs : scr.length ≤ 1000) (hl : l.length ≤ 2000) :
    Calls Try.prog 14 #[.pointer (some ⟨b, 0, none⟩), .pointer (some ⟨rb, 0, none⟩), .agg #[.int .i64 1, .int .i64 x]] w fun e w' => e = .returned (.bool true) ∧ Hid (Went B w0 w' b rb scr.length l.length) := by
  obtain ⟨i0, hi, hz0, hz1, hz2⟩ := info_parts Try.info3
  have HP := Lib.hid (h.box (.cells #[.int .i64 1, .int .i64 x] 37))
  clear h
  go_enter Try.func14, Try.ntmps14
  go_upto_block 0 with (fail)
  go_cut [6] (fun s6 wx => s6 = .bool false ∧ Hid (Went B w0 wx b rb scr.length l.length))
  case first =>
    go_wp2_with fail
    refine (pair_push x HP.out (by omega)).mono ?_
    rintro e w1 ⟨rfl, hp1⟩
    obtain ⟨kb0, kb1⟩ := box_cells hp1.out.kept
    obtain ⟨Lv, hB1, hrb1, k1, f1, ho1, hnb1, hK1⟩ := pair_append hp1.out
    have HO1 := Lib.hid ho1
    have HNB := Lib.hid hnb1
    have HK := Lib.hid hK1
    clear ho1 hnb1 hK1
    go_wp2_with fail
    go_region_law (refine step_append_fresh rfl (.tmp 23) (.tmp 26) 22 rfl B 3 i0 (.int .i64 0) 1 8 Try.underlying22 hi hz0 hz1 hz2 rfl (by decide) Lv l.length (l.map (.int .i64)) (by simp [Act.eval]) ((HO1.out.alloc (.cells #[.int .i64 x] 3)).drew) ⟨w1.heap.size, 0, none⟩ 1 1 [.int .i64 x] (by simp [Act.eval]) rfl (by intro j u hj; match j, hj with | 0, hj => simp at hj; subst hj; simp [Addr.add]) (by intro u hu; simp at hu; subst hu; rfl) (by unfold maxLen; omega) (by omega) (by simp; omega) ?_; intro v' w2 hown hgrow hfr; obtain ⟨g2, cap2, rfl, k2, f2, HX⟩ := went_of (G := fun W L => PairX (some (w.heap.size, .cells #[.int .i64 1, .int .i64 x] 37)) B w0 W b rb scr (l ++ [x]) scr L) HK.out HNB.out hrb1 ((Upd.alloc _ w1 _).trans (Upd.drew _ _) (fun _ _ h => h)) rfl hown hgrow hfr; rw [k1] at k2; rw [f1] at f2; clear hown hgrow hfr)
    all_goals
      go_wp2_with fail
      go_meet
      exact ⟨rfl, scr, l ++ [x], HX.out.unbox, Nat.le_refl _, by simp⟩
  case rest =>
    obtain ⟨rfl, hw⟩ := hcut
    obtain ⟨scr2, l2, hp2, hs2, hl2⟩ := hw.out
    clear hw
    obtain ⟨p, hpl⟩ : ∃ p, l2.length = p := ⟨_, rfl⟩
    rw [hpl] at hl2
    obtain ⟨ra, rc, k0, _⟩ := pair_both (p := p) hp2 hpl (by omega)
    obtain ⟨HC0, HL0⟩ := pair_both2 (p := p) (hp2.up (Upd.drew _ _)) hpl (by omega) k0
    have HPL := Lib.hid hpl
    have HS := Lib.hid hs2
    clear hpl hs2 hp2 HP
    go_wp2
    go_region_held3 (fun w' => w'.cell? ⟨rb, 2, none⟩ = some (.slice ra p rc)) (go_keep) (first | (go_at_call 16; refine HL0.out.mono ?_; rintro e w5 ⟨rfl, rfl⟩) | (go_at_call 10; refine HC0.out.mono ?_; rintro e w6 ⟨a6, c6, rfl, k6, hv6, hr6, hp6⟩) | (go_at_call 13; refine (ints_same _ _ _ _ _ l2 _ HPL.out (Hid.out (by assumption)) (Hid.out (by assumption)) (by omega)).mono ?_; rintro e w7 ⟨rfl, rfl⟩))
    all_goals
      go_wp2
      go_ret
      exact ⟨rfl, _, _, (Hid.out (p := Pair B w0 _ b rb scr2 l2 scr2 l2) (by assumption)), HS.out, by rw [HPL.out]; exact hl2⟩

set_option maxHeartbeats 1600000 in
set_option maxRecDepth 100000 in
theorem step_next {B : Nat} {w0 : World} {b rb : Nat} {scr l : List Int} (x : Int) (w : World) (h : Pair B w0 w b rb scr l scr l) (hs : scr.length ≤ 1000) (hl : l.length ≤ 2000) :
    Calls Try.prog 14 #[.pointer (some ⟨b, 0, none⟩), .pointer (some ⟨rb, 0, none⟩), .agg #[.int .i64 2, .int .i64 x]] w fun e w' => e = .returned (.bool true) ∧ Hid (Went B w0 w' b rb scr.length l.length) := by
  obtain ⟨i0, hi, hz0, hz1, hz2⟩ := info_parts Try.info3
  have HP := Lib.hid (h.box (.cells #[.int .i64 2, .int .i64 x] 37))
  clear h
  go_enter Try.func14, Try.ntmps14
  go_upto_block 0 with (fail)
  go_cut [6] (fun s6 wx => s6 = .bool false ∧ Hid (Went B w0 wx b rb scr.length l.length))
  case first =>
    obtain ⟨kb0, kb1⟩ := box_cells HP.out.kept
    go_wp2_with fail
    refine (pair_next HP.out (by omega) (by omega)).mono ?_
    rintro e w1 ⟨rfl, hp1⟩
    go_wp2_with fail
    refine (pair_rnext hp1.out (by omega)).mono ?_
    rintro e w2 ⟨rfl, hp2⟩
    have HW : Hid (Went B w0 w2 b rb scr.length l.length) := ⟨_, _, hp2.out.unbox, tail_len scr, Nat.le_succ_of_le (nextList_len scr l)⟩
    generalize nextVal scr l = y
    generalize okB l = ok
    have e1 : (y != y) = false := by simp
    have e2 : (ok != ok) = false := by simp
    clear hp1 hp2
    go_wp2_with fail
    go_meet
    exact ⟨rfl, HW⟩
  case rest =>
    obtain ⟨rfl, hw⟩ := hcut
    obtain ⟨scr2, l2, hp2, hs2, hl2⟩ := hw.out
    clear hw
    obtain ⟨p, hpl⟩ : ∃ p, l2.length = p := ⟨_, rfl⟩
    rw [hpl] at hl2
    obtain ⟨ra, rc, k0, _⟩ := pair_both (p := p) hp2 hpl (by omega)
    obtain ⟨HC0, HL0⟩ := pair_both2 (p := p) (hp2.up (Upd.drew _ _)) hpl (by omega) k0
    have HPL := Lib.hid hpl
    have HS := Lib.hid hs2
    clear hpl hs2 hp2 hs HP
    go_wp2
    go_region_held3 (fun w' => w'.cell? ⟨rb, 2, none⟩ = some (.slice ra p rc)) (go_keep) (first | (go_at_call 16; refine HL0.out.mono ?_; rintro e w5 ⟨rfl, rfl⟩) | (go_at_call 10; refine HC0.out.mono ?_; rintro e w6 ⟨a6, c6, rfl, k6, hv6, hr6, hp6⟩) | (go_at_call 13; refine (ints_same _ _ _ _ _ l2 _ HPL.out (Hid.out (by assumption)) (Hid.out (by assumption)) (by omega)).mono ?_; rintro e w7 ⟨rfl, rfl⟩))
    all_goals
      go_wp2
      go_ret
      exact ⟨rfl, _, _, (Hid.out (p := Pair B w0 _ b rb scr2 l2 scr2 l2) (by assumption)), HS.out, by rw [HPL.out]; exact hl2⟩

set_option maxHeartbeats 1600000 in
set_option maxRecDepth 100000 in
theorem step_yield {B : Nat} {w0 : World} {b rb : Nat} {scr l : List Int} (x : Int) (w : World) (h : Pair B w0 w b rb scr l scr l) (hs : scr.length ≤ 1000) (hl : l.length ≤ 2000) :
    Calls Try.prog 14 #[.pointer (some ⟨b, 0, none⟩), .pointer (some ⟨rb, 0, none⟩), .agg #[.int .i64 3, .int .i64 x]] w fun e w' => e = .returned (.bool true) ∧ Hid (Went B w0 w' b rb scr.length l.length) := by
  obtain ⟨i0, hi, hz0, hz1, hz2⟩ := info_parts Try.info3
  have HP := Lib.hid (h.box (.cells #[.int .i64 3, .int .i64 x] 37))
  clear h
  go_enter Try.func14, Try.ntmps14
  go_upto_block 0 with (fail)
  go_cut [6] (fun s6 wx => s6 = .bool false ∧ Hid (Went B w0 wx b rb scr.length l.length))
  case first =>
    obtain ⟨kb0, kb1⟩ := box_cells HP.out.kept
    have HY := Lib.hid (fun (w1 : World) (hp : PairX (some (w.heap.size, .cells #[.int .i64 3, .int .i64 x] 37)) B w0 w1 b rb scr l scr l) => pair_yield x hp (by omega) (by omega))
    have HZ := Lib.hid (fun (w1 : World) (hp : PairX (some (w.heap.size, .cells #[.int .i64 3, .int .i64 x] 37)) B w0 w1 b rb scr.tail (yieldList scr l x) scr l) => pair_ryield x hp (by omega))
    have HD := Lib.hid (HP.out.up (Upd.drew _ _))
    go_wp2_with fail
    go_region_held3 (fun w' => w'.cell? ⟨w.heap.size, 1, none⟩ = some (.int .i64 x)) (go_keep) (first | (go_at_call 15; refine (HY.out _ HD.out).mono ?_; rintro e w1 ⟨rfl, hp1⟩; have kb2 := (box_cells hp1.out.kept).2) | (go_at_call 22; refine (HZ.out _ hp1.out).mono ?_; rintro e w2 ⟨rfl, hp2⟩; have kb3 := (box_cells hp2.out.kept).2))
    all_goals
      have HW : Hid (Went B w0 _ b rb scr.length l.length) := ⟨_, _, hp2.out.unbox, tail_len scr, yieldList_len scr l x⟩
      generalize yieldVal scr l x = y
      have e1 : (y != y) = false := by simp
      clear hp1 hp2
      go_wp2_with fail
      go_meet
      exact ⟨rfl, HW⟩
  case rest =>
    obtain ⟨rfl, hw⟩ := hcut
    obtain ⟨scr2, l2, hp2, hs2, hl2⟩ := hw.out
    clear hw
    obtain ⟨p, hpl⟩ : ∃ p, l2.length = p := ⟨_, rfl⟩
    rw [hpl] at hl2
    obtain ⟨ra, rc, k0, _⟩ := pair_both (p := p) hp2 hpl (by omega)
    obtain ⟨HC0, HL0⟩ := pair_both2 (p := p) (hp2.up (Upd.drew _ _)) hpl (by omega) k0
    have HPL := Lib.hid hpl
    have HS := Lib.hid hs2
    clear hpl hs2 hp2 hs HP
    go_wp2
    go_region_held3 (fun w' => w'.cell? ⟨rb, 2, none⟩ = some (.slice ra p rc)) (go_keep) (first | (go_at_call 16; refine HL0.out.mono ?_; rintro e w5 ⟨rfl, rfl⟩) | (go_at_call 10; refine HC0.out.mono ?_; rintro e w6 ⟨a6, c6, rfl, k6, hv6, hr6, hp6⟩) | (go_at_call 13; refine (ints_same _ _ _ _ _ l2 _ HPL.out (Hid.out (by assumption)) (Hid.out (by assumption)) (by omega)).mono ?_; rintro e w7 ⟨rfl, rfl⟩))
    all_goals
      go_wp2
      go_ret
      exact ⟨rfl, _, _, (Hid.out (p := Pair B w0 _ b rb scr2 l2 scr2 l2) (by assumption)), HS.out, by rw [HPL.out]; exact hl2⟩

set_option maxHeartbeats 1600000 in
set_option maxRecDepth 100000 in
theorem step_number {B : Nat} {w0 : World} {b rb : Nat} {scr l : List Int} (x : Int) (w : World) (h : Pair B w0 w b rb scr l scr l) (hs : scr.length ≤ 1000) (hl : l.length ≤ 2000) :
    Calls Try.prog 14 #[.pointer (some ⟨b, 0, none⟩), .pointer (some ⟨rb, 0, none⟩), .agg #[.int .i64 4, .int .i64 x]] w fun e w' => e = .returned (.bool true) ∧ Hid (Went B w0 w' b rb scr.length l.length) := by
  obtain ⟨i0, hi, hz0, hz1, hz2⟩ := info_parts Try.info3
  have HP := Lib.hid (h.box (.cells #[.int .i64 4, .int .i64 x] 37))
  clear h
  go_enter Try.func14, Try.ntmps14
  go_upto_block 0 with (fail)
  go_cut [6] (fun s6 wx => s6 = .bool false ∧ Hid (Went B w0 wx b rb scr.length l.length))
  case first =>
    obtain ⟨kb0, kb1⟩ := box_cells HP.out.kept
    go_wp2_with fail
    refine (pair_number HP.out (by omega)).mono ?_
    rintro e w1 ⟨rfl, hp1⟩
    go_wp2_with fail
    refine (pair_rnumber hp1.out).mono ?_
    rintro e w2 ⟨rfl, hp2⟩
    have HW : Hid (Went B w0 w2 b rb scr.length l.length) := ⟨_, _, hp2.out.unbox, tail_len scr, Nat.le_succ _⟩
    generalize numOf scr = y
    have e1 : (y != y) = false := by simp
    clear hp1 hp2
    go_wp2_with fail
    go_meet
    exact ⟨rfl, HW⟩
  case rest =>
    obtain ⟨rfl, hw⟩ := hcut
    obtain ⟨scr2, l2, hp2, hs2, hl2⟩ := hw.out
    clear hw
    obtain ⟨p, hpl⟩ : ∃ p, l2.length = p := ⟨_, rfl⟩
    rw [hpl] at hl2
    obtain ⟨ra, rc, k0, _⟩ := pair_both (p := p) hp2 hpl (by omega)
    obtain ⟨HC0, HL0⟩ := pair_both2 (p := p) (hp2.up (Upd.drew _ _)) hpl (by omega) k0
    have HPL := Lib.hid hpl
    have HS := Lib.hid hs2
    clear hpl hs2 hp2 hs HP
    go_wp2
    go_region_held3 (fun w' => w'.cell? ⟨rb, 2, none⟩ = some (.slice ra p rc)) (go_keep) (first | (go_at_call 16; refine HL0.out.mono ?_; rintro e w5 ⟨rfl, rfl⟩) | (go_at_call 10; refine HC0.out.mono ?_; rintro e w6 ⟨a6, c6, rfl, k6, hv6, hr6, hp6⟩) | (go_at_call 13; refine (ints_same _ _ _ _ _ l2 _ HPL.out (Hid.out (by assumption)) (Hid.out (by assumption)) (by omega)).mono ?_; rintro e w7 ⟨rfl, rfl⟩))
    all_goals
      go_wp2
      go_ret
      exact ⟨rfl, _, _, (Hid.out (p := Pair B w0 _ b rb scr2 l2 scr2 l2) (by assumption)), HS.out, by rw [HPL.out]; exact hl2⟩

set_option maxHeartbeats 1600000 in
set_option maxRecDepth 100000 in
theorem step_other {B : Nat} {w0 : World} {b rb : Nat} {scr l : List Int} (k : Int) (h1 : (k == 1) = false) (h2 : (k == 2) = false) (h3 : (k == 3) = false) (h4 : (k == 4) = false) (x : Int) (w : World) (h : Pair B w0 w b rb scr l scr l) (_hs : scr.length ≤ 1000) (hl : l.length ≤ 2000) :
    Calls Try.prog 14 #[.pointer (some ⟨b, 0, none⟩), .pointer (some ⟨rb, 0, none⟩), .agg #[.int .i64 k, .int .i64 x]] w fun e w' => e = .returned (.bool true) ∧ Hid (Went B w0 w' b rb scr.length l.length) := by
  obtain ⟨i0, hi, hz0, hz1, hz2⟩ := info_parts Try.info3
  have HP := Lib.hid (h.box (.cells #[.int .i64 k, .int .i64 x] 37))
  clear h
  go_enter Try.func14, Try.ntmps14
  go_upto_block 0 with (fail)
  go_cut [6] (fun s6 wx => s6 = .bool false ∧ Hid (Went B w0 wx b rb scr.length l.length))
  case first =>
    obtain ⟨kb0, kb1⟩ := box_cells HP.out.kept
    have HW : Hid (Went B w0 _ b rb scr.length l.length) := ⟨_, _, HP.out.unbox, Nat.le_refl _, Nat.le_succ _⟩
    go_wp2_with fail
    go_meet
    exact ⟨rfl, HW⟩
  case rest =>
    obtain ⟨rfl, hw⟩ := hcut
    obtain ⟨scr2, l2, hp2, hs2, hl2⟩ := hw.out
    clear hw
    obtain ⟨p, hpl⟩ : ∃ p, l2.length = p := ⟨_, rfl⟩
    rw [hpl] at hl2
    obtain ⟨ra, rc, k0, _⟩ := pair_both (p := p) hp2 hpl (by omega)
    obtain ⟨HC0, HL0⟩ := pair_both2 (p := p) (hp2.up (Upd.drew _ _)) hpl (by omega) k0
    have HPL := Lib.hid hpl
    have HS := Lib.hid hs2
    clear hpl hs2 hp2 HP
    go_wp2
    go_region_held3 (fun w' => w'.cell? ⟨rb, 2, none⟩ = some (.slice ra p rc)) (go_keep) (first | (go_at_call 16; refine HL0.out.mono ?_; rintro e w5 ⟨rfl, rfl⟩) | (go_at_call 10; refine HC0.out.mono ?_; rintro e w6 ⟨a6, c6, rfl, k6, hv6, hr6, hp6⟩) | (go_at_call 13; refine (ints_same _ _ _ _ _ l2 _ HPL.out (Hid.out (by assumption)) (Hid.out (by assumption)) (by omega)).mono ?_; rintro e w7 ⟨rfl, rfl⟩))
    all_goals
      go_wp2
      go_ret
      exact ⟨rfl, _, _, (Hid.out (p := Pair B w0 _ b rb scr2 l2 scr2 l2) (by assumption)), HS.out, by rw [HPL.out]; exact hl2⟩

theorem step_any {B : Nat} {w0 : World} {b rb : Nat} {scr l : List Int} (k x : Int) (w : World) (h : Pair B w0 w b rb scr l scr l) (hs : scr.length ≤ 1000) (hl : l.length ≤ 2000) :
    Calls Try.prog 14 #[.pointer (some ⟨b, 0, none⟩), .pointer (some ⟨rb, 0, none⟩), .agg #[.int .i64 k, .int .i64 x]] w fun e w' => e = .returned (.bool true) ∧ Hid (Went B w0 w' b rb scr.length l.length) := by
  by_cases h1 : k = 1
  · subst h1; exact step_push x w h hs hl
  by_cases h2 : k = 2
  · subst h2; exact step_next x w h hs hl
  by_cases h3 : k = 3
  · subst h3; exact step_yield x w h hs hl
  by_cases h4 : k = 4
  · subst h4; exact step_number x w h hs hl
  exact step_other k (by simpa using h1) (by simpa using h2) (by simpa using h3) (by simpa using h4) x w h hs hl

end Go.Proofs.Ytoffodgjpeeenaa

import Derived.Test.YtdflfcgdfbihfaaDoorC11
namespace Go.Proofs.YtdflfcgdfbihfaaDoor
open Go.RowKit CodeText

attribute [local go_sem ↓] Go.wp_at_zero Go.wp_at_succ

/-- The reader in its variable, and what else is kept: 'F', which lies in the blocks of 'S'. -/
structure K1 (E : Addr) (R I C : Nat) (w0 : World) (F : World → Prop) (S : Nat → Prop) (w : World) (s : St) : Prop where
  rc : RC E R I C w s
  up : Upd (RS R) w0 w
  f : F w
  st : ∀ (a b : World) (T : Nat → Prop), F a → Upd T a b → (∀ k, S k → k < a.heap.size → ¬ T k) → F b
  ne : ∀ k, S k → k ≠ R
  hi : ∀ k, S k → k < w.heap.size
  rL : R < w0.heap.size
  cL : C < w0.heap.size
  iL : I < w0.heap.size

structure K2 (E : Addr) (R I C : Nat) (w0 : World) (F : World → Prop) (S : Nat → Prop) (o2 : Obj) (B : Nat) (w : World) (s : St) : Prop where
  k : K1 E R I C w0 F S w s
  b2 : w.heap[B]? = some o2
  ge : w0.heap.size ≤ B
  nB : ∀ k, S k → k ≠ B

section
variable {E : Addr} {R I C B : Nat} {w0 w w' : World} {F : World → Prop} {S : Nat → Prop} {o2 : Obj} {s t : St}
theorem K1.none (h : K1 E R I C w0 F S w s) (hu : Upd (fun _ => False) w w') : K1 E R I C w0 F S w' s :=
  ⟨h.rc.none hu (fun _ h => h.elim), h.up.trans hu (fun _ _ h => h.elim), h.st _ _ _ h.f hu (fun _ _ _ h => h), h.st, h.ne, fun k hk => Nat.lt_of_lt_of_le (h.hi k hk) hu.size, h.rL, h.cL, h.iL⟩
theorem K1.drewR (h : K1 E R I C w0 F S w s) : K1 E R I C w0 F S w.drew s := h.none (Upd.drew _ w)
theorem K2.drewR (h : K2 E R I C w0 F S o2 B w s) : K2 E R I C w0 F S o2 B w.drew s := ⟨h.k.drewR, h.b2, h.ge, h.nB⟩
theorem K1.new (h : K1 E R I C w0 F S w s) (o2 : Obj) : K2 E R I C w0 F S o2 w.heap.size (w.alloc o2) s :=
  ⟨h.none (Upd.alloc _ w o2), heap_alloc_new w o2, h.up.size, fun k hk e => by have := h.hi k hk; omega⟩
theorem K1.step (h : K1 E R I C w0 F S w s) (hu : Upd (RS R) w w') (hr : Rd E R I w' t) : K1 E R I C w0 F S w' t :=
  ⟨h.rc.upd hu hr, h.up.trans hu (fun _ _ h => h), h.st _ _ _ h.f hu (fun k hk _ e => h.ne k hk e), h.st, h.ne, fun k hk => Nat.lt_of_lt_of_le (h.hi k hk) hu.size, h.rL, h.cL, h.iL⟩
theorem K2.lt (h : K2 E R I C w0 F S o2 B w s) : B < w.heap.size := (Array.getElem?_eq_some_iff.1 h.b2).1
theorem K2.step (h : K2 E R I C w0 F S o2 B w s) (hu : Upd (RS R) w w') (hr : Rd E R I w' t) : K2 E R I C w0 F S o2 B w' t :=
  ⟨h.k.step hu hr, by rw [hu.block _ h.lt (fun e => by have := h.k.rL; have := h.ge; unfold RS at e; omega)]; exact h.b2, h.ge, h.nB⟩
theorem K2.neC (h : K2 E R I C w0 F S o2 B w s) : ¬ B = C ∧ ¬ C = B := by have := h.k.cL; have := h.ge; omega
theorem K1.row {α : Type} {D : DT α} (hD : Stable D) {sz : Nat} {S1 : Nat → Prop} {v : Value} {x : List α} (h : K1 E R I C w0 F S w s) (hu : Upd (RS R) w w') (hr : Rd E R I w' t)
    (hv : RowV D sz w' S1 v x) (hS : ∀ k, S1 k → w.heap.size ≤ k ∧ k < w'.heap.size) : K1 E R I C w0 (fun u => F u ∧ (RowV D sz u S1 v x ∧ ∀ k, S1 k → w0.heap.size ≤ k)) (fun k => S k ∨ S1 k) w' t :=
  have h' := h.step hu hr
  ⟨h'.rc, h'.up, ⟨h'.f, hv, fun k hk => Nat.le_trans h.up.size (hS k hk).1⟩, fun a b T ha hab hT => ⟨h.st a b T ha.1 hab (fun k hk => hT k (.inl hk)), ha.2.1.upd hD hab (fun k hk => hT k (.inr hk)), ha.2.2⟩,
    fun k hk => hk.elim (h.ne k) (fun hk e => by have := hS k hk; have := h.rL; have := h.up.size; omega), fun k hk => hk.elim (h'.hi k) (fun hk => (hS k hk).2), h.rL, h.cL, h.iL⟩
theorem K2.row {α : Type} {D : DT α} (hD : Stable D) {sz : Nat} {S1 : Nat → Prop} {v : Value} {x : List α} (h : K2 E R I C w0 F S o2 B w s) (hu : Upd (RS R) w w') (hr : Rd E R I w' t)
    (hv : RowV D sz w' S1 v x) (hS : ∀ k, S1 k → w.heap.size ≤ k ∧ k < w'.heap.size) : K2 E R I C w0 (fun u => F u ∧ (RowV D sz u S1 v x ∧ ∀ k, S1 k → w0.heap.size ≤ k)) (fun k => S k ∨ S1 k) o2 B w' t :=
  ⟨h.k.row hD hu hr hv hS, (h.step hu hr).b2, h.ge, fun k hk => hk.elim (h.nB k) (fun hk e => by have := hS k hk; have := h.lt; omega)⟩
theorem K2.write (h : K2 E R I C w0 F S o2 B w s) {o3 : Obj} (hb : w'.heap[B]? = some o3) (hu : Upd (fun k => k = B) w w') : K2 E R I C w0 F S o3 B w' s :=
  have hg := h.ge
  have h0 : 0 < w0.heap.size := Nat.lt_of_le_of_lt (Nat.zero_le _) h.k.rL
  ⟨⟨⟨h.k.rc.rd.upd hu (fun e => by have := h.k.rL; omega) (fun e => by have := h.k.iL; omega) (fun e => by omega), hu.cell h.k.rc.cc (fun e => h.neC.2 e), h.k.rc.ne⟩,
    h.k.up.trans hu (fun k hk e => by omega), h.k.st _ _ _ h.k.f hu (fun k hk _ e => h.nB k hk e), h.k.st, h.k.ne, fun k hk => Nat.lt_of_lt_of_le (h.k.hi k hk) hu.size, h.k.rL, h.k.cL, h.k.iL⟩, hb, hg, h.nB⟩
theorem K2.write5 {a b c d e : Value} {ty : TypeId} (h : K2 E R I C w0 F S (.cells #[a, b, c, d, e] ty (0, 0)) B w s) (a' b' c' d' e' : Value) :
    K2 E R I C w0 F S (.cells #[a', b', c', d', e'] ty (0, 0)) B (((((w.setCell ⟨B, 0, .none⟩ a').setCell ⟨B, 1, .none⟩ b').setCell ⟨B, 2, .none⟩ c').setCell ⟨B, 3, .none⟩ d').setCell ⟨B, 4, .none⟩ e') s :=
  h.write (by simp [World.setCell, Array.getElem?_modify, h.b2]) (((((Upd.setCell (S := fun k => k = B) w ⟨B, 0, .none⟩ a' rfl).set ⟨B, 1, .none⟩ b' rfl).set ⟨B, 2, .none⟩ c' rfl).set ⟨B, 3, .none⟩ d' rfl).set ⟨B, 4, .none⟩ e' rfl)
end

theorem five {w : World} {B : Nat} {a b c d e : Value} {ty : TypeId} (h : w.heap[B]? = some (.cells #[a, b, c, d, e] ty (0, 0))) :
    w.cell? ⟨B, 0, .none⟩ = some a ∧ w.cell? ⟨B, 1, .none⟩ = some b ∧ w.cell? ⟨B, 2, .none⟩ = some c ∧ w.cell? ⟨B, 3, .none⟩ = some d ∧ w.cell? ⟨B, 4, .none⟩ = some e ∧
    w.frozen? ⟨B, 0, .none⟩ = false ∧ w.frozen? ⟨B, 1, .none⟩ = false ∧ w.frozen? ⟨B, 2, .none⟩ = false ∧ w.frozen? ⟨B, 3, .none⟩ = false ∧ w.frozen? ⟨B, 4, .none⟩ = false := by
  simp [World.cell?, World.frozen?, h]

abbrev Z29 : Obj := .cells #[.slice none 0 0, .slice none 0 0, .slice none 0 0, .slice none 0 0, .int .i64 0] 29 (0, 0)
theorem size29 : (Tryd.prog.info? 29).map (·.size) = some 5 := by kernel_rfl

theorem ktext_k1 (E : Addr) (R I C : Nat) (w0 : World) (F : World → Prop) (S : Nat → Prop) (s : St) (w : World) (h : K1 E R I C w0 F S w s) :
    Calls Tryd.prog 9 #[.pointer (some ⟨R, 0, none⟩), .func (.func 10) #[.pointer (some ⟨R, 0, none⟩)] #[]] w fun e w' => ∃ la lc S1, e = .returned (.slice la (rsome rtext s).1.length lc) ∧ K1 E R I C w0 (fun u => F u ∧ (RowV DStr 1 u S1 (.slice la (rsome rtext s).1.length lc) (rsome rtext s).1 ∧ ∀ k, S1 k → w0.heap.size ≤ k)) (fun k => S k ∨ S1 k) w' (rsome rtext s).2 :=
  (some_text_sl E R I s w h.rc.rd).mono (by rintro e w' ⟨la, lc, S1, rfl, h1, h2, h3, h4⟩; exact ⟨la, lc, S1, rfl, h.row stStr h3 h4 h1 h2⟩)

theorem ktext_k2 (E : Addr) (R I C : Nat) (w0 : World) (F : World → Prop) (S : Nat → Prop) (o2 : Obj) (B : Nat) (s : St) (w : World) (h : K2 E R I C w0 F S o2 B w s) :
    Calls Tryd.prog 9 #[.pointer (some ⟨R, 0, none⟩), .func (.func 10) #[.pointer (some ⟨R, 0, none⟩)] #[]] w fun e w' => ∃ la lc S1, e = .returned (.slice la (rsome rtext s).1.length lc) ∧ K2 E R I C w0 (fun u => F u ∧ (RowV DStr 1 u S1 (.slice la (rsome rtext s).1.length lc) (rsome rtext s).1 ∧ ∀ k, S1 k → w0.heap.size ≤ k)) (fun k => S k ∨ S1 k) o2 B w' (rsome rtext s).2 :=
  (some_text_sl E R I s w h.k.rc.rd).mono (by rintro e w' ⟨la, lc, S1, rfl, h1, h2, h3, h4⟩; exact ⟨la, lc, S1, rfl, h.row stStr h3 h4 h1 h2⟩)

theorem kflag_k1 (E : Addr) (R I C : Nat) (w0 : World) (F : World → Prop) (S : Nat → Prop) (s : St) (w : World) (h : K1 E R I C w0 F S w s) :
    Calls Tryd.prog 11 #[.pointer (some ⟨R, 0, none⟩), .func (.func 12) #[.pointer (some ⟨R, 0, none⟩)] #[]] w fun e w' => ∃ la lc S1, e = .returned (.slice la (rsome rflag s).1.length lc) ∧ K1 E R I C w0 (fun u => F u ∧ (RowV DBool 1 u S1 (.slice la (rsome rflag s).1.length lc) (rsome rflag s).1 ∧ ∀ k, S1 k → w0.heap.size ≤ k)) (fun k => S k ∨ S1 k) w' (rsome rflag s).2 :=
  (some_flag_sl E R I s w h.rc.rd).mono (by rintro e w' ⟨la, lc, S1, rfl, h1, h2, h3, h4⟩; exact ⟨la, lc, S1, rfl, h.row stBool h3 h4 h1 h2⟩)

theorem kflag_k2 (E : Addr) (R I C : Nat) (w0 : World) (F : World → Prop) (S : Nat → Prop) (o2 : Obj) (B : Nat) (s : St) (w : World) (h : K2 E R I C w0 F S o2 B w s) :
    Calls Tryd.prog 11 #[.pointer (some ⟨R, 0, none⟩), .func (.func 12) #[.pointer (some ⟨R, 0, none⟩)] #[]] w fun e w' => ∃ la lc S1, e = .returned (.slice la (rsome rflag s).1.length lc) ∧ K2 E R I C w0 (fun u => F u ∧ (RowV DBool 1 u S1 (.slice la (rsome rflag s).1.length lc) (rsome rflag s).1 ∧ ∀ k, S1 k → w0.heap.size ≤ k)) (fun k => S k ∨ S1 k) o2 B w' (rsome rflag s).2 :=
  (some_flag_sl E R I s w h.k.rc.rd).mono (by rintro e w' ⟨la, lc, S1, rfl, h1, h2, h3, h4⟩; exact ⟨la, lc, S1, rfl, h.row stBool h3 h4 h1 h2⟩)

theorem kflags_k1 (E : Addr) (R I C : Nat) (w0 : World) (F : World → Prop) (S : Nat → Prop) (s : St) (w : World) (h : K1 E R I C w0 F S w s) :
    Calls Tryd.prog 13 #[.pointer (some ⟨R, 0, none⟩), .func (.func 14) #[] #[.pointer (some ⟨C, 0, none⟩)]] w fun e w' => ∃ la lc S1, e = .returned (.slice la (rsome (rsome rflag) s).1.length lc) ∧ K1 E R I C w0 (fun u => F u ∧ (RowV DFlags 1 u S1 (.slice la (rsome (rsome rflag) s).1.length lc) (rsome (rsome rflag) s).1 ∧ ∀ k, S1 k → w0.heap.size ≤ k)) (fun k => S k ∨ S1 k) w' (rsome (rsome rflag) s).2 :=
  (some_flags_sl E R I s w h.rc.rd C h.rc.cc h.rc.ne).mono (by rintro e w' ⟨la, lc, S1, rfl, h1, h2, h3, h4⟩; exact ⟨la, lc, S1, rfl, h.row stFlags h3 h4 h1 h2⟩)

theorem kflags_k2 (E : Addr) (R I C : Nat) (w0 : World) (F : World → Prop) (S : Nat → Prop) (o2 : Obj) (B : Nat) (s : St) (w : World) (h : K2 E R I C w0 F S o2 B w s) :
    Calls Tryd.prog 13 #[.pointer (some ⟨R, 0, none⟩), .func (.func 14) #[] #[.pointer (some ⟨C, 0, none⟩)]] w fun e w' => ∃ la lc S1, e = .returned (.slice la (rsome (rsome rflag) s).1.length lc) ∧ K2 E R I C w0 (fun u => F u ∧ (RowV DFlags 1 u S1 (.slice la (rsome (rsome rflag) s).1.length lc) (rsome (rsome rflag) s).1 ∧ ∀ k, S1 k → w0.heap.size ≤ k)) (fun k => S k ∨ S1 k) o2 B w' (rsome (rsome rflag) s).2 :=
  (some_flags_sl E R I s w h.k.rc.rd C h.k.rc.cc h.k.rc.ne).mono (by rintro e w' ⟨la, lc, S1, rfl, h1, h2, h3, h4⟩; exact ⟨la, lc, S1, rfl, h.row stFlags h3 h4 h1 h2⟩)

theorem kfn_k1 (E : Addr) (R I C : Nat) (w0 : World) (F : World → Prop) (S : Nat → Prop) (s : St) (w : World) (h : K1 E R I C w0 F S w s) :
    Calls Tryd.prog 15 #[.pointer (some ⟨R, 0, none⟩), .func (.func 16) #[] #[.pointer (some ⟨C, 0, none⟩)]] w fun e w' => ∃ la lc S1, e = .returned (.slice la (rsome rfn s).1.length lc) ∧ K1 E R I C w0 (fun u => F u ∧ (RowV DFn 6 u S1 (.slice la (rsome rfn s).1.length lc) (rsome rfn s).1 ∧ ∀ k, S1 k → w0.heap.size ≤ k)) (fun k => S k ∨ S1 k) w' (rsome rfn s).2 :=
  (some_fn_sl E R I s w h.rc.rd C h.rc.cc h.rc.ne).mono (by rintro e w' ⟨la, lc, S1, rfl, h1, h2, h3, h4⟩; exact ⟨la, lc, S1, rfl, h.row stFn h3 h4 h1 h2⟩)

theorem kfn_k2 (E : Addr) (R I C : Nat) (w0 : World) (F : World → Prop) (S : Nat → Prop) (o2 : Obj) (B : Nat) (s : St) (w : World) (h : K2 E R I C w0 F S o2 B w s) :
    Calls Tryd.prog 15 #[.pointer (some ⟨R, 0, none⟩), .func (.func 16) #[] #[.pointer (some ⟨C, 0, none⟩)]] w fun e w' => ∃ la lc S1, e = .returned (.slice la (rsome rfn s).1.length lc) ∧ K2 E R I C w0 (fun u => F u ∧ (RowV DFn 6 u S1 (.slice la (rsome rfn s).1.length lc) (rsome rfn s).1 ∧ ∀ k, S1 k → w0.heap.size ≤ k)) (fun k => S k ∨ S1 k) o2 B w' (rsome rfn s).2 :=
  (some_fn_sl E R I s w h.k.rc.rd C h.k.rc.cc h.k.rc.ne).mono (by rintro e w' ⟨la, lc, S1, rfl, h1, h2, h3, h4⟩; exact ⟨la, lc, S1, rfl, h.row stFn h3 h4 h1 h2⟩)

theorem knum_k2 (E : Addr) (R I C : Nat) (w0 : World) (F : World → Prop) (S : Nat → Prop) (o2 : Obj) (B : Nat) (s : St) (w : World) (h : K2 E R I C w0 F S o2 B w s) :
    Calls Tryd.prog 17 #[.pointer (some ⟨R, 0, none⟩)] w fun e w' => e = .returned (.int .i64 (rnum s).1) ∧ K2 E R I C w0 F S o2 B w' (rnum s).2 :=
  (num_any E R I s w h.k.rc.rd).mono (by rintro e w' ⟨h1, h2, h3⟩; exact ⟨h1, h.step h2 h3⟩)

end Go.Proofs.YtdflfcgdfbihfaaDoor

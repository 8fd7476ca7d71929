/- A part of the proof of TypesWrittenSaid. No condition. -/
import Derived.Test.YtoaodlfmhioigaaM17
import Derived.Test.YtoaodlfmhioigaaM18
import Derived.Test.YtoaodlfmhioigaaM19
import Derived.Test.YtoaodlfmhioigaaM20
import Derived.Test.YtoaodlfmhioigaaM16
import Derived.Test.YtoaodlfmhioigaaM21
import Derived.Test.YtoaodlfmhioigaaM22
import Derived.Test.YtoaodlfmhioigaaM23
import Derived.Test.YtoaodlfmhioigaaM24
import Derived.Test.YtoaodlfmhioigaaM25
import Derived.Test.YtoaodlfmhioigaaM26
import Derived.Test.YtoaodlfmhioigaaM27
set_option linter.unusedSimpArgs false
set_option linter.unusedVariables false
section
namespace Go.Proofs.Ytoaodlfmhioigaa

/-- What is known of the functions at the states of this measure and below. -/
structure All (toks : List Tok) (n : Nat) : Prop where
  unary : ∀ s : PS, s.at_ < toks.length → meas toks s ≤ n → NodeAt toks 72 s
  expr : ∀ s : PS, s.at_ < toks.length → meas toks s ≤ n → NodeAt toks 69 s
  exprs : ∀ (s : PS) (e : Bytes), s.at_ < toks.length → meas toks s ≤ n → Tri Try.prog 79 [.ref 0 0 0, S e] [PO toks s] (ListR toks s)
  index : ∀ (s : PS) (a : Int) (t : Tr), s.at_ < toks.length → meas toks s ≤ n → Tri Try.prog 80 [.ref 0 0 0, I a, t.av] [PO toks s] (FwdR toks s)
  inHead : ∀ s : PS, s.at_ < toks.length → meas toks s ≤ n → NodeAt toks 67 s
  worded : ∀ (s : PS) (t : Tok), s.at_ < toks.length → meas toks s ≤ n → Tri Try.prog 64 [.ref 0 0 0, .agg t.cells] [PO toks s] (FwdR toks s)
  block : ∀ s : PS, s.at_ < toks.length → meas toks s ≤ n → NodeAt toks 50 s
  clause : ∀ (s : PS) (b : Bool), s.at_ < toks.length → meas toks s ≤ n → Tri Try.prog 68 [.ref 0 0 0, B b] [PO toks s] (NodeR toks s)
  loop : ∀ (s : PS) (a : Int), s.at_ < toks.length → meas toks s ≤ n → Tri Try.prog 66 [.ref 0 0 0, I a] [PO toks s] (FwdR toks s)
  branch : ∀ s : PS, s.at_ < toks.length → meas toks s ≤ n → NodeAt toks 63 s
  stmts : ∀ s : PS, s.at_ < toks.length → meas toks s ≤ n → Tri Try.prog 56 [.ref 0 0 0] [PO toks s] (ListR toks s)
  function : ∀ s : PS, s.at_ < toks.length → meas toks s ≤ n → Tri Try.prog 32 [.ref 0 0 0] [PO toks s] (KidsR toks s)
  special : ∀ (s : PS) (t : Tok), meas toks s ≤ n → (t.kind ≠ 6 → s.at_ < toks.length) → Tri Try.prog 81 [.ref 0 0 0, .agg t.cells] [PO toks s] (SpecR toks s)

theorem stmts_bad {toks : List Tok} (hk : TK toks) (s : PS) (h : s.at_ < toks.length) (hb : ¬ s.bad < 0) : Tri Try.prog 56 [.ref 0 0 0] [PO toks s] (ListR toks s) :=
  t_stmts_step hk (n := 0) (fun s' h' hb' hm => by unfold meas at hm; rw [if_pos hb'] at hm; omega) s h (by unfold meas; rw [if_neg hb]; exact Nat.le_refl _)

theorem all_of {toks : List Tok} (hk : TK toks) : ∀ n, All toks n := by
  intro n
  induction n using Nat.strongRecOn with
  | _ n ih =>
    have lt {P : PS → Prop} (f : ∀ m, All toks m → ∀ s : PS, s.at_ < toks.length → meas toks s ≤ m → P s) : ∀ s : PS, s.at_ < toks.length → meas toks s < n → P s := fun s h hm => f _ (ih _ hm) s h (Nat.le_refl _)
    have operand : ∀ s : PS, s.at_ < toks.length → meas toks s ≤ n → NodeAt toks 78 s := fun s h hm => t_operand_step hk (fun s' t hm' h6 _ => (ih _ hm').special s' t (Nat.le_refl _) h6) s h hm
    have primary : ∀ s : PS, s.at_ < toks.length → meas toks s ≤ n → NodeAt toks 70 s := fun s h hm => t_primary_step hk operand (fun s' e h' hm' => (ih _ hm').exprs s' e h' (Nat.le_refl _)) (fun s' a t h' hm' => (ih _ hm').index s' a t h' (Nat.le_refl _)) s h hm
    have unary : ∀ s : PS, s.at_ < toks.length → meas toks s ≤ n → NodeAt toks 72 s := fun s h hm => t_unary_step hk (lt fun m a => a.unary) primary s h hm
    have expr : ∀ s : PS, s.at_ < toks.length → meas toks s ≤ n → NodeAt toks 69 s := fun s h hm => t_expr_step hk unary s h hm
    have exprs : ∀ (s : PS) (e : Bytes), s.at_ < toks.length → meas toks s ≤ n → Tri Try.prog 79 [.ref 0 0 0, S e] [PO toks s] (ListR toks s) := fun s e h hm => t_exprs_step hk expr s e h hm
    have inHead : ∀ s : PS, s.at_ < toks.length → meas toks s ≤ n → NodeAt toks 67 s := fun s h hm => t_inHead_step expr s h hm
    have rest : ∀ (s : PS) (t : Tr) (b : Bool), s.at_ < toks.length → meas toks s ≤ n → Tri Try.prog 73 [.ref 0 0 0, t.av, B b] [PO toks s] (FwdR toks s) := fun s t b h hm => t_rest_step hk expr s t b h hm
    have simple : ∀ s : PS, s.at_ < toks.length → meas toks s ≤ n → NodeAt toks 65 s := fun s h hm => t_simple_step hk unary primary rest s h hm
    have hst : ∀ s' : PS, s'.at_ < toks.length → (meas toks s' < n ∨ ¬ s'.bad < 0) → Tri Try.prog 56 [.ref 0 0 0] [PO toks s'] (ListR toks s') := fun s' h' hc => by
      rcases hc with hc | hc
      · exact (ih _ hc).stmts s' h' (Nat.le_refl _)
      · exact stmts_bad hk s' h' hc
    have block : ∀ s : PS, s.at_ < toks.length → meas toks s ≤ n → NodeAt toks 50 s := fun s h hm => t_block_step hk hst s h hm
    have behind : ∀ s : PS, s.at_ < toks.length → meas toks s ≤ n → NodeAt toks 75 s := fun s h hm => t_behind_step hk hst s h hm
    have comm : ∀ (s : PS) (a : Int), s.at_ < toks.length → meas toks s ≤ n → Tri Try.prog 76 [.ref 0 0 0, I a] [PO toks s] (FwdR toks s) := fun s a h hm => t_comm_step hk expr unary primary behind s a h hm
    have clause : ∀ (s : PS) (b : Bool), s.at_ < toks.length → meas toks s ≤ n → Tri Try.prog 68 [.ref 0 0 0, B b] [PO toks s] (NodeR toks s) := fun s b h hm => t_clause_step hk expr behind comm s b h hm
    have loop : ∀ (s : PS) (a : Int), s.at_ < toks.length → meas toks s ≤ n → Tri Try.prog 66 [.ref 0 0 0, I a] [PO toks s] (FwdR toks s) := fun s a h hm => t_loop_step hk expr block simple (fun s' h' hm' => t_begin_step hk expr rest s' h' hm') s a h hm
    have branch : ∀ s : PS, s.at_ < toks.length → meas toks s ≤ n → NodeAt toks 63 s := fun s h hm => t_branch_step hk (lt fun m a => a.branch) inHead block s h hm
    have nested : ∀ s : PS, s.at_ < toks.length → s.bad < 0 → s.at_ + 1 < toks.length → meas toks s ≤ n → NodeAt toks 61 s := fun s h hb h6 hm => t_nested_step hk (fun s' a h' hm' => (ih _ hm').loop s' a h' (Nat.le_refl _)) (lt fun m a => a.inHead) (fun s' b h' hm' => (ih _ hm').clause s' b h' (Nat.le_refl _)) s h hb h6 hm
    have stmt : ∀ s : PS, s.at_ < toks.length → s.bad < 0 → meas toks s ≤ n → NodeAt toks 60 s := fun s h hb hm => t_stmt_step hk block nested branch simple (fun s' t h' hm' => (ih _ hm').worded s' t h' (Nat.le_refl _)) s h hb hm
    have stmts : ∀ s : PS, s.at_ < toks.length → meas toks s ≤ n → Tri Try.prog 56 [.ref 0 0 0] [PO toks s] (ListR toks s) := fun s h hm => t_stmts_step hk stmt s h hm
    have function : ∀ s : PS, s.at_ < toks.length → meas toks s ≤ n → Tri Try.prog 32 [.ref 0 0 0] [PO toks s] (KidsR toks s) := fun s h hm => t_function_step hk block s h hm
    exact {
      unary := unary, expr := expr, exprs := exprs, inHead := inHead, block := block, clause := clause, loop := loop, branch := branch, stmts := stmts, function := function
      index := fun s a t h hm => t_index_step hk expr s a t h hm
      worded := fun s t h hm => t_worded_step hk expr primary s t h hm
      special := fun s t hm h6 => t_special_step hk expr exprs function (fun s' t' h' hm' => t_literal_step hk expr s' t' h' hm') (fun s' t' h' hm' => t_maker_step hk expr s' t' h' hm') s t h6 hm }

/-- The function that reads a function: at all states. -/
theorem t_function {toks : List Tok} (hk : TK toks) (s : PS) (h : s.at_ < toks.length) : Tri Try.prog 32 [.ref 0 0 0] [PO toks s] (KidsR toks s) := (all_of hk _).function s h (Nat.le_refl _)
end Go.Proofs.Ytoaodlfmhioigaa
end

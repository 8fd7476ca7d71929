import Derived.Test.YtdbbalcicgllhaaGreatDoorA19
namespace Go.Proofs.YtdbbalcicgllhaaGreatDoor
open Go.RowKit

/-- Texts of things and their places, one behind the other. -/
def idxTxt {α : Type} (f : Nat → α → Bytes) : Nat → List α → Bytes
  | _, [] => []
  | i, x :: l => f i x ++ idxTxt f (i + 1) l
theorem idxTxt_step {α : Type} (f : Nat → α → Bytes) : ∀ (l : List α) (i j : Nat) (y : α), l[j]? = some y → idxTxt f i (l.take (j + 1)) = idxTxt f i (l.take j) ++ f (i + j) y
  | [], i, j, y, h => by simp at h
  | x :: l, i, 0, y, h => by
    have h : x = y := by simpa using h
    subst h
    simp [idxTxt]
  | x :: l, i, j + 1, y, h => by
    have h : l[j]? = some y := by simpa using h
    rw [List.take_succ_cons, List.take_succ_cons]
    simp only [idxTxt]
    rw [idxTxt_step f l (i + 1) j y h, show i + 1 + j = i + (j + 1) by omega, List.append_assoc]
theorem idxTxt_le {α : Type} (f : Nat → α → Bytes) : ∀ (l : List α) (i j : Nat), (idxTxt f i (l.take j)).length ≤ (idxTxt f i l).length
  | [], i, j => by simp
  | x :: l, i, 0 => by simp [idxTxt]
  | x :: l, i, j + 1 => by
    rw [List.take_succ_cons]
    simp only [idxTxt, List.length_append]
    have := idxTxt_le f l (i + 1) j
    omega

def textF (k : Nat) (t : Bytes) : Bytes := ptxt [.s [116, 101, 120, 116, 32], .n k, .s [32], .s (quoteB t), .s [10]]
def flagTxt (r : Bool) : Bytes := if r then [114] else [110]
def insF (k : Nat) (x : Ins) : Bytes := insTxt k x
def headF (k : Nat) (f : Fnc) : Bytes := ptxt [.s [102, 117, 110, 99, 32], .n (k + 1), .s [32], .s (if f.name = [] then [45] else f.name), .s [32, 112, 97, 114, 97, 109, 115, 32], .n f.params, .s [32, 99, 97, 112, 116, 117, 114, 101, 115, 32], .n f.captures, .s [32, 114, 101, 103, 105, 115, 116, 101, 114, 115, 32]]
def fnF (k : Nat) (f : Fnc) : Bytes := headF k f ++ idxTxt (fun _ => flagTxt) 0 f.refs ++ (if f.result then [32, 114, 101, 115, 117, 108, 116] else []) ++ [10] ++ idxTxt insF 0 f.code
def progTxt (p : Pg) : Bytes := idxTxt textF 0 p.texts ++ idxTxt fnF 0 p.funcs ++ ptxt [.s [109, 97, 105, 110, 32], .n p.main, .s [10]]

structure Fnc.ok (f : Fnc) : Prop where
  params : -9223372036854775808 ≤ f.params ∧ f.params ≤ 9223372036854775807
  captures : -9223372036854775808 ≤ f.captures ∧ f.captures ≤ 9223372036854775807
  code : ∀ x ∈ f.code, x.ok ∧ x.list.length ≤ 100000000
  nrefs : f.refs.length ≤ 100000000
  ncode : f.code.length ≤ 100000000
structure Pg.ok (p : Pg) : Prop where
  main : -9223372036854775808 ≤ p.main ∧ p.main ≤ 9223372036854775807
  funcs : ∀ f ∈ p.funcs, f.ok
  texts : ∀ t ∈ p.texts, t.length ≤ 100000000
  ntexts : p.texts.length ≤ 100000000
  nfuncs : p.funcs.length ≤ 100000000
end Go.Proofs.YtdbbalcicgllhaaGreatDoor

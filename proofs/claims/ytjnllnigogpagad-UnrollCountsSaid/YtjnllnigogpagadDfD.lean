/- From a run of the F machine to a call of the program. Conditions: the functions are the program's, compiled; the facts that the run takes hold. -/
import Derived.Test.YtjnllnigogpagadDfC
namespace Go.Df
open Go.Dv Go.RowKit

/-- The compiled functions, by their numbers. -/
inductive FTree where
  | leaf (k : Nat) (d : DFunc)
  | node (m : Nat) (l r : FTree)

def FTree.get : FTree → Nat → Option DFunc
  | .leaf k d, f => bif Nat.beq f k then some d else none
  | .node m l r, f => bif Nat.blt f m then l.get f else r.get f

def FTree.Ok (P : Program) : FTree → Prop
  | .leaf k d => ∃ pure', compFn P pure' k = some d
  | .node _ l r => l.Ok P ∧ r.Ok P

theorem FTree.ok {P : Program} : ∀ (t : FTree), t.Ok P → FsOk P t.get
  | .leaf k d, h, f, d', e => by
    simp only [FTree.get] at e
    cases hb : Nat.beq f k with
    | true =>
      rw [hb] at e
      simp only [cond_true, Option.some.injEq] at e
      rw [← e, Nat.eq_of_beq_eq_true hb]
      exact h
    | false => rw [hb] at e; cases e
  | .node m l r, h, f, d', e => by
    simp only [FTree.get] at e
    cases hb : Nat.blt f m with
    | true => rw [hb] at e; exact FTree.ok l h.1 f d' e
    | false => rw [hb] at e; exact FTree.ok r h.2 f d' e

theorem law_tb {P : Program} (hm : P.follows .mixedOrders = true) {t : FTree} (ht : t.Ok P) {fc : Facts} {ρ : Ev} (hf : FactsOk ρ fc) {tb : Tbl} {k : Nat} (htb : ∀ j, TbOk ρ tb (run t.get (j + k))) {n f : Nat} {args : List FV}
    (e : isTrueF (runF fc tb t.get n (.fn f) args .nil 0) = true) {w : World} {xs : Array Value} (hx : CRel (fun _ => none) (fun _ => False) w (args.map (FV.den ρ)) xs.toList) :
    Calls P f xs w fun e w' => e = .returned (.bool true) ∧ Grown w w' :=
  calls_true hm (FTree.ok t ht) (isTrueF_ok hf htb e) (fun _ h => h.elim) hx

theorem law_tb2 {P : Program} (hm : P.follows .mixedOrders = true) {t : FTree} (ht : t.Ok P) {fc : Facts} {ρ : Ev} (hf : FactsOk ρ fc) {tb : Tbl} {k : Nat} (htb : ∀ j, TbOk ρ tb (run t.get (j + k))) {n f : Nat} {args : List FV}
    (e : isTrueF (runF fc tb t.get n (.fn f) args .nil 0) = true) {w : World} {J : Nat → Prop} (hJ : ∀ b, J b → b < w.heap.size) {xs : Array Value} (hx : CRel (fun _ => none) J w (args.map (FV.den ρ)) xs.toList) :
    Calls P f xs w fun e w' => e = .returned (.bool true) ∧ Grown w w' ∧ Below w.heap.size w w' :=
  calls_true2 hm (FTree.ok t ht) (isTrueF_ok hf htb e) hJ hx

theorem law_true {P : Program} (hm : P.follows .mixedOrders = true) {t : FTree} (ht : t.Ok P) {fc : Facts} {ρ : Ev} (hf : FactsOk ρ fc) {n f : Nat} {args : List FV}
    (e : isTrueF (runF fc [] t.get n (.fn f) args .nil 0) = true) {w : World} {xs : Array Value} (hx : CRel (fun _ => none) (fun _ => False) w (args.map (FV.den ρ)) xs.toList) :
    Calls P f xs w fun e w' => e = .returned (.bool true) ∧ Grown w w' :=
  law_tb (k := 0) hm ht hf (fun _ => .nil) e hx

theorem facts_nil {ρ : Ev} : FactsOk ρ [] := fun _ h => absurd h (by simp)

theorem facts_cons {ρ : Ev} {fc : Facts} {op : BinOp} {a b : E} {r : Bool} (h : intOp op .i64 (a.den ρ) (b.den ρ) = some (.bool r)) (hf : FactsOk ρ fc) : FactsOk ρ ((op, a, b, r) :: fc) := by
  intro p hp
  rcases List.mem_cons.1 hp with rfl | hp
  · exact h
  · exact hf p hp

end Go.Df

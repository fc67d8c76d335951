/- From a run of the D machine to a call of the program, and what such a call leaves behind. No condition. -/
import Derived.Test.YtjnllnigogpagadDvT
import Derived.RowKit3
import Derived.Below
namespace Go.Dv
open Go.RowKit

theorem Rel.grown {P : Program} {w w' : World} {J : Nat → Prop} {β : Nat → Option BI} {I : Nat → Prop} {h : Heap} (R : Rel P w J β I h w') : Grown w w' := by
  refine ⟨⟨R.os, R.output, fun i hi => ?_⟩, R.cold, R.size⟩
  rw [R.old i hi]
  cases w.heap[i]? with
  | none => rfl
  | some o =>
    cases o with
    | cells c t fr => exact ⟨rfl, rfl, rfl, fun _ _ => rfl⟩
    | map es clock => exact .inr ⟨rfl, rfl⟩
    | _ => rfl

theorem Rel.below {P : Program} {w w' : World} {J : Nat → Prop} {β : Nat → Option BI} {I : Nat → Prop} {h : Heap} (R : Rel P w J β I h w') : Below w.heap.size w w' :=
  ⟨R.os, R.tape, R.output, R.size, R.old⟩

theorem calls_of_run {P : Program} (hm : P.follows .mixedOrders = true) {fs : Funcs} (hfs : FsOk P fs) {n f : Nat} {args : List V} {v : V} {h : Heap} {nx : Nat} (hr : run fs n (.fn f) args Heap.none 0 = some (v, h, nx))
    {w : World} {J : Nat → Prop} (hJ : ∀ b, J b → b < w.heap.size) {xs : Array Value} (hx : CRel (fun _ => none) J w args xs.toList) :
    Calls P f xs w fun e w' => ∃ x β I, e = .returned x ∧ VRel β I w' v x ∧ Rel P w J β I h w' := by
  refine (((run_sound hm hfs n).fn _ _ _ _ _ _ _ hr).2 w J (fun _ => none) J w xs (Rel.start hJ) (fun _ _ => rfl) hx).mono ?_
  rintro e w' ⟨x, β, I, he, _, R, _, _, _, hv⟩
  exact ⟨x, β, I, he, hv, R⟩

/-- Does a run come to 'true'? -/
def isTrue : Option (V × Heap × Nat) → Bool
  | some (.d (.bool b), _, _) => b
  | _ => false

theorem calls_true2 {P : Program} (hm : P.follows .mixedOrders = true) {fs : Funcs} (hfs : FsOk P fs) {n f : Nat} {args : List V} (hr : isTrue (run fs n (.fn f) args Heap.none 0) = true)
    {w : World} {J : Nat → Prop} (hJ : ∀ b, J b → b < w.heap.size) {xs : Array Value} (hx : CRel (fun _ => none) J w args xs.toList) :
    Calls P f xs w fun e w' => e = .returned (.bool true) ∧ Grown w w' ∧ Below w.heap.size w w' := by
  unfold isTrue at hr
  split at hr
  · rename_i b h nx hrun
    subst hr
    refine (calls_of_run hm hfs hrun hJ hx).mono ?_
    rintro e w' ⟨x, β, I, rfl, hv, R⟩
    cases hv with
    | d _ _ ht => cases ht; exact ⟨rfl, R.grown, R.below⟩
  · cases hr

theorem calls_true {P : Program} (hm : P.follows .mixedOrders = true) {fs : Funcs} (hfs : FsOk P fs) {n f : Nat} {args : List V} (hr : isTrue (run fs n (.fn f) args Heap.none 0) = true)
    {w : World} {J : Nat → Prop} (hJ : ∀ b, J b → b < w.heap.size) {xs : Array Value} (hx : CRel (fun _ => none) J w args xs.toList) :
    Calls P f xs w fun e w' => e = .returned (.bool true) ∧ Grown w w' :=
  (calls_true2 hm hfs hr hJ hx).mono fun _ _ h => ⟨h.1, h.2.1⟩

/-- Arguments that are numbers and truths. -/
theorem args_nil {w : World} : CRel (fun _ => none) (fun _ => False) w [] [] := ⟨rfl, fun i hi => absurd hi (by simp)⟩

theorem args_int {w : World} {k : IntKind} {a : Int} {vs : List V} {xs : List Value} (h : CRel (fun _ => none) (fun _ => False) w vs xs) : CRel (fun _ => none) (fun _ => False) w (.d (.int k a) :: vs) (.int k a :: xs) :=
  .cons (.d _ _ (.int k a)) h

theorem args_bool {w : World} {a : Bool} {vs : List V} {xs : List Value} (h : CRel (fun _ => none) (fun _ => False) w vs xs) : CRel (fun _ => none) (fun _ => False) w (.d (.bool a) :: vs) (.bool a :: xs) :=
  .cons (.d _ _ (.bool a)) h

end Go.Dv

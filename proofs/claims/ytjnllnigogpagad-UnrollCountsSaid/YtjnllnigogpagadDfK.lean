/- The F machine once more, written with the recursors themselves, so that the kernel runs it fast; it is the same function. No condition. -/
import Derived.Test.YtjnllnigogpagadDfD
namespace Go.Df
open Go.Dv

noncomputable section

/-! ### Lists -/
section
variable {α β : Type}

def kmap (f : α → β) (l : List α) : List β := List.rec (motive := fun _ => List β) [] (fun x _ ih => f x :: ih) l

theorem kmap_eq (f : α → β) : ∀ l, kmap f l = l.map f
  | [] => rfl
  | x :: l => by show f x :: kmap f l = _; rw [kmap_eq f l]; rfl

def kget (l : List α) : Nat → Option α :=
  List.rec (motive := fun _ => Nat → Option α) (fun _ => none) (fun x _ ih k => Nat.rec (motive := fun _ => Option α) (some x) (fun j _ => ih j) k) l

theorem kget_eq : ∀ (l : List α) (i : Nat), kget l i = l[i]?
  | [], i => rfl
  | x :: l, 0 => rfl
  | x :: l, i + 1 => by show kget l i = _; rw [kget_eq l i]; rfl

def kdrop (i : Nat) (l : List α) : List α :=
  List.rec (motive := fun _ => Nat → List α) (fun _ => []) (fun x xs ih k => Nat.rec (motive := fun _ => List α) (x :: xs) (fun j _ => ih j) k) l i

theorem kdrop_eq : ∀ (i : Nat) (l : List α), kdrop i l = l.drop i
  | 0, [] => rfl
  | i + 1, [] => rfl
  | 0, x :: l => rfl
  | i + 1, x :: l => by show kdrop i l = _; rw [kdrop_eq i l]; rfl

def ktake (i : Nat) (l : List α) : List α :=
  List.rec (motive := fun _ => Nat → List α) (fun _ => []) (fun x _ ih k => Nat.rec (motive := fun _ => List α) [] (fun j _ => x :: ih j) k) l i

theorem ktake_eq : ∀ (i : Nat) (l : List α), ktake i l = l.take i
  | 0, [] => rfl
  | i + 1, [] => rfl
  | 0, x :: l => rfl
  | i + 1, x :: l => by show x :: ktake i l = _; rw [ktake_eq i l]; rfl

def kset (l : List α) (i : Nat) (v : α) : List α :=
  List.rec (motive := fun _ => Nat → List α) (fun _ => []) (fun x xs ih k => Nat.rec (motive := fun _ => List α) (v :: xs) (fun j _ => x :: ih j) k) l i

theorem kset_eq : ∀ (l : List α) (i : Nat) (v : α), kset l i v = l.set i v
  | [], i, v => rfl
  | x :: l, 0, v => rfl
  | x :: l, i + 1, v => by show x :: kset l i v = _; rw [kset_eq l i v]; rfl

def kapp (l m : List α) : List α := List.rec (motive := fun _ => List α) m (fun x _ ih => x :: ih) l

theorem kapp_eq : ∀ (l m : List α), kapp l m = l ++ m
  | [], m => rfl
  | x :: l, m => by show x :: kapp l m = _; rw [kapp_eq l m]; rfl

def kall (p : α → Bool) (l : List α) : Bool := List.rec (motive := fun _ => Bool) true (fun x _ ih => bif p x then ih else false) l

theorem kall_eq (p : α → Bool) : ∀ l, kall p l = l.all p
  | [] => rfl
  | x :: l => by
    show (bif p x then kall p l else false) = _
    rw [kall_eq p l, List.all_cons]
    cases p x <;> rfl

def klen (l : List α) : Nat := List.rec (motive := fun _ => Nat) 0 (fun _ _ ih => Nat.succ ih) l

theorem klen_eq : ∀ l : List α, klen l = l.length
  | [] => rfl
  | x :: l => by show Nat.succ (klen l) = _; rw [klen_eq l]; rfl

def krep (n : Nat) (x : α) : List α := Nat.rec (motive := fun _ => List α) [] (fun _ ih => x :: ih) n

theorem krep_eq : ∀ (n : Nat) (x : α), krep n x = List.replicate n x
  | 0, x => rfl
  | n + 1, x => by show x :: krep n x = _; rw [krep_eq n x]; rfl

def kfreeze (f : α → Option β) (l : List α) : Option (List β) :=
  List.rec (motive := fun _ => Option (List β)) (some []) (fun x _ ih =>
    match f x with
    | some y => match ih with | some ys => some (y :: ys) | none => none
    | none => none) l

theorem kfreeze_eq (f : α → Option β) : ∀ l, kfreeze f l = freezeList f l
  | [] => rfl
  | x :: l => by
    show (match f x with | some y => (match kfreeze f l with | some ys => some (y :: ys) | none => none) | none => none) = _
    rw [kfreeze_eq f l]; rfl

end

/-! ### Tries -/

def kTget {α : Type} (t : Tr α) (k : Nat) : Option α := t.get k
theorem kTget_eq {α : Type} (t : Tr α) (k : Nat) : kTget t k = t.get k := rfl
def kTput {α : Type} (t : Tr α) (k : Nat) (x : Option α) : Tr α := t.put k x
theorem kTput_eq {α : Type} (t : Tr α) (k : Nat) (x : Option α) : kTput t k x = t.put k x := rfl

end
end Go.Df

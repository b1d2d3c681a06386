/- The trimming by rule, plain: which bar comes next. Conditions: none. -/
import Derived.Test.YthcnngoaijgnoaaGreatK11
import Derived.Test.YthcnngoaijgnoaaGreatPpdJ
namespace Go.Proofs.YthcnngoaijgnoaaGreat

def armsL (k : Knot) : List Bar := [armB k 0, armB k 1, armB k 2, armB k 3]
theorem armsL_get (k : Knot) {a : Nat} (ha : a < (armsL k).length) : (armsL k)[a] = armB k a := by
  have : a < 4 := ha
  match a with
  | 0 => rfl
  | 1 => rfl
  | 2 => rfl
  | 3 => rfl
theorem find_drop {α : Type} (p : α → Bool) {l : List α} {k : Nat} (hk : k < l.length) : (l.drop k).find? p = if p l[k] then some l[k] else (l.drop (k + 1)).find? p := by
  rw [List.drop_eq_getElem_cons hk, List.find?_cons]
  cases p l[k] <;> rfl
/-- the last sound bar of a knot that lacks three -/
def lastOf (D S : List Bar) (k : Knot) : Option Bar := if cnt (legsAt D k) = 3 then (armsL k).find? (hasb S) else none
def lastK (D S : List Bar) : List Knot → Option Bar
  | [] => none
  | k :: r => match lastOf D S k with
    | some b => some b
    | none => lastK D S r
theorem lastK_drop {D S : List Bar} {l : List Knot} {k : Nat} (hk : k < l.length) : lastK D S (l.drop k) = match lastOf D S l[k] with
    | some b => some b
    | none => lastK D S (l.drop (k + 1)) := by
  rw [List.drop_eq_getElem_cons hk, lastK]
/-- enough ends of a bar are odd -/
def wantB (D : List Bar) (w : Nat) (b : Bar) : Bool := decide (w ≤ cnt (legsAt D (lowK b)) % 2 + cnt (legsAt D (uppK b)) % 2) && (decide (0 < w) || decide (0 < cnt (legsAt D (lowK b)) + cnt (legsAt D (uppK b))))
def wantF (D S : List Bar) : Nat → Option Bar
  | 0 => none
  | w + 1 => match S.find? (wantB D w) with
    | some b => some b
    | none => wantF D S w
/-- the bar that the rule adds next -/
def chosenB (D S : List Bar) : Option Bar := match lastK D S (holeK D) with
  | some b => some b
  | none => wantF D S 3
/-- the trimming by rule, in f rounds -/
def ruleF (N : List Bar) : Nat → List Bar → List Bar → Option (List Bar)
  | 0, _, _ => none
  | f + 1, D, out => if rdyB D then some out else match chosenB D (wout N D) with
    | none => none
    | some b => ruleF N f (tog D [b]) (insB out b)
def ruleO (N D : List Bar) : Option (List Bar) := ruleF N 33 D []
theorem lastOf_mem {D S : List Bar} {k : Knot} {b : Bar} (h : lastOf D S k = some b) : b ∈ S := by
  unfold lastOf at h
  split at h
  · have := List.find?_some h
    exact hasb_mem.1 this
  · cases h
theorem lastK_mem {D S : List Bar} {b : Bar} : ∀ {l : List Knot}, lastK D S l = some b → b ∈ S
  | [], h => by cases h
  | k :: r, h => by
    unfold lastK at h
    split at h
    · rename_i x hx
      obtain rfl : x = b := by simpa using h
      exact lastOf_mem hx
    · exact lastK_mem h
theorem wantF_mem {D S : List Bar} {b : Bar} : ∀ {w : Nat}, wantF D S w = some b → b ∈ S
  | 0, h => by cases h
  | w + 1, h => by
    unfold wantF at h
    split at h
    · rename_i x hx
      obtain rfl : x = b := by simpa using h
      exact List.mem_of_find?_eq_some hx
    · exact wantF_mem h
theorem chosen_mem {D S : List Bar} {b : Bar} (h : chosenB D S = some b) : b ∈ S := by
  unfold chosenB at h
  split at h
  · rename_i x hx
    obtain rfl : x = b := by simpa using h
    exact lastK_mem hx
  · exact wantF_mem h
/-- bar and flag as they are returned -/
def optB (o : Option Bar) : Value := match o with
  | some b => .tuple #[.agg #[.int .i64 b.1, .int .i64 b.2.1, .int .i64 b.2.2], .bool true]
  | none => .tuple #[.agg #[.int .i64 0, .int .i64 0, .int .i64 0], .bool false]
end Go.Proofs.YthcnngoaijgnoaaGreat

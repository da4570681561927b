/- What reading a text comes to, in plain Lean: its lines, what is wrong with it, the table. -/
import Derived.Test.YtllocmgmilllaaaDoorSpec
import Derived.Test.YtllocmgmilllaaaDoorLow
import Derived.Lib.SlTrimSet
import Derived.Lib.Join
import Derived.Lib.IndexAny
namespace Go.Proofs.YtllocmgmilllaaaDoor

/-- A line of an entry: where it begins, its text (the reference) or its key (the program), its pieces. -/
abbrev Line := Nat × ByteArray × List ByteArray

def blankB (c : UInt8) : Bool := c == 32 || c == 9
def trimB (s : ByteArray) : ByteArray := ⟨(Lib.trimS s.data.toList [32, 9]).toArray⟩

/-- The place of the first line's end from i on. -/
def endOf (s : ByteArray) (i : Nat) : Nat := i + ((s.data.toList.drop i).takeWhile (· != 10)).length

def skipB (t : ByteArray) : Bool := t.size == 0 || bAt t 0 == 35

def addLast : List Line → ByteArray → List Line
  | [], _ => []
  | [l], x => [(l.1, l.2.1, l.2.2 ++ [x])]
  | l :: m :: r, x => l :: addLast (m :: r) x

/-- One line of the text, at place at: what it makes of the lines and of the faults so far. -/
def lineStep (s : ByteArray) (at_ : Nat) (out : List Line) (bad : List Nat) : List Line × List Nat :=
  let line := s.extract at_ (endOf s at_)
  if skipB (trimB line) = true then (out, bad)
  else if blankB (bAt line 0) = true then (if out = [] then (out, bad ++ [at_]) else (addLast out (trimB line), bad))
  else (out ++ [(at_, line, [])], bad)

def linesGo (s : ByteArray) : Nat → Nat → List Line → List Nat → List Line × List Nat
  | 0, _, out, bad => (out, bad)
  | f + 1, at_, out, bad => if at_ < s.size then linesGo s f (endOf s at_ + 1) (lineStep s at_ out bad).1 (lineStep s at_ out bad).2 else (out, bad)

def badC (c : UInt8) : Bool := !(c == 9 || c == 10 || (decide (32 ≤ c) && decide (c ≤ 126)))
def badFrom (s : ByteArray) (k : Nat) : List Nat := (List.range k).filter fun i => badC (bAt s i)

def linesOf (s : ByteArray) : List Line × List Nat := linesGo s (s.size + 1) 0 [] (badFrom s s.size)

/-- The least of them, n if none is less. -/
def minF (n : Nat) (l : List Nat) : Nat := l.foldl (fun a x => if x < a then x else a) n

def keyLen (t : ByteArray) : Nat := (t.data.toList.takeWhile fun c => !blankB c).length
def keyOf (l : Line) : ByteArray := lowS (l.2.1.extract 0 (keyLen l.2.1))
def firstOf (l : Line) : ByteArray := l.2.1.extract (keyLen l.2.1) l.2.1.size
def piecesOf (l : Line) : List ByteArray := (if (trimB (firstOf l)).size = 0 then [] else [trimB (firstOf l)]) ++ l.2.2
/-- The program's line for the reference's. -/
def conv (l : Line) : Line := (l.1, keyOf l, piecesOf l)
def joinB (ps : List ByteArray) : ByteArray := ⟨(Lib.join (ps.map (·.data.toList)) [32]).toArray⟩
def valOf (l : Line) : ByteArray := joinB (piecesOf l)

def insL (L : List Ent) (k : Nat) (e : Ent) : List Ent := L.take k ++ e :: L.drop k

/-- The entries' lines, one behind the other; m: the first fault's place (n: none). -/
def parseGo (n m : Nat) : List Line → List Ent → Option (List Ent) × Int × Nat
  | [], L => if m = n then (some L, 0, 0) else (none, 61, m)
  | x :: r, L => if x.1 < m then
      (if 320 < (keyOf x).size ∨ (valOf x).size = 0 ∨ 1000 < (valOf x).size then (none, 61, x.1)
       else if placeB L (keyOf x) = true then (none, 63, x.1)
       else if L.length = 2000 then (none, 62, x.1)
       else parseGo n m r (insL L (placeI L (keyOf x)) (keyOf x, valOf x)))
    else (none, 61, m)

def parse (s : ByteArray) : Option (List Ent) × Int × Nat :=
  if 262144 < s.size then (none, 60, 262144)
  else parseGo (s.size + 1) (minF (s.size + 1) (linesOf s).2) (linesOf s).1 []

/-! ### laws -/
theorem insL_len (L : List Ent) (k : Nat) (e : Ent) (h : k ≤ L.length) : (insL L k e).length = L.length + 1 := by
  unfold insL
  rw [List.length_append, List.length_cons, List.length_take, List.length_drop]
  omega

theorem minF_snoc (n : Nat) (l : List Nat) (x : Nat) : minF n (l ++ [x]) = if x < minF n l then x else minF n l := by
  unfold minF
  rw [List.foldl_append]
  rfl

theorem badFrom_succ (s : ByteArray) (k : Nat) : badFrom s (k + 1) = if badC (bAt s k) = true then badFrom s k ++ [k] else badFrom s k := by
  unfold badFrom
  rw [List.range_succ, List.filter_append]
  by_cases h : badC (bAt s k) = true
  · rw [if_pos h]
    simp [h]
  · rw [if_neg h]
    simp [h]

theorem endOf_le (s : ByteArray) (i : Nat) (h : i ≤ s.size) : i ≤ endOf s i ∧ endOf s i ≤ s.size := by
  unfold endOf
  have h1 : ((s.data.toList.drop i).takeWhile (· != 10)).length ≤ (s.data.toList.drop i).length := (List.takeWhile_prefix _).length_le
  rw [List.length_drop, size_list] at h1
  omega

theorem drop_at {s : ByteArray} {k : Nat} (h : k < s.size) : s.data.toList.drop k = bAt s k :: s.data.toList.drop (k + 1) := by
  rw [List.drop_eq_getElem_cons (by rw [size_list]; exact h)]
  congr 1
  unfold bAt
  rw [List.getD_eq_getElem?_getD, List.getElem?_eq_getElem (by rw [size_list]; exact h)]
  rfl

theorem endOf_go {s : ByteArray} {k : Nat} (h : k < s.size) (hb : ¬ bAt s k = 10) : endOf s (k + 1) = endOf s k := by
  unfold endOf
  rw [drop_at h, List.takeWhile_cons_of_pos (by simpa using hb), List.length_cons]
  omega
theorem endOf_nl {s : ByteArray} {k : Nat} (h : k < s.size) (hb : bAt s k = 10) : endOf s k = k := by
  unfold endOf
  rw [drop_at h, List.takeWhile_cons_of_neg (by simp [hb])]
  rfl
theorem endOf_end {s : ByteArray} {k : Nat} (h : ¬ k < s.size) : endOf s k = k := by
  unfold endOf
  rw [List.drop_eq_nil_of_le (by rw [size_list]; omega)]
  rfl

theorem addLast_snoc (init : List Line) (l : Line) (x : ByteArray) : addLast (init ++ [l]) x = init ++ [(l.1, l.2.1, l.2.2 ++ [x])] := by
  induction init with
  | nil => rfl
  | cons a r ih =>
    cases r with
    | nil => rfl
    | cons b q => exact congrArg (a :: ·) ih

theorem conv_add (l : Line) (x : ByteArray) : conv (l.1, l.2.1, l.2.2 ++ [x]) = ((conv l).1, (conv l).2.1, (conv l).2.2 ++ [x]) := by
  unfold conv piecesOf
  simp only [List.append_assoc]
  rfl

theorem map_addLast (out : List Line) (x : ByteArray) : (addLast out x).map conv = addLast (out.map conv) x := by
  rcases List.eq_nil_or_concat out with rfl | ⟨init, l, rfl⟩
  · rfl
  · rw [List.concat_eq_append, addLast_snoc, List.map_append, List.map_append, List.map_cons, List.map_nil, List.map_cons, List.map_nil, addLast_snoc, conv_add]

/-! the trims of the two sides -/
theorem trim_comm (cs : List UInt8) : ∀ l : List UInt8, Lib.trimLeftS (Lib.trimRightS l cs) cs = Lib.trimRightS (Lib.trimLeftS l cs) cs
  | [] => rfl
  | x :: l => by
    have ih := trim_comm cs l
    have hr : Lib.trimRightS (x :: l) cs = if (Lib.trimRightS l cs) = [] then (if cs.contains x = true then [] else [x]) else x :: Lib.trimRightS l cs := by
      unfold Lib.trimRightS
      rw [List.reverse_cons, List.dropWhile_append]
      by_cases h : (l.reverse.dropWhile (cs.contains ·)) = []
      · rw [h]
        simp only [List.isEmpty_nil, if_true, List.reverse_nil]
        by_cases hx : cs.contains x = true
        · rw [List.dropWhile_cons_of_pos (by exact hx), if_pos hx]
          rfl
        · rw [List.dropWhile_cons_of_neg (by exact hx), if_neg hx]
          rfl
      · have h1 : (l.reverse.dropWhile (cs.contains ·)).isEmpty = false := by simpa using h
        have h2 : ¬ (l.reverse.dropWhile (cs.contains ·)).reverse = [] := by simpa using h
        rw [if_neg h2, h1]
        simp
    have hl : Lib.trimLeftS (x :: l) cs = if cs.contains x = true then Lib.trimLeftS l cs else x :: l := by
      unfold Lib.trimLeftS
      rw [List.dropWhile_cons]
    rw [hr, hl]
    by_cases hx : cs.contains x = true
    · rw [if_pos hx, if_pos hx]
      by_cases h : Lib.trimRightS l cs = []
      · rw [if_pos h, ← ih, h]
      · rw [if_neg h, ← ih]
        unfold Lib.trimLeftS
        rw [List.dropWhile_cons_of_pos (by exact hx)]
    · rw [if_neg hx, if_neg hx, hr, if_neg hx]
      by_cases h : Lib.trimRightS l cs = []
      · rw [if_pos h]
        unfold Lib.trimLeftS
        rw [List.dropWhile_cons_of_neg (by exact hx)]
      · rw [if_neg h]
        unfold Lib.trimLeftS
        rw [List.dropWhile_cons_of_neg (by exact hx)]

end Go.Proofs.YtllocmgmilllaaaDoor

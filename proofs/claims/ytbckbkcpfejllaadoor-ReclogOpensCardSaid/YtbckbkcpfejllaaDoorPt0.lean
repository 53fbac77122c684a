/- Paths, plainly: which names are paths (P3.1). No word on any program. -/
import Derived.Test.YtbckbkcpfejllaaDoorBase
namespace Go.Proofs.YtbckbkcpfejllaaDoor

def plainB (c : UInt8) : Bool := (97 ≤ c && c ≤ 122) || (65 ≤ c && c ≤ 90) || (48 ≤ c && c ≤ 57) || c == 46 || c == 95 || c == 45 || c == 43 || c == 47
/-- The parts of a name between slashes. -/
def splitB : Bs → List Bs
  | [] => [[]]
  | c :: r => if c = 47 then [] :: splitB r else match splitB r with
    | [] => [[c]]
    | x :: l => (c :: x) :: l
/-- The parts that count; none: '..' with nothing ahead. -/
def foldB : List Bs → List Bs → Option (List Bs)
  | acc, [] => some acc
  | acc, x :: r => if x = [] ∨ x = [46] then foldB acc r else if x = [46, 46] then (if acc = [] then none else foldB acc.dropLast r) else foldB (acc ++ [x]) r
def joinB : List Bs → Bs
  | [] => []
  | [x] => x
  | x :: r => x ++ 47 :: joinB r
def cleanP (s : Bs) : Bs × Int :=
  if 1000 < s.length then ([], 3)
  else if s.head? = some 47 ∨ s.all plainB = false then ([], 5)
  else match foldB [] (splitB s) with
    | none => ([], 5)
    | some l => if joinB l = [] then ([], 5) else if 100 < (joinB l).length then ([], 3) else (joinB l, 0)
def rightP (s : ByteArray) : Bool := (cleanP (bs s)).2 == 0 && (cleanP (bs s)).1 == bs s
end Go.Proofs.YtbckbkcpfejllaaDoor

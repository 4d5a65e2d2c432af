/- The law of lines: what each of the 169 texts is. No program in sight. -/
import Derived.Test.YtgaiheojlmebaaaDoorPure5
import Derived.KernelRfl
namespace Go.Proofs.YtgaiheojlmebaaaDoor
open Go Go.RowKit

def sgL : List ByteArray := [⟨#[43]⟩, ⟨#[45]⟩, ⟨#[42]⟩, ⟨#[47]⟩, ⟨#[37]⟩, ⟨#[60]⟩, ⟨#[60, 61]⟩, ⟨#[62]⟩, ⟨#[62, 61]⟩, ⟨#[61, 61]⟩, ⟨#[33, 61]⟩, ⟨#[38]⟩, ⟨#[124]⟩]
def lnL : List Int := [4, 4, 5, 5, 5, 3, 3, 3, 3, 3, 3, 2, 1]
def sg (i : Nat) : ByteArray := sgL.getD i ⟨#[]⟩
def ln (i : Nat) : Int := lnL.getD i 0
/-- The text: three names with two operators between them. -/
def lineT (i k : Nat) : ByteArray := ⟨#[97, 32]⟩ ++ sg i ++ ⟨#[32, 98, 32]⟩ ++ sg k ++ ⟨#[32, 99]⟩
/-- What the law asks of an answer. -/
def lineB (i k : Nat) (p : Ex × Int × Int) : Bool :=
  if ln i == 3 && ln k == 3 then p.2.1 == 11 && p.2.2 == 5 + ((sg i).size : Int)
  else p.2.1 == 0 && match p.1.kids with
    | [x, y] => if ln k ≤ ln i then p.1.op == 4 + (k : Int) && x.op == 4 + (i : Int) && seq y.name ⟨#[99]⟩ else p.1.op == 4 + (i : Int) && y.op == 4 + (k : Int) && seq x.name ⟨#[97]⟩
    | _ => false
set_option maxRecDepth 100000 in
theorem lines_all : ((List.range 13).all fun i => (List.range 13).all fun k => lineB i k (parseP (lineT i k))) = true := by kernel_rfl
theorem lines_at (i k : Nat) (hi : i < 13) (hk : k < 13) : lineB i k (parseP (lineT i k)) = true :=
  List.all_eq_true.1 (List.all_eq_true.1 lines_all i (List.mem_range.2 hi)) k (List.mem_range.2 hk)
end Go.Proofs.YtgaiheojlmebaaaDoor

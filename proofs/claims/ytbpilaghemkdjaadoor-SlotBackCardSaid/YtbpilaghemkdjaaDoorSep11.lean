/- What is one's own, behind three others. -/
import Derived.Test.YtbpilaghemkdjaaDoorSep10
namespace Go.Sep
open Go
variable {σ : Sig}
theorem JO.tail3 {P : Program} {n : Nat} {ds : List Deferred} {ops : Array Oper} {Q : Exit → Act → World → Prop} {rest : List Oper} {env : Env} {p1 p2 p3 : HP} {r : List HP} {v : Value} {E k : Nat} {xs : List Value}
    (h : RdS σ (ownS v E 1 k xs :: r) v xs → JO P σ n ds ops Q rest env (p1 :: p2 :: p3 :: ownS v E 1 k xs :: r)) : JO P σ n ds ops Q rest env (p1 :: p2 :: p3 :: ownS v E 1 k xs :: r) :=
  fun a w ka kd s => h (Sat.ownR (Sat.drop (Sat.drop (Sat.drop s)))).1 a w ka kd s
theorem JO.tail4 {P : Program} {n : Nat} {ds : List Deferred} {ops : Array Oper} {Q : Exit → Act → World → Prop} {rest : List Oper} {env : Env} {p1 p2 p3 : HP} {l : List HP} {v : Value} {cs : List Value}
    (hv : RdS σ l v cs) (h : RdS σ l v cs → JO P σ n ds ops Q rest env (p1 :: p2 :: p3 :: l)) : JO P σ n ds ops Q rest env (p1 :: p2 :: p3 :: l) := h hv
end Go.Sep

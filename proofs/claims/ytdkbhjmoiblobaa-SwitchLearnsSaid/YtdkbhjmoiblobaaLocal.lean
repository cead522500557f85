/- Plain laws for the walk: a local array that is zero: built, and laid. Nothing here is of one program. -/
import Derived.Test.YtdkbhjmoiblobaaWMore
import Derived.Laws.Tables
import Derived.Great.BuildSlice
namespace Go.Proofs.Ytdkbhjmoiblobaa.Hand
open Go.RowKit Go.Proofs.YtdkbhjmoiblobaaW.PrintWords Go.Proofs.YtdkbhjmoiblobaaW.PrintMore
theorem wpList_buildZ {P : Program} {ops : Array Oper} {rest : List Oper} {o : Oper} {a : Act} {w : World} {Q : Exit → Act → World → Prop} (hg : o.guard = none) (t : TypeId) (ho : o.op = .build t #[]) (d : Option Tmp) (hd : o.dst = d)
    (cells : Array Value) (hc : P.built t [] = some cells) (h : wpList P ops Q rest (a.put d (.agg cells)) w) : wpList P ops Q (o :: rest) a w := by
  subst hd
  refine wpList_plain hg fun K hK => ?_
  unfold Oper.wp execOp
  simp only [ho, Sem.run_bind, Array.map_empty, run_build w t #[] cells hc, Result.andThen_ok]
  exact hK _ _ h
theorem wpList_allocZ {P : Program} {ops : Array Oper} {rest : List Oper} {o : Oper} {a : Act} {w : World} {Q : Exit → Act → World → Prop} (hg : o.guard = none) (t : TypeId) (ho : o.op = .alloc t) (d : Option Tmp) (hd : o.dst = d)
    (cells : Array Value) (hc : (P.info? t).bind (·.zero) = some (.agg cells)) (h : wpList P ops Q rest (a.put d (.pointer (some ⟨w.heap.size, 0, none⟩))) (w.alloc (.cells cells t))) : wpList P ops Q (o :: rest) a w := by
  subst hd
  refine wpList_plain hg fun K hK => ?_
  unfold Oper.wp execOp
  cases hit : P.info? t with
  | none => simp [hit] at hc
  | some it =>
    simp only [hit, Option.bind_some] at hc
    simp [ho, Instr.alloc, zeroValue, typeInfo, hit, hc, newVar]
    exact hK _ _ h
theorem addr128 (f z : Int) : 128 * f % 4294967296 + z % 128 = (128 * f + z % 4294967296 % 128) % 4294967296 := by omega
theorem mod32 (a b : Int) : (a + b) % 4294967296 % 32 = (a + b) % 32 := by omega
end Go.Proofs.Ytdkbhjmoiblobaa.Hand

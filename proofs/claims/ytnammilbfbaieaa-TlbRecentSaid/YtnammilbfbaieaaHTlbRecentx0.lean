-- Written for this claim by wip/hook.py, by means of the kit's print and of hand-proved contracts.
import Derived.Test.YtnammilbfbaieaaProg
import Derived.Below
import Derived.Deep.Draws
import Derived.Deep.AppendLies
import Derived.Maps.AppendAt
import Derived.OwnWalk
import Derived.Laws.BytesArg
import Derived.Laws.MakeOwn
import Derived.Laws.OwnMore
import Derived.Deep.OwnRows
import Derived.Tactics
import Derived.Lib.ConvBytes
import Derived.Laws.Slices
import Derived.WalkKit
import Derived.KernelRfl
import Derived.RowKit3
import Derived.Deep.LoopGhost
import Derived.Deep.QuietTactic
import Derived.BigQuiet
import Derived.WideLaws
import Derived.Deep.DeepCutAuto
import Derived.Deep.CutBlock
import Derived.Deep.RegionHeld3
import Derived.Laws.Rows
import Derived.Lib.AppendStr
import Derived.ArgAppend
import Derived.Laws.IdiomCopy
import Derived.OrdersHeld
import Derived.Laws.BitsLemmas
import Derived.RowKit
import Derived.Laws.CopyOwn
import Derived.Test.YtnammilbfbaieaaCopy
import Derived.Test.YtnammilbfbaieaaGlob
import Derived.Test.YtnammilbfbaieaaLocal
import Derived.Test.YtnammilbfbaieaaWWords
import Derived.Test.YtnammilbfbaieaaWLast
import Derived.Test.YtnammilbfbaieaaWTab
import Derived.Test.YtnammilbfbaieaaWFour
import Derived.Test.YtnammilbfbaieaaWQPut
import Derived.Test.YtnammilbfbaieaaWApart
import Derived.Test.YtnammilbfbaieaaWArr
import Derived.Test.YtnammilbfbaieaaWZeros
import Derived.Test.YtnammilbfbaieaaWFoot
import Derived.Test.YtnammilbfbaieaaWKept
import Derived.Test.YtnammilbfbaieaaWShare
import Derived.Test.YtnammilbfbaieaaWN
import Derived.Test.YtnammilbfbaieaaWFootNe
import Derived.Test.YtnammilbfbaieaaWAt
import Derived.Test.YtnammilbfbaieaaWEqStruct
import Derived.Test.YtnammilbfbaieaaWRepsOne
import Derived.Test.YtnammilbfbaieaaWInv
import Derived.Test.YtnammilbfbaieaaWInvWords
import Derived.Test.YtnammilbfbaieaaWGuard
import Derived.Test.YtnammilbfbaieaaWNEv
import Derived.Test.YtnammilbfbaieaaWMore
namespace Go.Proofs.Ytnammilbfbaieaa.HTlbRecent
open Go.RowKit Go.Proofs.YtnammilbfbaieaaW.PrintWords Go.Proofs.YtnammilbfbaieaaW.PrintLast Go.Proofs.YtnammilbfbaieaaW.PrintMore
attribute [local go_sem] max2_int min2_int max_two min_two max_three min_three max_four min_four   -- for this text's walks alone
attribute [local go_sem] Instr.field asAgg
set_option linter.unusedVariables false
set_option linter.unusedSimpArgs false



def errW : Option Int → Value
  | none => .nilIface
  | some c => .iface 0 (.int .i64 c)
theorem errW_none : errW none = .nilIface := rfl
theorem errW_some (c : Int) : errW (some c) = .iface 0 (.int .i64 c) := rfl

theorem info23 : (Try.prog.info? 23).map (fun i => (i.zero, i.size, i.bytes)) = some (some (.int .u32 0), 1, 4) := by kernel_rfl
theorem info49 : (Try.prog.info? 49).map (fun i => (i.zero, i.size, i.bytes)) = some (some (.agg #[(.int .u32 0), (.int .u32 0), (.bool false), (.bool false)]), 4, 12) := by kernel_rfl
-- the values' own types
/-! #### struct type 49 -/
structure S49 where
  f0 : Int
  f1 : Int
  f2 : Bool
  f3 : Bool
def z49 : S49 := ⟨(0 : Int), (0 : Int), false, false⟩
def k49 : Kd S49 := Kd.iso (Kd.pair (Kd.int .u32) (Kd.pair (Kd.int .u32) (Kd.pair Kd.bool Kd.bool))) (fun x : S49 => (x.f0, x.f1, x.f2, x.f3))
theorem k49_open {w : World} {x : S49} {cs : List Value} (h : k49.K w x cs) : cs = [.int .u32 x.f0, .int .u32 x.f1, .bool x.f2, .bool x.f3] := by
  obtain ⟨_, _, rfl, rfl, ⟨_, _, rfl, rfl, ⟨_, _, rfl, rfl, rfl⟩⟩⟩ := h
  exact rfl
theorem k49_openM {w : World} {base : Nat} {ok : Nat → Prop} {x : S49} {cs : List Value} (h : k49.M w base ok x cs) : cs = [.int .u32 x.f0, .int .u32 x.f1, .bool x.f2, .bool x.f3] := by
  obtain ⟨_, _, rfl, rfl, ⟨_, _, rfl, rfl, ⟨_, _, rfl, rfl, rfl⟩⟩⟩ := h
  exact rfl
theorem k49_mk (w : World) (x : S49)  : k49.K w x [.int .u32 x.f0, .int .u32 x.f1, .bool x.f2, .bool x.f3] := ⟨[.int .u32 x.f0], [.int .u32 x.f1, .bool x.f2, .bool x.f3], rfl, rfl, ⟨[.int .u32 x.f1], [.bool x.f2, .bool x.f3], rfl, rfl, ⟨[.bool x.f2], [.bool x.f3], rfl, rfl, rfl⟩⟩⟩
theorem k49_mkM (w : World) (base : Nat) (ok : Nat → Prop) (x : S49)  : k49.M w base ok x [.int .u32 x.f0, .int .u32 x.f1, .bool x.f2, .bool x.f3] := ⟨[.int .u32 x.f0], [.int .u32 x.f1, .bool x.f2, .bool x.f3], rfl, rfl, ⟨[.int .u32 x.f1], [.bool x.f2, .bool x.f3], rfl, rfl, ⟨[.bool x.f2], [.bool x.f3], rfl, rfl, rfl⟩⟩⟩
theorem k49_mkF (W : World) (ok : Nat → Prop) (x : S49) : Kd.FK k49 W ok x [.int .u32 x.f0, .int .u32 x.f1, .bool x.f2, .bool x.f3] := fun W2 _ => k49_mk W2 x
def rd_T49 (xs : List S49) (i : Int) : S49 := xs.getD i.toNat z49
theorem at_T49 {w : World} {A : Option Addr} {n : Nat} {xs : List S49} (h : Kd.C k49 w A n xs) (i : Int) (h0 : 0 ≤ i) (h1 : i < n) : ∃ ad , A = some ad ∧ w.cell? (ad.add (i.toNat * 4)) = some (.int .u32 (rd_T49 xs i).f0) ∧ w.cell? ⟨(ad.add (i.toNat * 4)).block, (ad.add (i.toNat * 4)).off + 1, none⟩ = some (.int .u32 (rd_T49 xs i).f1) ∧ w.cell? ⟨(ad.add (i.toNat * 4)).block, (ad.add (i.toNat * 4)).off + 2, none⟩ = some (.bool (rd_T49 xs i).f2) ∧ w.cell? ⟨(ad.add (i.toNat * 4)).block, (ad.add (i.toNat * 4)).off + 3, none⟩ = some (.bool (rd_T49 xs i).f3) := by
  obtain ⟨ad, c, e, _, hK, hc0⟩ := Kd.C_get h z49 i h0 h1
  have hc : ∀ j u, c[j]? = some u → w.cell? (ad.add (i.toNat * 4 + j)) = some u := hc0
  obtain rfl := k49_open hK
  exact ⟨ad, e, hc 0 _ rfl, by rw [← add_field _ _ 1 (by omega)]; exact hc 1 _ rfl, by rw [← add_field _ _ 2 (by omega)]; exact hc 2 _ rfl, by rw [← add_field _ _ 3 (by omega)]; exact hc 3 _ rfl⟩

end Go.Proofs.Ytnammilbfbaieaa.HTlbRecent

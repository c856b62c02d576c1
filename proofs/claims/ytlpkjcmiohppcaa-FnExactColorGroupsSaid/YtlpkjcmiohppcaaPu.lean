/- Functions that only compute. -/
import Derived.Test.YtlpkjcmiohppcaaAr
set_option maxRecDepth 100000
set_option maxHeartbeats 4000000
set_option linter.unusedSimpArgs false
set_option linter.unusedVariables false
namespace Go.Proofs.Ytlpkjcmiohppcaa
open Go Go.Av
attribute [local irreducible] wpA OpK awp
attribute [local go_sem] eqAgg eqAggV buildQ placesOf buildCells List.toList_toArray vcQg gfind gfree gput un3_agg unI_int unB_bool unK_int guardU skipV resVs resV vcD vcD1 roH roOb ftNone ftAdd oneOrTup AV.detup AV.ren AV.ren2 AV.ren1 pos selH AObj.ren fitAll fit fit1 fit1s matchAll matchOb exIds AObj.excl Env.killp pastH setAll upId AObj.past AObj.back AV.killp AV.killp1 AV.killp2 Nat.sub_self Nat.lt_irrefl Bool.or_self vcOps vcOp vcQs vcQ dstOk quiet eff pcall plain valsOf ev ofConst argEnv List.lookup Nat.add_eq decide_true decide_false Env.put binV wrapTo unV convV loadQ indexQ callQ builtinQ rd rdI globC AObj.globC partAV isAggD isArrayD addrAdd boxE storeE storeCE makeE makeNE buildNE nestZero Cont.child Cont.setChild buildSliceE buildFold appendE appendNE nestApp appendV promoteH sliceE boundAV subObj asCells Value.oneCell' contZero Cont.sets Cont.app Cont.sub Cont.len Cont.esz Cont.cell Cont.cells Cont.flat AV.det AV.det1 guardV AObj.unview AObj.kill Env.kill AV.kill AV.kill1 AV.kill2 fits64 Option.getD_some Option.getD_none Option.map_some Option.map_none Option.bind_some List.map_cons List.map_nil List.getElem?_cons_zero List.getElem?_cons_succ List.getElem?_nil true_and and_true List.getElem?_toArray List.cons_append List.nil_append List.length_cons List.length_nil List.set_cons_zero List.set_cons_succ List.take_succ_cons List.take_zero List.drop_succ_cons List.drop_zero List.drop_nil List.take_nil List.contains_cons List.contains_nil List.elem_cons List.elem_nil Bool.not_true Bool.not_false Bool.false_eq_true Bool.or_false Bool.or_true Bool.and_true Bool.and_false Bool.true_and Bool.false_and List.all_cons List.all_nil List.size_toArray Nat.lt_add_one Nat.zero_lt_succ Nat.one_ne_zero Nat.zero_ne_one and_self List.replicate_succ List.replicate_zero Int.toNat_natCast Int.toNat_zero Value.cells false_implies true_implies forall_const Thn InBlk Nat.zero_add Nat.add_zero Int.zero_add tsz0 tby0 tz0 Try.underlying0 tsz1 tby1 tz1 Try.underlying1 tsz3 tby3 tz3 Try.underlying3 tsz4 tby4 tz4 Try.underlying4 tsz22 tby22 tz22 Try.underlying22 tsz27 tby27 tz27 Try.underlying27
def ftA : FuncId → Option (List Value → Option (Prop × Value)) := (ftAdd 48 l1InG ftNone)
theorem ftAOk : PTab Try.prog ftA := (ftAddOk l1InP ftNoneOk)
def cmpI (a b : Int) : Int := if a < b then -1 else if b < a then 1 else 0
def ftB : FuncId → Option (List Value → Option (Prop × Value)) := (ftAdd 48 l1InG ftNone)
theorem ftBOk : PTab Try.prog ftB := (ftAddOk l1InP ftNoneOk)
def orF : List Int → Int
  | [] => 0
  | x :: l => if x = 0 then orF l else x
theorem orF_drop {xs : List Int} {k : Nat} (hk : k < xs.length) : orF (xs.drop k) = if xs[k]?.getD 0 = 0 then orF (xs.drop (k + 1)) else xs[k]?.getD 0 := by
  rw [List.drop_eq_getElem_cons hk, orF]; simp [hk]
end Go.Proofs.Ytlpkjcmiohppcaa

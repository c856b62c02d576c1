/- The table of functions that only compute. -/
import Derived.Test.YtngpllgpfndkkaaPu
set_option maxRecDepth 100000
set_option maxHeartbeats 4000000
set_option linter.unusedSimpArgs false
set_option linter.unusedVariables false
namespace Go.Proofs.Ytngpllgpfndkkaa
open Go Go.Av
attribute [local irreducible] wpA OpK awp
attribute [local go_sem] buildQ placesOf buildCells List.toList_toArray vcQg gfind gfree gput un3_agg unI_int unB_bool unK_int guardU skipV resVs resV vcD vcD1 roH roOb ftNone ftAdd oneOrTup AV.detup AV.ren AV.ren2 AV.ren1 pos selH AObj.ren fitAll fit fit1 fit1s matchAll matchOb exIds AObj.excl Env.killp pastH setAll upId AObj.past AObj.back AV.killp AV.killp1 AV.killp2 Nat.sub_self Nat.lt_irrefl Bool.or_self vcOps vcOp vcQs vcQ dstOk quiet eff pcall plain valsOf ev ofConst argEnv List.lookup Nat.add_eq decide_true decide_false Env.put binV wrapTo unV convV loadQ indexQ callQ builtinQ rd globC AObj.globC partAV isAggD isArrayD addrAdd boxE storeE makeE buildSliceE buildFold appendE sliceE boundAV subObj asCells Value.oneCell' contZero Cont.sets Cont.app Cont.sub Cont.len Cont.esz Cont.cell Cont.cells Cont.flat AV.det AV.det1 guardV AObj.unview AObj.kill Env.kill AV.kill AV.kill1 AV.kill2 fits64 Option.getD_some Option.getD_none Option.map_some Option.map_none Option.bind_some List.map_cons List.map_nil List.getElem?_cons_zero List.getElem?_cons_succ List.getElem?_nil true_and and_true List.getElem?_toArray List.cons_append List.nil_append List.length_cons List.length_nil List.set_cons_zero List.set_cons_succ List.take_succ_cons List.take_zero List.drop_succ_cons List.drop_zero List.drop_nil List.take_nil List.contains_cons List.contains_nil List.elem_cons List.elem_nil Bool.not_true Bool.not_false Bool.false_eq_true Bool.or_false Bool.or_true Bool.and_true Bool.and_false Bool.true_and Bool.false_and List.all_cons List.all_nil List.size_toArray Nat.lt_add_one Nat.zero_lt_succ Nat.one_ne_zero Nat.zero_ne_one and_self List.replicate_succ List.replicate_zero Int.toNat_natCast Int.toNat_zero Value.cells false_implies true_implies forall_const Thn InBlk Nat.zero_add Nat.add_zero Int.zero_add tsz0 tby0 tz0 Try.underlying0 tsz1 tby1 tz1 Try.underlying1 tsz2 tby2 tz2 Try.underlying2 tsz3 tby3 tz3 Try.underlying3 tsz4 tby4 tz4 Try.underlying4 tsz5 tby5 tz5 Try.underlying5 tsz6 tby6 tz6 Try.underlying6 tsz7 tby7 tz7 Try.underlying7 fo7_0 fo7_1 fo7_2 fo7_3 tsz8 tby8 tz8 Try.underlying8 fo8_0 fo8_1 fo8_2 fo8_3 tsz9 tby9 Try.underlying9 tsz10 tby10 Try.underlying10 tsz11 tby11 Try.underlying11 tsz12 tby12 tz12 Try.underlying12 tsz13 tby13 Try.underlying13 fo13_0 fo13_1 tsz14 tby14 Try.underlying14 fo14_0 fo14_1 tsz15 tby15 tz15 Try.underlying15 tsz16 tby16 tz16 Try.underlying16 tsz17 tby17 tz17 Try.underlying17 tsz18 tby18 tz18 Try.underlying18 fo18_0 tsz19 tby19 tz19 Try.underlying19 fo19_0 tsz20 tby20 tz20 Try.underlying20 tsz21 tby21 tz21 Try.underlying21 tsz22 tby22 tz22 Try.underlying22 tsz23 tby23 tz23 Try.underlying23 fo23_0 fo23_1 tsz24 tby24 tz24 Try.underlying24 fo24_0 fo24_1 tsz25 tby25 tz25 Try.underlying25 tsz26 tby26 tz26 Try.underlying26 tsz27 tby27 tz27 Try.underlying27 tsz28 tby28 tz28 Try.underlying28 tsz29 tby29 tz29 Try.underlying29 fo29_0 fo29_1 tsz30 tby30 tz30 Try.underlying30 fo30_0 fo30_1 tsz31 tby31 tz31 Try.underlying31 tsz32 tby32 tz32 Try.underlying32 tsz33 tby33 tz33 Try.underlying33 tsz34 tby34 tz34 Try.underlying34 tsz35 tby35 tz35 Try.underlying35 tsz36 tby36 tz36 Try.underlying36 tsz37 tby37 tz37 Try.underlying37 tsz38 tby38 tz38 Try.underlying38 tsz39 tby39 tz39 Try.underlying39 tsz40 tby40 tz40 Try.underlying40 tsz41 tby41 tz41 Try.underlying41 tsz42 tby42 tz42 Try.underlying42 tsz43 tby43 tz43 Try.underlying43 tsz44 tby44 tz44 Try.underlying44 tsz45 tby45 tz45 Try.underlying45 tsz46 tby46 tz46 Try.underlying46 tsz47 tby47 tz47 Try.underlying47 tsz48 tby48 tz48 Try.underlying48 tsz49 tby49 tz49 Try.underlying49 tsz50 tby50 tz50 Try.underlying50 tsz51 tby51 tz51 Try.underlying51 tsz52 tby52 tz52 Try.underlying52 tsz53 tby53 tz53 Try.underlying53 tsz54 tby54 tz54 Try.underlying54 tsz55 tby55 tz55 Try.underlying55 tsz56 tby56 tz56 Try.underlying56 tsz57 tby57 tz57 Try.underlying57 tsz58 tby58 tz58 Try.underlying58 tsz59 tby59 tz59 Try.underlying59 fo59_0 fo59_1 fo59_2 tsz60 tby60 tz60 Try.underlying60 fo60_0 fo60_1 fo60_2 tsz61 tby61 tz61 Try.underlying61 tsz62 tby62 tz62 Try.underlying62 tsz63 tby63 tz63 Try.underlying63 tsz64 tby64 tz64 Try.underlying64 tsz65 tby65 tz65 Try.underlying65 tsz66 tby66 tz66 Try.underlying66 tsz67 tby67 tz67 Try.underlying67 tsz68 tby68 tz68 Try.underlying68 tsz69 tby69 tz69 Try.underlying69 tsz70 tby70 tz70 Try.underlying70 tsz71 tby71 tz71 Try.underlying71 tsz72 tby72 tz72 Try.underlying72 tsz73 tby73 tz73 Try.underlying73 tsz74 tby74 tz74 Try.underlying74 tsz75 tby75 tz75 Try.underlying75 tsz76 tby76 tz76 Try.underlying76 tsz77 tby77 tz77 Try.underlying77 tsz78 tby78 tz78 Try.underlying78 tsz79 tby79 tz79 Try.underlying79 tsz80 tby80 tz80 Try.underlying80 tsz81 tby81 tz81 Try.underlying81 fo81_0 fo81_1 fo81_2 tsz82 tby82 tz82 Try.underlying82 tsz83 tby83 tz83 Try.underlying83 fo83_0 fo83_1 tsz84 tby84 tz84 Try.underlying84 fo84_0 fo84_1 tsz85 tby85 tz85 Try.underlying85 tsz86 tby86 tz86 Try.underlying86 tsz87 tby87 tz87 Try.underlying87 tsz88 tby88 tz88 Try.underlying88 tsz89 tby89 tz89 Try.underlying89 tsz90 tby90 tz90 Try.underlying90 tsz91 tby91 tz91 Try.underlying91 tsz92 tby92 tz92 Try.underlying92 tsz93 tby93 tz93 Try.underlying93 tsz94 tby94 tz94 Try.underlying94 tsz95 tby95 tz95 Try.underlying95 tsz96 tby96 Try.underlying96 fo96_0 fo96_1 fo96_2 fo96_3 tsz97 tby97 Try.underlying97 fo97_0 fo97_1 fo97_2 fo97_3 tsz98 tby98 tz98 Try.underlying98 tsz99 tby99 tz99 Try.underlying99 tsz100 tby100 tz100 Try.underlying100 tsz101 tby101 tz101 Try.underlying101 tsz102 tby102 tz102 Try.underlying102 tsz103 tby103 tz103 Try.underlying103 tsz104 tby104 tz104 Try.underlying104 tsz105 tby105 tz105 Try.underlying105 tsz106 tby106 tz106 Try.underlying106 tsz107 tby107 tz107 Try.underlying107 tsz108 tby108 tz108 Try.underlying108 fo108_0 fo108_1 fo108_2 fo108_3 fo108_4 fo108_5 fo108_6 fo108_7 fo108_8 fo108_9 fo108_10 tsz109 tby109 tz109 Try.underlying109 fo109_0 fo109_1 fo109_2 fo109_3 fo109_4 fo109_5 fo109_6 fo109_7 fo109_8 fo109_9 fo109_10 tsz110 tby110 tz110 Try.underlying110
def cmpEndsG : List Value → Option (Prop × Value)
  | [x0, x1] => (match un3 x0 with | some (a, b, c) => (match un3 x1 with | some (d, e, f) => some (True, .int .i64 (orF [cmpI a d, cmpI b e])) | none => none) | none => none)
  | _ => none
theorem cmpEndsP : PureF Try.prog 55 cmpEndsG := PureF.of en55 fun vs q r hg hq => by
  unfold cmpEndsG at hg
  split at hg
  · rename_i x0 x1
    cases h0 : un3 x0 with
    | none => simp only [h0, reduceCtorEq] at hg
    | some r0 =>
      obtain ⟨a, b, c⟩ := r0
      simp only [h0] at hg
      have e0 := un3_spec h0
      subst e0
      cases h1 : un3 x1 with
      | none => simp only [h1, reduceCtorEq] at hg
      | some r1 =>
        obtain ⟨d, e, f⟩ := r1
        simp only [h1] at hg
        have e1 := un3_spec h1
        subst e1
        simp only [Option.some.injEq, Prod.mk.injEq] at hg
        obtain ⟨_, rfl⟩ := hg
        exact FnA.mono (c_impl_compareEnds _ _ _ _ _ _) (fun _ _ h => h)
  · cases hg
def toEdgeG : List Value → Option (Prop × Value)
  | [x0] => (match un3 x0 with | some (a, b, c) => some (True, .agg #[.int .i64 a, .int .i64 b, .int .i64 c]) | none => none)
  | _ => none
theorem toEdgeP : PureF Try.prog 60 toEdgeG := PureF.of en60 fun vs q r hg hq => by
  unfold toEdgeG at hg
  split at hg
  · rename_i x0
    cases h0 : un3 x0 with
    | none => simp only [h0, reduceCtorEq] at hg
    | some r0 =>
      obtain ⟨a, b, c⟩ := r0
      simp only [h0] at hg
      have e0 := un3_spec h0
      subst e0
      simp only [Option.some.injEq, Prod.mk.injEq] at hg
      obtain ⟨_, rfl⟩ := hg
      exact c_laws_toEdge _ _ _
  · cases hg
def ftC : FuncId → Option (List Value → Option (Prop × Value)) := (ftAdd 60 toEdgeG (ftAdd 55 cmpEndsG (ftAdd 71 cmpIntG (ftAdd 73 isNaNG (ftAdd 59 l4BeforeG (ftAdd 63 eqEdgeG (ftAdd 35 l1InG ftNone)))))))
theorem ftCOk : PTab Try.prog ftC := (ftAddOk toEdgeP (ftAddOk cmpEndsP (ftAddOk cmpIntP (ftAddOk isNaNP (ftAddOk l4BeforeP (ftAddOk eqEdgeP (ftAddOk l1InP ftNoneOk)))))))
end Go.Proofs.Ytngpllgpfndkkaa

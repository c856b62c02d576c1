/- The code computes the functions that were taken out of it. -/
import Derived.Test.YtlpkjcmiohppcaaLa1
set_option maxRecDepth 100000
set_option maxHeartbeats 4000000
set_option linter.unusedSimpArgs false
set_option linter.unusedVariables false
namespace Go.Proofs.Ytlpkjcmiohppcaa
open Go Go.Av
attribute [local irreducible] wpA OpK awp
attribute [local go_sem] buildQ placesOf buildCells List.toList_toArray vcQg gfind gfree gput un3_agg unI_int unB_bool unK_int guardU skipV resVs resV vcD_nil vcD_cons vcT_fin vcT_free vcT_one vcT_two opS vcD1 roH roOb ftNone ftAdd oneOrTup AV.detup AV.ren AV.ren2 AV.ren1 pos selH AObj.ren fitAll fit fit1 fit1s matchAll matchOb exIds AObj.excl Env.killp pastH setAll upId AObj.past AObj.back AV.killp AV.killp1 AV.killp2 Nat.sub_self Nat.lt_irrefl Bool.or_self vcOps vcOp vcQs vcQ dstOk quiet eff pcall plain valsOf ev ofConst argEnv List.lookup Nat.add_eq decide_true decide_false Env.put binV wrapTo unV convV loadQ indexQ callQ builtinQ rd partAV isAggD isArrayD addrAdd boxE storeE makeE buildSliceE buildFold appendE sliceE boundAV subObj asCells Value.oneCell' contZero Cont.sets Cont.app Cont.sub Cont.len Cont.esz Cont.cell Cont.cells Cont.flat AV.det AV.det1 guardV AObj.unview AObj.kill Env.kill AV.kill AV.kill1 AV.kill2 fits64 Option.getD_some Option.getD_none Option.map_some Option.map_none Option.bind_some List.map_cons List.map_nil List.getElem?_cons_zero List.getElem?_cons_succ List.getElem?_nil true_and and_true List.getElem?_toArray List.cons_append List.nil_append List.length_cons List.length_nil List.set_cons_zero List.set_cons_succ List.take_succ_cons List.take_zero List.drop_succ_cons List.drop_zero List.drop_nil List.take_nil List.contains_cons List.contains_nil List.elem_cons List.elem_nil Bool.not_true Bool.not_false Bool.false_eq_true Bool.or_false Bool.or_true Bool.and_true Bool.and_false Bool.true_and Bool.false_and List.all_cons List.all_nil List.size_toArray Nat.lt_add_one Nat.zero_lt_succ Nat.one_ne_zero Nat.zero_ne_one and_self List.replicate_succ List.replicate_zero Int.toNat_natCast Int.toNat_zero Value.cells false_implies true_implies forall_const Thn InBlk Nat.zero_add Nat.add_zero Int.zero_add Ele Env.ren Option.some.injEq AV.v.injEq AV.sl.injEq AV.pp.injEq AV.ep.injEq AV.agg.injEq List.cons.injEq Value.int.injEq Value.bool.injEq Value.string.injEq true_or or_true or_false false_or tsz0 tby0 tz0 Try.underlying0 tsz1 tby1 tz1 Try.underlying1 tsz2 tby2 tz2 Try.underlying2 tsz3 tby3 tz3 Try.underlying3 tsz4 tby4 tz4 Try.underlying4 tsz5 tby5 tz5 Try.underlying5 tsz6 tby6 tz6 Try.underlying6 tsz7 tby7 tz7 Try.underlying7 fo7_0 fo7_1 fo7_2 fo7_3 tsz8 tby8 tz8 Try.underlying8 fo8_0 fo8_1 fo8_2 fo8_3 tsz9 tby9 Try.underlying9 tsz10 tby10 Try.underlying10 tsz11 tby11 Try.underlying11 tsz12 tby12 tz12 Try.underlying12 tsz13 tby13 Try.underlying13 fo13_0 fo13_1 tsz14 tby14 Try.underlying14 fo14_0 fo14_1 tsz15 tby15 tz15 Try.underlying15 tsz16 tby16 tz16 Try.underlying16 tsz17 tby17 tz17 Try.underlying17 tsz18 tby18 tz18 Try.underlying18 fo18_0 tsz19 tby19 tz19 Try.underlying19 fo19_0 tsz20 tby20 tz20 Try.underlying20 tsz21 tby21 tz21 Try.underlying21 tsz22 tby22 tz22 Try.underlying22 tsz23 tby23 tz23 Try.underlying23 tsz24 tby24 tz24 Try.underlying24 tsz25 tby25 tz25 Try.underlying25 tsz26 tby26 tz26 Try.underlying26 tsz27 tby27 tz27 Try.underlying27 tsz28 tby28 tz28 Try.underlying28 tsz29 tby29 tz29 Try.underlying29 tsz30 tby30 tz30 Try.underlying30 tsz31 tby31 tz31 Try.underlying31 tsz32 tby32 tz32 Try.underlying32 tsz33 tby33 tz33 Try.underlying33 tsz34 tby34 tz34 Try.underlying34 tsz35 tby35 tz35 Try.underlying35 tsz36 tby36 tz36 Try.underlying36 tsz37 tby37 tz37 Try.underlying37 fo37_0 fo37_1 tsz38 tby38 tz38 Try.underlying38 fo38_0 fo38_1 tsz39 tby39 tz39 Try.underlying39 tsz40 tby40 tz40 Try.underlying40 tsz41 tby41 tz41 Try.underlying41 tsz42 tby42 tz42 Try.underlying42 tsz43 tby43 tz43 Try.underlying43 fo43_0 fo43_1 tsz44 tby44 tz44 Try.underlying44 fo44_0 fo44_1 tsz45 tby45 tz45 Try.underlying45 tsz46 tby46 tz46 Try.underlying46 tsz47 tby47 tz47 Try.underlying47 tsz48 tby48 tz48 Try.underlying48 tsz49 tby49 tz49 Try.underlying49 tsz50 tby50 tz50 Try.underlying50 tsz51 tby51 tz51 Try.underlying51 tsz52 tby52 tz52 Try.underlying52 tsz53 tby53 tz53 Try.underlying53 tsz54 tby54 tz54 Try.underlying54 tsz55 tby55 tz55 Try.underlying55 tsz56 tby56 tz56 Try.underlying56 tsz57 tby57 tz57 Try.underlying57 tsz58 tby58 tz58 Try.underlying58 tsz59 tby59 tz59 Try.underlying59 tsz60 tby60 tz60 Try.underlying60 tsz61 tby61 tz61 Try.underlying61 tsz62 tby62 tz62 Try.underlying62 tsz63 tby63 tz63 Try.underlying63 tsz64 tby64 tz64 Try.underlying64 tsz65 tby65 tz65 Try.underlying65 tsz66 tby66 tz66 Try.underlying66 tsz67 tby67 tz67 Try.underlying67 tsz68 tby68 tz68 Try.underlying68 tsz69 tby69 tz69 Try.underlying69 tsz70 tby70 tz70 Try.underlying70 fo70_0 fo70_1 fo70_2 tsz71 tby71 tz71 Try.underlying71 fo71_0 fo71_1 fo71_2 tsz72 tby72 tz72 Try.underlying72 tsz73 tby73 tz73 Try.underlying73 tsz74 tby74 tz74 Try.underlying74 tsz75 tby75 tz75 Try.underlying75 tsz76 tby76 tz76 Try.underlying76 tsz77 tby77 tz77 Try.underlying77 tsz78 tby78 tz78 Try.underlying78 tsz79 tby79 tz79 Try.underlying79 tsz80 tby80 tz80 Try.underlying80 tsz81 tby81 tz81 Try.underlying81 tsz82 tby82 tz82 Try.underlying82 tsz83 tby83 tz83 Try.underlying83 tsz84 tby84 tz84 Try.underlying84 tsz85 tby85 tz85 Try.underlying85 tsz86 tby86 tz86 Try.underlying86 tsz87 tby87 tz87 Try.underlying87 tsz88 tby88 tz88 Try.underlying88 fo88_0 fo88_1 tsz89 tby89 tz89 Try.underlying89 fo89_0 fo89_1 tsz90 tby90 tz90 Try.underlying90 tsz91 tby91 tz91 Try.underlying91 tsz92 tby92 tz92 Try.underlying92 fo92_0 fo92_1 fo92_2 tsz93 tby93 tz93 Try.underlying93 tsz94 tby94 tz94 Try.underlying94 tsz95 tby95 tz95 Try.underlying95 tsz96 tby96 tz96 Try.underlying96 tsz97 tby97 tz97 Try.underlying97 tsz98 tby98 tz98 Try.underlying98 tsz99 tby99 tz99 Try.underlying99 tsz100 tby100 tz100 Try.underlying100 tsz101 tby101 tz101 Try.underlying101 tsz102 tby102 tz102 Try.underlying102 tsz103 tby103 tz103 Try.underlying103 tsz104 tby104 Try.underlying104 fo104_0 fo104_1 fo104_2 fo104_3 tsz105 tby105 Try.underlying105 fo105_0 fo105_1 fo105_2 fo105_3 tsz106 tby106 tz106 Try.underlying106 tsz107 tby107 tz107 Try.underlying107 tsz108 tby108 tz108 Try.underlying108 tsz109 tby109 tz109 Try.underlying109 tsz110 tby110 tz110 Try.underlying110 tsz111 tby111 tz111 Try.underlying111 tsz112 tby112 tz112 Try.underlying112 tsz113 tby113 tz113 Try.underlying113 tsz114 tby114 tz114 Try.underlying114 tsz115 tby115 tz115 Try.underlying115 tsz116 tby116 tz116 Try.underlying116 fo116_0 fo116_1 fo116_2 fo116_3 fo116_4 fo116_5 fo116_6 fo116_7 fo116_8 fo116_9 fo116_10 tsz117 tby117 tz117 Try.underlying117 fo117_0 fo117_1 fo117_2 fo117_3 fo117_4 fo117_5 fo117_6 fo117_7 fo117_8 fo117_9 fo117_10 tsz118 tby118 tz118 Try.underlying118 l1InG eqEdgeG l4BeforeG isNaNG cmpIntG cmpEndsG toEdgeG ftC
theorem k_laws_FnExactCutWeight (a0_0 : Int) (a0_1 : List (Int × Int × Int)) (a1 : List Bool) {r : Bool} (h : laws_FnExactCutWeight a0_0 a0_1 a1 = some r) :
    FnA Try.prog 6 [.agg [.v (.int .i64 a0_0), .sl 0], .sl 1] [.row false (.trips a0_1), .row false (.bools a1)] [] (fun x H => x = .v (.bool r) ∧ H = [.row false (.trips a0_1), .row false (.bools a1)]) := by
  unfold laws_FnExactCutWeight at h
  refine FnA.of (N := 43) (pin := [0, 1]) (rs := [.tmp 4]) Try.func6 rfl en6 rfl rfl (by simp) (by simp; try omega) ?_
  refine awp_reg ftCOk [(1, .sl 1), (2, .pp 2 0)] [.row false (.trips a0_1), .row false (.bools a1), .box [.v (.int .i64 a0_0), .sl 0]] ?_
  refine awp_freeze 2 (by rfl) (by rfl) (by exact rfl) ?_
  refine awp_seq fun K2 hK2 => ?_
  refine awp_reg ftCOk [(1, .sl 1), (2, .pp 2 0), (12, .v (.bool (decide (1048576 < (a1.length : Int)))))] [.row false (.trips a0_1), .row false (.bools a1), .rbox [.v (.int .i64 a0_0), .sl 0]] ?_
  refine awp_cond (t := 12) rfl (fun hc3 => ?_) (fun hc3 => ?_)
  · replace h := bite_t h hc3
    refine awp_reg ftCOk [(4, .v (.bool true))] [.row false (.trips a0_1), .row false (.bools a1), .rbox [.v (.int .i64 a0_0), .sl 0]] ?_
    refine awp_ret ?_
    (try simp only [Thn, InBlk, ↓reduceIte, Nat.reduceEqDiff])
    obtain rfl := Option.some.inj h
    refine ⟨by simp, _, [0, 1], (by simp only [go_sem, Nat.reduceBEq, Nat.reduceLT, Nat.reduceAdd, Nat.reduceLeDiff, Nat.reduceSub, Nat.reduceEqDiff, Int.reduceToNat, reduceCtorEq, ↓reduceIte]; exact rfl), ?_, ?_, ?_, ?_⟩
    · first | exact trivial | exact ⟨trivial, trivial⟩ | exact ⟨trivial, trivial, trivial⟩ | exact ⟨trivial, trivial, trivial, trivial⟩ | (simp only [allP, and_true, true_and]; done) | (simp only [allP, and_true, true_and]; omega)
    · simp [selOk, pos]
    · simp
    · first | exact ⟨rfl, rfl⟩ | (simp only [go_sem, Nat.reduceBEq, Nat.reduceLT, Nat.reduceAdd, Nat.reduceLeDiff, Nat.reduceSub, Nat.reduceEqDiff, Int.reduceToNat, reduceCtorEq, ↓reduceIte]; done) | (simp [go_sem, Nat.reduceBEq, Nat.reduceLT, Nat.reduceAdd, Nat.reduceLeDiff, Nat.reduceSub, Nat.reduceEqDiff, Int.reduceToNat, reduceCtorEq, ↓reduceIte]; done) | (simp only [go_sem, Nat.reduceBEq, Nat.reduceLT, Nat.reduceAdd, Nat.reduceLeDiff, Nat.reduceSub, Nat.reduceEqDiff, Int.reduceToNat, reduceCtorEq, ↓reduceIte]; exact ⟨rfl, rfl⟩) | (simp_all [go_sem, Nat.reduceBEq, Nat.reduceLT, Nat.reduceAdd, Nat.reduceLeDiff, Nat.reduceSub, Nat.reduceEqDiff, Int.reduceToNat, reduceCtorEq, ↓reduceIte]; done)
  · replace h := bite_f h hc3
    refine awp_skip ?_
    (try simp only [Thn, InBlk, ↓reduceIte, Nat.reduceEqDiff])
    refine hK2 _ _ ?_
    clear hK2
    refine awp_reg ftCOk [(1, .sl 1), (2, .pp 2 0), (5, .v (.int .i64 1048576))] [.row false (.trips a0_1), .row false (.bools a1), .rbox [.v (.int .i64 a0_0), .sl 0]] ?_
    replace h := bind_some h
    obtain ⟨y, hr0, h⟩ := h
    try dsimp only at h
    refine awp_to [(1, .sl 1), (2, .pp 2 0), (5, .v (.int .i64 y))] [.row false (.trips a0_1), .row false (.bools a1), .rbox [.v (.int .i64 a0_0), .sl 0]] ?_ ?_
    · clear h
      intro K hK
      refine awp_region ftCOk ?_
      simp (maxSteps := 4000000) only [go_sem, Nat.reduceBEq, Nat.reduceLT, Nat.reduceAdd, Nat.reduceLeDiff, Nat.reduceSub, Nat.reduceEqDiff, Int.reduceToNat, reduceCtorEq, ↓reduceIte]
      repeat' (first | refine And.intro ?_ ?_ | intro hg)
      all_goals (try simp (disch := omega) only [wrap_fits])
      all_goals first
        | (refine hK _ _ ?_; exact Red.auto)
        | exact trivial
        | assumption
        | omega
        | exact wrap_fits (by omega) (by omega)
        | (refine wpA_callA (k_laws_szGraph a0_0 a0_1 1048576 (h := hr0)) [0] [] ?_
           rintro x Hc' ⟨rfl, rfl⟩ hlen
           refine vcOps_sound ftCOk ?_
           simp (maxSteps := 4000000) only [go_sem, Nat.reduceBEq, Nat.reduceLT, Nat.reduceAdd, Nat.reduceLeDiff, Nat.reduceSub, Nat.reduceEqDiff, Int.reduceToNat, reduceCtorEq, ↓reduceIte]
           repeat' (first | refine And.intro ?_ ?_ | intro hg)
           all_goals (try simp (disch := omega) only [wrap_fits])
           all_goals first
             | (refine hK _ _ ?_; exact Red.auto)
             | exact trivial
             | assumption
             | omega
             | exact wrap_fits (by omega) (by omega)
             | (simp_all; done)
             | (simp_all; omega))
        | (simp_all; done)
        | (simp_all; omega)
    · clear hr0
      refine awp_seq fun K5 hK5 => ?_
      refine awp_reg ftCOk [(1, .sl 1), (2, .pp 2 0), (17, .v (.bool (decide (y < 0))))] [.row false (.trips a0_1), .row false (.bools a1), .rbox [.v (.int .i64 a0_0), .sl 0]] ?_
      refine awp_cond (t := 17) rfl (fun hc6 => ?_) (fun hc6 => ?_)
      · replace h := bite_t h hc6
        refine awp_reg ftCOk [(4, .v (.bool true))] [.row false (.trips a0_1), .row false (.bools a1), .rbox [.v (.int .i64 a0_0), .sl 0]] ?_
        refine awp_ret ?_
        (try simp only [Thn, InBlk, ↓reduceIte, Nat.reduceEqDiff])
        obtain rfl := Option.some.inj h
        refine ⟨by simp, _, [0, 1], (by simp only [go_sem, Nat.reduceBEq, Nat.reduceLT, Nat.reduceAdd, Nat.reduceLeDiff, Nat.reduceSub, Nat.reduceEqDiff, Int.reduceToNat, reduceCtorEq, ↓reduceIte]; exact rfl), ?_, ?_, ?_, ?_⟩
        · first | exact trivial | exact ⟨trivial, trivial⟩ | exact ⟨trivial, trivial, trivial⟩ | exact ⟨trivial, trivial, trivial, trivial⟩ | (simp only [allP, and_true, true_and]; done) | (simp only [allP, and_true, true_and]; omega)
        · simp [selOk, pos]
        · simp
        · first | exact ⟨rfl, rfl⟩ | (simp only [go_sem, Nat.reduceBEq, Nat.reduceLT, Nat.reduceAdd, Nat.reduceLeDiff, Nat.reduceSub, Nat.reduceEqDiff, Int.reduceToNat, reduceCtorEq, ↓reduceIte]; done) | (simp [go_sem, Nat.reduceBEq, Nat.reduceLT, Nat.reduceAdd, Nat.reduceLeDiff, Nat.reduceSub, Nat.reduceEqDiff, Int.reduceToNat, reduceCtorEq, ↓reduceIte]; done) | (simp only [go_sem, Nat.reduceBEq, Nat.reduceLT, Nat.reduceAdd, Nat.reduceLeDiff, Nat.reduceSub, Nat.reduceEqDiff, Int.reduceToNat, reduceCtorEq, ↓reduceIte]; exact ⟨rfl, rfl⟩) | (simp_all [go_sem, Nat.reduceBEq, Nat.reduceLT, Nat.reduceAdd, Nat.reduceLeDiff, Nat.reduceSub, Nat.reduceEqDiff, Int.reduceToNat, reduceCtorEq, ↓reduceIte]; done)
      · replace h := bite_f h hc6
        refine awp_skip ?_
        (try simp only [Thn, InBlk, ↓reduceIte, Nat.reduceEqDiff])
        refine hK5 _ _ ?_
        clear hK5
        replace h := bind_some h
        obtain ⟨⟨y_1, y_2⟩, hr0, h⟩ := h
        try dsimp only at h
        replace h := bind_some h
        obtain ⟨y_3, hr1, h⟩ := h
        try dsimp only at h
        replace h := bind_some h
        obtain ⟨y_4, hr2, h⟩ := h
        try dsimp only at h
        refine awp_to [(1, .sl 1), (2, .pp 2 0), (6, .v (.int .i64 y_4))] [.row false (.trips a0_1), .row false (.bools a1), .rbox [.v (.int .i64 a0_0), .sl 0], .row true (.trips y_2), .row true (.bools y_3)] ?_ ?_
        · clear h
          intro K hK
          refine awp_region ftCOk ?_
          simp (maxSteps := 4000000) only [go_sem, Nat.reduceBEq, Nat.reduceLT, Nat.reduceAdd, Nat.reduceLeDiff, Nat.reduceSub, Nat.reduceEqDiff, Int.reduceToNat, reduceCtorEq, ↓reduceIte]
          repeat' (first | refine And.intro ?_ ?_ | intro hg)
          all_goals (try simp (disch := omega) only [wrap_fits])
          all_goals first
            | (refine hK _ _ ?_; exact Red.auto)
            | exact trivial
            | assumption
            | omega
            | exact wrap_fits (by omega) (by omega)
            | (refine wpA_callA (k_laws_toGraph a0_0 a0_1 (h := hr0)) [0] [] ?_
               rintro x Hc' ⟨rfl, rfl⟩ hlen
               refine vcOps_sound ftCOk ?_
               simp (maxSteps := 4000000) only [go_sem, Nat.reduceBEq, Nat.reduceLT, Nat.reduceAdd, Nat.reduceLeDiff, Nat.reduceSub, Nat.reduceEqDiff, Int.reduceToNat, reduceCtorEq, ↓reduceIte]
               repeat' (first | refine And.intro ?_ ?_ | intro hg)
               all_goals (try simp (disch := omega) only [wrap_fits])
               all_goals first
                 | (refine hK _ _ ?_; exact Red.auto)
                 | exact trivial
                 | assumption
                 | omega
                 | exact wrap_fits (by omega) (by omega)
                 | (refine wpA_callA (k_laws_toBoolS a1 (h := hr1)) [1] [] ?_
                    rintro x Hc' ⟨rfl, rfl⟩ hlen
                    refine vcOps_sound ftCOk ?_
                    simp (maxSteps := 4000000) only [go_sem, Nat.reduceBEq, Nat.reduceLT, Nat.reduceAdd, Nat.reduceLeDiff, Nat.reduceSub, Nat.reduceEqDiff, Int.reduceToNat, reduceCtorEq, ↓reduceIte]
                    repeat' (first | refine And.intro ?_ ?_ | intro hg)
                    all_goals (try simp (disch := omega) only [wrap_fits])
                    all_goals first
                      | (refine hK _ _ ?_; exact Red.auto)
                      | exact trivial
                      | assumption
                      | omega
                      | exact wrap_fits (by omega) (by omega)
                      | (refine wpA_callA (k_spec_CutWeight y_1 y_2 y_3 (h := hr2)) [3, 4] [] ?_
                         rintro x Hc' ⟨rfl, rfl⟩ hlen
                         refine vcOps_sound ftCOk ?_
                         simp (maxSteps := 4000000) only [go_sem, Nat.reduceBEq, Nat.reduceLT, Nat.reduceAdd, Nat.reduceLeDiff, Nat.reduceSub, Nat.reduceEqDiff, Int.reduceToNat, reduceCtorEq, ↓reduceIte]
                         repeat' (first | refine And.intro ?_ ?_ | intro hg)
                         all_goals (try simp (disch := omega) only [wrap_fits])
                         all_goals first
                           | (refine hK _ _ ?_; exact Red.auto)
                           | exact trivial
                           | assumption
                           | omega
                           | exact wrap_fits (by omega) (by omega)
                           | (simp_all; done)
                           | (simp_all; omega))
                      | (simp_all; done)
                      | (simp_all; omega))
                 | (simp_all; done)
                 | (simp_all; omega))
            | (simp_all; done)
            | (simp_all; omega)
        · clear hr0 hr1 hr2
          replace h := bind_some h
          obtain ⟨⟨y_5, y_6⟩, hr0, h⟩ := h
          try dsimp only at h
          refine awp_to [(1, .sl 1), (2, .pp 2 0), (6, .v (.int .i64 y_4)), (7, .pp 6 0)] [.row false (.trips a0_1), .row false (.bools a1), .rbox [.v (.int .i64 a0_0), .sl 0], .row true (.trips y_2), .row true (.bools y_3), .row true (.trips y_6), .box [.v (.int .i64 y_5), .sl 5]] ?_ ?_
          · clear h
            intro K hK
            refine awp_region ftCOk ?_
            simp (maxSteps := 4000000) only [go_sem, Nat.reduceBEq, Nat.reduceLT, Nat.reduceAdd, Nat.reduceLeDiff, Nat.reduceSub, Nat.reduceEqDiff, Int.reduceToNat, reduceCtorEq, ↓reduceIte]
            repeat' (first | refine And.intro ?_ ?_ | intro hg)
            all_goals (try simp (disch := omega) only [wrap_fits])
            all_goals first
              | (refine hK _ _ ?_; exact Red.auto)
              | exact trivial
              | assumption
              | omega
              | exact wrap_fits (by omega) (by omega)
              | (refine wpA_callA (k_laws_toGraph a0_0 a0_1 (h := hr0)) [0] [] ?_
                 rintro x Hc' ⟨rfl, rfl⟩ hlen
                 refine vcOps_sound ftCOk ?_
                 simp (maxSteps := 4000000) only [go_sem, Nat.reduceBEq, Nat.reduceLT, Nat.reduceAdd, Nat.reduceLeDiff, Nat.reduceSub, Nat.reduceEqDiff, Int.reduceToNat, reduceCtorEq, ↓reduceIte]
                 repeat' (first | refine And.intro ?_ ?_ | intro hg)
                 all_goals (try simp (disch := omega) only [wrap_fits])
                 all_goals first
                   | (refine hK _ _ ?_; exact Red.auto)
                   | exact trivial
                   | assumption
                   | omega
                   | exact wrap_fits (by omega) (by omega)
                   | (simp_all; done)
                   | (simp_all; omega))
              | (simp_all; done)
              | (simp_all; omega)
          · clear hr0
            replace h := bind_some h
            obtain ⟨y_7, hr0, h⟩ := h
            try dsimp only at h
            refine awp_to [(1, .sl 1), (2, .pp 2 0), (6, .v (.int .i64 y_4)), (7, .pp 6 0), (8, .sl 7)] [.row false (.trips a0_1), .row false (.bools a1), .rbox [.v (.int .i64 a0_0), .sl 0], .row true (.trips y_2), .row true (.bools y_3), .row true (.trips y_6), .box [.v (.int .i64 y_5), .sl 5], .row true (.bools y_7)] ?_ ?_
            · clear h
              intro K hK
              refine awp_region ftCOk ?_
              simp (maxSteps := 4000000) only [go_sem, Nat.reduceBEq, Nat.reduceLT, Nat.reduceAdd, Nat.reduceLeDiff, Nat.reduceSub, Nat.reduceEqDiff, Int.reduceToNat, reduceCtorEq, ↓reduceIte]
              repeat' (first | refine And.intro ?_ ?_ | intro hg)
              all_goals (try simp (disch := omega) only [wrap_fits])
              all_goals first
                | (refine hK _ _ ?_; exact Red.auto)
                | exact trivial
                | assumption
                | omega
                | exact wrap_fits (by omega) (by omega)
                | (refine wpA_callA (k_laws_toBoolS a1 (h := hr0)) [1] [] ?_
                   rintro x Hc' ⟨rfl, rfl⟩ hlen
                   refine vcOps_sound ftCOk ?_
                   simp (maxSteps := 4000000) only [go_sem, Nat.reduceBEq, Nat.reduceLT, Nat.reduceAdd, Nat.reduceLeDiff, Nat.reduceSub, Nat.reduceEqDiff, Int.reduceToNat, reduceCtorEq, ↓reduceIte]
                   repeat' (first | refine And.intro ?_ ?_ | intro hg)
                   all_goals (try simp (disch := omega) only [wrap_fits])
                   all_goals first
                     | (refine hK _ _ ?_; exact Red.auto)
                     | exact trivial
                     | assumption
                     | omega
                     | exact wrap_fits (by omega) (by omega)
                     | (simp_all; done)
                     | (simp_all; omega))
                | (simp_all; done)
                | (simp_all; omega)
            · clear hr0
              replace h := bind_some h
              obtain ⟨y_8, hr0, h⟩ := h
              try dsimp only at h
              refine awp_to [(1, .sl 1), (2, .pp 2 0), (6, .v (.int .i64 y_4)), (7, .pp 6 0), (8, .sl 7), (9, .v (.int .i64 y_8))] [.row false (.trips a0_1), .row false (.bools a1), .rbox [.v (.int .i64 a0_0), .sl 0], .row true (.trips y_2), .row true (.bools y_3), .row true (.trips y_6), .box [.v (.int .i64 y_5), .sl 5], .row true (.bools y_7)] ?_ ?_
              · clear h
                intro K hK
                refine awp_region ftCOk ?_
                simp (maxSteps := 4000000) only [go_sem, Nat.reduceBEq, Nat.reduceLT, Nat.reduceAdd, Nat.reduceLeDiff, Nat.reduceSub, Nat.reduceEqDiff, Int.reduceToNat, reduceCtorEq, ↓reduceIte]
                repeat' (first | refine And.intro ?_ ?_ | intro hg)
                all_goals (try simp (disch := omega) only [wrap_fits])
                all_goals first
                  | (refine hK _ _ ?_; exact Red.auto)
                  | exact trivial
                  | assumption
                  | omega
                  | exact wrap_fits (by omega) (by omega)
                  | (refine wpA_callA (k_impl_CutWeight y_5 y_6 y_7 (h := hr0)) [5, 7] [] ?_
                     rintro x Hc' ⟨rfl, rfl⟩ hlen
                     refine vcOps_sound ftCOk ?_
                     simp (maxSteps := 4000000) only [go_sem, Nat.reduceBEq, Nat.reduceLT, Nat.reduceAdd, Nat.reduceLeDiff, Nat.reduceSub, Nat.reduceEqDiff, Int.reduceToNat, reduceCtorEq, ↓reduceIte]
                     repeat' (first | refine And.intro ?_ ?_ | intro hg)
                     all_goals (try simp (disch := omega) only [wrap_fits])
                     all_goals first
                       | (refine hK _ _ ?_; exact Red.auto)
                       | exact trivial
                       | assumption
                       | omega
                       | exact wrap_fits (by omega) (by omega)
                       | (simp_all; done)
                       | (simp_all; omega))
                  | (simp_all; done)
                  | (simp_all; omega)
              · clear hr0
                refine awp_seq fun K8 hK8 => ?_
                refine awp_reg ftCOk [(1, .sl 1), (2, .pp 2 0), (7, .pp 6 0), (8, .sl 7), (32, .v (.bool (y_8 != y_4)))] [.row false (.trips a0_1), .row false (.bools a1), .rbox [.v (.int .i64 a0_0), .sl 0], .row true (.trips y_2), .row true (.bools y_3), .row true (.trips y_6), .box [.v (.int .i64 y_5), .sl 5], .row true (.bools y_7)] ?_
                refine awp_cond (t := 32) rfl (fun hc9 => ?_) (fun hc9 => ?_)
                · replace h := bite_t h hc9
                  refine awp_reg ftCOk [(4, .v (.bool false))] [.row false (.trips a0_1), .row false (.bools a1), .rbox [.v (.int .i64 a0_0), .sl 0], .row true (.trips y_2), .row true (.bools y_3), .row true (.trips y_6), .box [.v (.int .i64 y_5), .sl 5], .row true (.bools y_7)] ?_
                  refine awp_ret ?_
                  (try simp only [Thn, InBlk, ↓reduceIte, Nat.reduceEqDiff])
                  obtain rfl := Option.some.inj h
                  refine ⟨by simp, _, [0, 1], (by simp only [go_sem, Nat.reduceBEq, Nat.reduceLT, Nat.reduceAdd, Nat.reduceLeDiff, Nat.reduceSub, Nat.reduceEqDiff, Int.reduceToNat, reduceCtorEq, ↓reduceIte]; exact rfl), ?_, ?_, ?_, ?_⟩
                  · first | exact trivial | exact ⟨trivial, trivial⟩ | exact ⟨trivial, trivial, trivial⟩ | exact ⟨trivial, trivial, trivial, trivial⟩ | (simp only [allP, and_true, true_and]; done) | (simp only [allP, and_true, true_and]; omega)
                  · simp [selOk, pos]
                  · simp
                  · first | exact ⟨rfl, rfl⟩ | (simp only [go_sem, Nat.reduceBEq, Nat.reduceLT, Nat.reduceAdd, Nat.reduceLeDiff, Nat.reduceSub, Nat.reduceEqDiff, Int.reduceToNat, reduceCtorEq, ↓reduceIte]; done) | (simp [go_sem, Nat.reduceBEq, Nat.reduceLT, Nat.reduceAdd, Nat.reduceLeDiff, Nat.reduceSub, Nat.reduceEqDiff, Int.reduceToNat, reduceCtorEq, ↓reduceIte]; done) | (simp only [go_sem, Nat.reduceBEq, Nat.reduceLT, Nat.reduceAdd, Nat.reduceLeDiff, Nat.reduceSub, Nat.reduceEqDiff, Int.reduceToNat, reduceCtorEq, ↓reduceIte]; exact ⟨rfl, rfl⟩) | (simp_all [go_sem, Nat.reduceBEq, Nat.reduceLT, Nat.reduceAdd, Nat.reduceLeDiff, Nat.reduceSub, Nat.reduceEqDiff, Int.reduceToNat, reduceCtorEq, ↓reduceIte]; done)
                · replace h := bite_f h hc9
                  refine awp_skip ?_
                  (try simp only [Thn, InBlk, ↓reduceIte, Nat.reduceEqDiff])
                  refine hK8 _ _ ?_
                  clear hK8
                  refine awp_seq fun K11 hK11 => ?_
                  replace h := bind_some h
                  obtain ⟨⟨y_9, y_10⟩, hr0, h⟩ := h
                  try dsimp only at h
                  replace h := bind_some h
                  obtain ⟨y_11, hr1, h⟩ := h
                  try dsimp only at h
                  refine awp_to [(1, .sl 1), (8, .sl 7), (37, .v (.bool (!y_11)))] [.row false (.trips a0_1), .row false (.bools a1), .rbox [.v (.int .i64 a0_0), .sl 0], .row true (.trips y_2), .row true (.bools y_3), .row true (.trips y_6), .box [.v (.int .i64 y_5), .sl 5], .row true (.bools y_7), .row true (.trips y_10)] ?_ ?_
                  · clear h
                    intro K hK
                    refine awp_drawT mixed ftCOk (.free 1 (.two 0 2 (.one 2 (.one 3 (.one 4 .fin))) (.one 0 (.one 3 (.one 4 .fin))))) (by kernel_rfl) (by simp) ?_
                    simp (maxSteps := 4000000) only [go_sem, Nat.reduceBEq, Nat.reduceLT, Nat.reduceAdd, Nat.reduceLeDiff, Nat.reduceSub, Nat.reduceEqDiff, Int.reduceToNat, reduceCtorEq, ↓reduceIte]
                    repeat' (first | refine And.intro ?_ ?_ | intro hg)
                    all_goals (try simp (disch := omega) only [wrap_fits])
                    all_goals first
                      | (refine hK _ _ ?_; exact Red.auto)
                      | exact trivial
                      | assumption
                      | omega
                      | exact wrap_fits (by omega) (by omega)
                      | (refine OpK_callA (k_laws_toGraph a0_0 a0_1 (h := hr0)) [0] [] ?_
                         rintro x Hc' ⟨rfl, rfl⟩ hlen
                         simp (maxSteps := 4000000) only [go_sem, Nat.reduceBEq, Nat.reduceLT, Nat.reduceAdd, Nat.reduceLeDiff, Nat.reduceSub, Nat.reduceEqDiff, Int.reduceToNat, reduceCtorEq, ↓reduceIte]
                         repeat' (first | refine And.intro ?_ ?_ | intro hg)
                         all_goals (try simp (disch := omega) only [wrap_fits])
                         all_goals first
                           | (refine hK _ _ ?_; exact Red.auto)
                           | exact trivial
                           | assumption
                           | omega
                           | exact wrap_fits (by omega) (by omega)
                           | (refine OpK_callA (k_laws_eqGraph y_5 y_6 y_9 y_10 (h := hr1)) [5, 8] [] ?_
                              rintro x Hc' ⟨rfl, rfl⟩ hlen
                              simp (maxSteps := 4000000) only [go_sem, Nat.reduceBEq, Nat.reduceLT, Nat.reduceAdd, Nat.reduceLeDiff, Nat.reduceSub, Nat.reduceEqDiff, Int.reduceToNat, reduceCtorEq, ↓reduceIte]
                              repeat' (first | refine And.intro ?_ ?_ | intro hg)
                              all_goals (try simp (disch := omega) only [wrap_fits])
                              all_goals first
                                | (refine hK _ _ ?_; exact Red.auto)
                                | exact trivial
                                | assumption
                                | omega
                                | exact wrap_fits (by omega) (by omega)
                                | (simp_all; done)
                                | (simp_all; omega))
                           | (simp_all; done)
                           | (simp_all; omega))
                      | (simp_all; done)
                      | (simp_all; omega)
                  · clear hr0 hr1
                    refine awp_cond (t := 37) rfl (fun hc12 => ?_) (fun hc12 => ?_)
                    · replace h := bite_t h hc12
                      refine awp_reg ftCOk [(4, .v (.bool false))] [.row false (.trips a0_1), .row false (.bools a1), .rbox [.v (.int .i64 a0_0), .sl 0], .row true (.trips y_2), .row true (.bools y_3), .row true (.trips y_6), .box [.v (.int .i64 y_5), .sl 5], .row true (.bools y_7), .row true (.trips y_10)] ?_
                      refine awp_ret ?_
                      (try simp only [Thn, InBlk, ↓reduceIte, Nat.reduceEqDiff])
                      obtain rfl := Option.some.inj h
                      refine ⟨by simp, _, [0, 1], (by simp only [go_sem, Nat.reduceBEq, Nat.reduceLT, Nat.reduceAdd, Nat.reduceLeDiff, Nat.reduceSub, Nat.reduceEqDiff, Int.reduceToNat, reduceCtorEq, ↓reduceIte]; exact rfl), ?_, ?_, ?_, ?_⟩
                      · first | exact trivial | exact ⟨trivial, trivial⟩ | exact ⟨trivial, trivial, trivial⟩ | exact ⟨trivial, trivial, trivial, trivial⟩ | (simp only [allP, and_true, true_and]; done) | (simp only [allP, and_true, true_and]; omega)
                      · simp [selOk, pos]
                      · simp
                      · first | exact ⟨rfl, rfl⟩ | (simp only [go_sem, Nat.reduceBEq, Nat.reduceLT, Nat.reduceAdd, Nat.reduceLeDiff, Nat.reduceSub, Nat.reduceEqDiff, Int.reduceToNat, reduceCtorEq, ↓reduceIte]; done) | (simp [go_sem, Nat.reduceBEq, Nat.reduceLT, Nat.reduceAdd, Nat.reduceLeDiff, Nat.reduceSub, Nat.reduceEqDiff, Int.reduceToNat, reduceCtorEq, ↓reduceIte]; done) | (simp only [go_sem, Nat.reduceBEq, Nat.reduceLT, Nat.reduceAdd, Nat.reduceLeDiff, Nat.reduceSub, Nat.reduceEqDiff, Int.reduceToNat, reduceCtorEq, ↓reduceIte]; exact ⟨rfl, rfl⟩) | (simp_all [go_sem, Nat.reduceBEq, Nat.reduceLT, Nat.reduceAdd, Nat.reduceLeDiff, Nat.reduceSub, Nat.reduceEqDiff, Int.reduceToNat, reduceCtorEq, ↓reduceIte]; done)
                    · replace h := bite_f h hc12
                      refine awp_skip ?_
                      (try simp only [Thn, InBlk, ↓reduceIte, Nat.reduceEqDiff])
                      refine hK11 _ _ ?_
                      clear hK11
                      refine awp_seq fun K14 hK14 => ?_
                      replace h := bind_some h
                      obtain ⟨y_12, hr0, h⟩ := h
                      try dsimp only at h
                      replace h := bind_some h
                      obtain ⟨y_13, hr1, h⟩ := h
                      try dsimp only at h
                      refine awp_to [(42, .v (.bool (!y_13)))] [.row false (.trips a0_1), .row false (.bools a1), .rbox [.v (.int .i64 a0_0), .sl 0], .row true (.trips y_2), .row true (.bools y_3), .row true (.trips y_6), .box [.v (.int .i64 y_5), .sl 5], .row true (.bools y_7), .row true (.trips y_10), .row true (.bools y_12)] ?_ ?_
                      · clear h
                        intro K hK
                        refine awp_region ftCOk ?_
                        simp (maxSteps := 4000000) only [go_sem, Nat.reduceBEq, Nat.reduceLT, Nat.reduceAdd, Nat.reduceLeDiff, Nat.reduceSub, Nat.reduceEqDiff, Int.reduceToNat, reduceCtorEq, ↓reduceIte]
                        repeat' (first | refine And.intro ?_ ?_ | intro hg)
                        all_goals (try simp (disch := omega) only [wrap_fits])
                        all_goals first
                          | (refine hK _ _ ?_; exact Red.auto)
                          | exact trivial
                          | assumption
                          | omega
                          | exact wrap_fits (by omega) (by omega)
                          | (refine wpA_callA (k_laws_toBoolS a1 (h := hr0)) [1] [] ?_
                             rintro x Hc' ⟨rfl, rfl⟩ hlen
                             refine vcOps_sound ftCOk ?_
                             simp (maxSteps := 4000000) only [go_sem, Nat.reduceBEq, Nat.reduceLT, Nat.reduceAdd, Nat.reduceLeDiff, Nat.reduceSub, Nat.reduceEqDiff, Int.reduceToNat, reduceCtorEq, ↓reduceIte]
                             repeat' (first | refine And.intro ?_ ?_ | intro hg)
                             all_goals (try simp (disch := omega) only [wrap_fits])
                             all_goals first
                               | (refine hK _ _ ?_; exact Red.auto)
                               | exact trivial
                               | assumption
                               | omega
                               | exact wrap_fits (by omega) (by omega)
                               | (refine wpA_callA (k_laws_eqBoolS y_7 y_12 (h := hr1)) [7, 9] [] ?_
                                  rintro x Hc' ⟨rfl, rfl⟩ hlen
                                  refine vcOps_sound ftCOk ?_
                                  simp (maxSteps := 4000000) only [go_sem, Nat.reduceBEq, Nat.reduceLT, Nat.reduceAdd, Nat.reduceLeDiff, Nat.reduceSub, Nat.reduceEqDiff, Int.reduceToNat, reduceCtorEq, ↓reduceIte]
                                  repeat' (first | refine And.intro ?_ ?_ | intro hg)
                                  all_goals (try simp (disch := omega) only [wrap_fits])
                                  all_goals first
                                    | (refine hK _ _ ?_; exact Red.auto)
                                    | exact trivial
                                    | assumption
                                    | omega
                                    | exact wrap_fits (by omega) (by omega)
                                    | (simp_all; done)
                                    | (simp_all; omega))
                               | (simp_all; done)
                               | (simp_all; omega))
                          | (simp_all; done)
                          | (simp_all; omega)
                      · clear hr0 hr1
                        refine awp_cond (t := 42) rfl (fun hc15 => ?_) (fun hc15 => ?_)
                        · replace h := bite_t h hc15
                          refine awp_reg ftCOk [(4, .v (.bool false))] [.row false (.trips a0_1), .row false (.bools a1), .rbox [.v (.int .i64 a0_0), .sl 0], .row true (.trips y_2), .row true (.bools y_3), .row true (.trips y_6), .box [.v (.int .i64 y_5), .sl 5], .row true (.bools y_7), .row true (.trips y_10), .row true (.bools y_12)] ?_
                          refine awp_ret ?_
                          (try simp only [Thn, InBlk, ↓reduceIte, Nat.reduceEqDiff])
                          obtain rfl := Option.some.inj h
                          refine ⟨by simp, _, [0, 1], (by simp only [go_sem, Nat.reduceBEq, Nat.reduceLT, Nat.reduceAdd, Nat.reduceLeDiff, Nat.reduceSub, Nat.reduceEqDiff, Int.reduceToNat, reduceCtorEq, ↓reduceIte]; exact rfl), ?_, ?_, ?_, ?_⟩
                          · first | exact trivial | exact ⟨trivial, trivial⟩ | exact ⟨trivial, trivial, trivial⟩ | exact ⟨trivial, trivial, trivial, trivial⟩ | (simp only [allP, and_true, true_and]; done) | (simp only [allP, and_true, true_and]; omega)
                          · simp [selOk, pos]
                          · simp
                          · first | exact ⟨rfl, rfl⟩ | (simp only [go_sem, Nat.reduceBEq, Nat.reduceLT, Nat.reduceAdd, Nat.reduceLeDiff, Nat.reduceSub, Nat.reduceEqDiff, Int.reduceToNat, reduceCtorEq, ↓reduceIte]; done) | (simp [go_sem, Nat.reduceBEq, Nat.reduceLT, Nat.reduceAdd, Nat.reduceLeDiff, Nat.reduceSub, Nat.reduceEqDiff, Int.reduceToNat, reduceCtorEq, ↓reduceIte]; done) | (simp only [go_sem, Nat.reduceBEq, Nat.reduceLT, Nat.reduceAdd, Nat.reduceLeDiff, Nat.reduceSub, Nat.reduceEqDiff, Int.reduceToNat, reduceCtorEq, ↓reduceIte]; exact ⟨rfl, rfl⟩) | (simp_all [go_sem, Nat.reduceBEq, Nat.reduceLT, Nat.reduceAdd, Nat.reduceLeDiff, Nat.reduceSub, Nat.reduceEqDiff, Int.reduceToNat, reduceCtorEq, ↓reduceIte]; done)
                        · replace h := bite_f h hc15
                          refine awp_skip ?_
                          (try simp only [Thn, InBlk, ↓reduceIte, Nat.reduceEqDiff])
                          refine hK14 _ _ ?_
                          clear hK14
                          refine awp_reg ftCOk [(4, .v (.bool true))] [.row false (.trips a0_1), .row false (.bools a1), .rbox [.v (.int .i64 a0_0), .sl 0], .row true (.trips y_2), .row true (.bools y_3), .row true (.trips y_6), .box [.v (.int .i64 y_5), .sl 5], .row true (.bools y_7), .row true (.trips y_10), .row true (.bools y_12)] ?_
                          refine awp_ret ?_
                          (try simp only [Thn, InBlk, ↓reduceIte, Nat.reduceEqDiff])
                          obtain rfl := Option.some.inj h
                          refine ⟨by simp, _, [0, 1], (by simp only [go_sem, Nat.reduceBEq, Nat.reduceLT, Nat.reduceAdd, Nat.reduceLeDiff, Nat.reduceSub, Nat.reduceEqDiff, Int.reduceToNat, reduceCtorEq, ↓reduceIte]; exact rfl), ?_, ?_, ?_, ?_⟩
                          · first | exact trivial | exact ⟨trivial, trivial⟩ | exact ⟨trivial, trivial, trivial⟩ | exact ⟨trivial, trivial, trivial, trivial⟩ | (simp only [allP, and_true, true_and]; done) | (simp only [allP, and_true, true_and]; omega)
                          · simp [selOk, pos]
                          · simp
                          · first | exact ⟨rfl, rfl⟩ | (simp only [go_sem, Nat.reduceBEq, Nat.reduceLT, Nat.reduceAdd, Nat.reduceLeDiff, Nat.reduceSub, Nat.reduceEqDiff, Int.reduceToNat, reduceCtorEq, ↓reduceIte]; done) | (simp [go_sem, Nat.reduceBEq, Nat.reduceLT, Nat.reduceAdd, Nat.reduceLeDiff, Nat.reduceSub, Nat.reduceEqDiff, Int.reduceToNat, reduceCtorEq, ↓reduceIte]; done) | (simp only [go_sem, Nat.reduceBEq, Nat.reduceLT, Nat.reduceAdd, Nat.reduceLeDiff, Nat.reduceSub, Nat.reduceEqDiff, Int.reduceToNat, reduceCtorEq, ↓reduceIte]; exact ⟨rfl, rfl⟩) | (simp_all [go_sem, Nat.reduceBEq, Nat.reduceLT, Nat.reduceAdd, Nat.reduceLeDiff, Nat.reduceSub, Nat.reduceEqDiff, Int.reduceToNat, reduceCtorEq, ↓reduceIte]; done)
theorem k_spec_ColorsRight (a0_0 : Int) (a0_1 : List (Int × Int × Int)) (a1 : List Int) {r : Bool} (h : spec_ColorsRight a0_0 a0_1 a1 = some r) :
    FnA Try.prog 35 [.agg [.v (.int .i64 a0_0), .sl 0], .sl 1] [.row false (.trips a0_1), .row false (.ints .i64 a1)] [] (fun x H => x = .v (.bool r) ∧ H = [.row false (.trips a0_1), .row false (.ints .i64 a1)]) := by
  unfold spec_ColorsRight at h
  refine FnA.of (N := 54) (pin := [0, 1]) (rs := [.tmp 4]) Try.func35 rfl en35 rfl rfl (by simp) (by simp; try omega) ?_
  refine awp_reg ftCOk [(1, .sl 1), (2, .pp 2 0)] [.row false (.trips a0_1), .row false (.ints .i64 a1), .box [.v (.int .i64 a0_0), .sl 0]] ?_
  refine awp_freeze 2 (by rfl) (by rfl) (by exact rfl) ?_
  refine awp_seq fun K2 hK2 => ?_
  replace h := bind_some h
  obtain ⟨y, hr0, h⟩ := h
  try dsimp only at h
  refine awp_to [(1, .sl 1), (2, .pp 2 0), (16, .v (.bool ((!y) || ((a1.length : Int) != a0_0))))] [.row false (.trips a0_1), .row false (.ints .i64 a1), .rbox [.v (.int .i64 a0_0), .sl 0]] ?_ ?_
  · clear h
    intro K hK
    refine awp_region ftCOk ?_
    simp (maxSteps := 4000000) only [go_sem, Nat.reduceBEq, Nat.reduceLT, Nat.reduceAdd, Nat.reduceLeDiff, Nat.reduceSub, Nat.reduceEqDiff, Int.reduceToNat, reduceCtorEq, ↓reduceIte]
    repeat' (first | refine And.intro ?_ ?_ | intro hg)
    all_goals (try simp (disch := omega) only [wrap_fits])
    all_goals first
      | (refine hK _ _ ?_; exact Red.auto)
      | exact trivial
      | assumption
      | omega
      | exact wrap_fits (by omega) (by omega)
      | (refine wpA_callA (k_spec_GraphValid a0_0 a0_1 (h := hr0)) [0] [] ?_
         rintro x Hc' ⟨rfl, rfl⟩ hlen
         refine vcOps_sound ftCOk ?_
         simp (maxSteps := 4000000) only [go_sem, Nat.reduceBEq, Nat.reduceLT, Nat.reduceAdd, Nat.reduceLeDiff, Nat.reduceSub, Nat.reduceEqDiff, Int.reduceToNat, reduceCtorEq, ↓reduceIte]
         repeat' (first | refine And.intro ?_ ?_ | intro hg)
         all_goals (try simp (disch := omega) only [wrap_fits])
         all_goals first
           | (refine hK _ _ ?_; exact Red.auto)
           | exact trivial
           | assumption
           | omega
           | exact wrap_fits (by omega) (by omega)
           | (simp_all; done)
           | (simp_all; omega))
      | (simp_all; done)
      | (simp_all; omega)
  · clear hr0
    refine awp_cond (t := 16) rfl (fun hc3 => ?_) (fun hc3 => ?_)
    · replace h := bite_t h hc3
      refine awp_reg ftCOk [(4, .v (.bool false))] [.row false (.trips a0_1), .row false (.ints .i64 a1), .rbox [.v (.int .i64 a0_0), .sl 0]] ?_
      refine awp_ret ?_
      (try simp only [Thn, InBlk, ↓reduceIte, Nat.reduceEqDiff])
      obtain rfl := Option.some.inj h
      refine ⟨by simp, _, [0, 1], (by simp only [go_sem, Nat.reduceBEq, Nat.reduceLT, Nat.reduceAdd, Nat.reduceLeDiff, Nat.reduceSub, Nat.reduceEqDiff, Int.reduceToNat, reduceCtorEq, ↓reduceIte]; exact rfl), ?_, ?_, ?_, ?_⟩
      · first | exact trivial | exact ⟨trivial, trivial⟩ | exact ⟨trivial, trivial, trivial⟩ | exact ⟨trivial, trivial, trivial, trivial⟩ | (simp only [allP, and_true, true_and]; done) | (simp only [allP, and_true, true_and]; omega)
      · simp [selOk, pos]
      · simp
      · first | exact ⟨rfl, rfl⟩ | (simp only [go_sem, Nat.reduceBEq, Nat.reduceLT, Nat.reduceAdd, Nat.reduceLeDiff, Nat.reduceSub, Nat.reduceEqDiff, Int.reduceToNat, reduceCtorEq, ↓reduceIte]; done) | (simp [go_sem, Nat.reduceBEq, Nat.reduceLT, Nat.reduceAdd, Nat.reduceLeDiff, Nat.reduceSub, Nat.reduceEqDiff, Int.reduceToNat, reduceCtorEq, ↓reduceIte]; done) | (simp only [go_sem, Nat.reduceBEq, Nat.reduceLT, Nat.reduceAdd, Nat.reduceLeDiff, Nat.reduceSub, Nat.reduceEqDiff, Int.reduceToNat, reduceCtorEq, ↓reduceIte]; exact ⟨rfl, rfl⟩) | (simp_all [go_sem, Nat.reduceBEq, Nat.reduceLT, Nat.reduceAdd, Nat.reduceLeDiff, Nat.reduceSub, Nat.reduceEqDiff, Int.reduceToNat, reduceCtorEq, ↓reduceIte]; done)
    · replace h := bite_f h hc3
      refine awp_skip ?_
      (try simp only [Thn, InBlk, ↓reduceIte, Nat.reduceEqDiff])
      refine hK2 _ _ ?_
      clear hK2
      refine awp_seq fun K23 hK23 => ?_
      refine awp_reg ftCOk [(1, .sl 1), (2, .pp 2 0), (5, .v (.int .i64 0))] [.row false (.trips a0_1), .row false (.ints .i64 a1), .rbox [.v (.int .i64 a0_0), .sl 0]] ?_
      refine awp_block ?_
      replace h := bind_some h
      obtain ⟨x42, hx, h⟩ := h
      refine awp_loopL hx (fun (t5 : Int) => [(1, .sl 1), (2, .pp 2 0), (5, .v (.int .i64 t5))]) (fun (t5 : Int) => [.row false (.trips a0_1), .row false (.ints .i64 a1), .rbox [.v (.int .i64 a0_0), .sl 0]]) (Sum.elim (fun (_ : Unit) => Exit.exit 0) (fun (_ : Unit) => Exit.ret)) (Sum.elim (fun (_ : Unit) => [(1, .sl 1), (2, .pp 2 0)]) (fun (_ : Unit) => [(4, .v (.bool false))])) (Sum.elim (fun (_ : Unit) => [.row false (.trips a0_1), .row false (.ints .i64 a1), .rbox [.v (.int .i64 a0_0), .sl 0]]) (fun (_ : Unit) => [.row false (.trips a0_1), .row false (.ints .i64 a1)])) ?_ ?_ ?_ ?_
      · rintro (⟨⟩ | ⟨⟩) hy <;> cases hy
      · clear h hx
        exact Red.auto
      · clear h hx
        rintro t5 r h
        unfold spec_ColorsRight_b1 at h
        try dsimp only at h
        try dsimp only
        refine awp_seq fun K37 hK37 => ?_
        refine awp_reg ftCOk [(1, .sl 1), (2, .pp 2 0), (5, .v (.int .i64 t5)), (20, .v (.bool (decide (t5 < a0_0))))] [.row false (.trips a0_1), .row false (.ints .i64 a1), .rbox [.v (.int .i64 a0_0), .sl 0]] ?_
        refine awp_cond (t := 20) rfl (fun hc38 => ?_) (fun hc38 => ?_)
        · replace h := bite_t h hc38
          refine awp_skip ?_
          (try simp only [Thn, InBlk, ↓reduceIte, Nat.reduceEqDiff])
          refine hK37 _ _ ?_
          clear hK37
          refine awp_seq fun K40 hK40 => ?_
          refine awp_block ?_
          replace h := chk_some h
          obtain ⟨hp0, h⟩ := h
          refine awp_reg ftCOk [(1, .sl 1), (2, .pp 2 0), (5, .v (.int .i64 t5)), (27, .v (.bool (decide ((a1.getD t5.toNat 0) < 0))))] [.row false (.trips a0_1), .row false (.ints .i64 a1), .rbox [.v (.int .i64 a0_0), .sl 0]] ?_
          clear hp0
          refine awp_cond (t := 27) rfl (fun hc41 => ?_) (fun hc41 => ?_)
          · replace h := bite_t h hc41
            refine awp_reg ftCOk [(4, .v (.bool false))] [.row false (.trips a0_1), .row false (.ints .i64 a1), .rbox [.v (.int .i64 a0_0), .sl 0]] ?_
            refine awp_ret ?_
            (try simp only [Thn, InBlk, ↓reduceIte, Nat.reduceEqDiff])
            obtain rfl := Option.some.inj h
            refine LoopQ.out rfl ?_
            exact Red.selA [0, 1] Red.auto
          · replace h := bite_f h hc41
            refine awp_skip ?_
            (try simp only [Thn, InBlk, ↓reduceIte, Nat.reduceEqDiff])
            (try simp only [Thn, InBlk, ↓reduceIte, Nat.reduceEqDiff])
            refine hK40 _ _ ?_
            clear hK40
            replace h := chk_some h
            obtain ⟨hp0, h⟩ := h
            refine awp_regE ftCOk [(1, .sl 1), (2, .pp 2 0), (5, .v (.int .i64 (t5 + 1)))] [.row false (.trips a0_1), .row false (.ints .i64 a1), .rbox [.v (.int .i64 a0_0), .sl 0]] ?_
            clear hp0
            obtain rfl := Option.some.inj h
            refine LoopQ.next ?_
            exact Red.auto
        · replace h := bite_f h hc38
          refine awp_exit ?_
          (try simp only [Thn, InBlk, ↓reduceIte, Nat.reduceEqDiff])
          obtain rfl := Option.some.inj h
          refine LoopQ.out rfl ?_
          exact Red.auto
      · clear hx
        rcases x42 with (⟨⟩ | ⟨⟩)
        · try dsimp only [Sum.elim_inl, Sum.elim_inr] at h
          try dsimp only [Sum.elim_inl, Sum.elim_inr]
          (try simp only [Thn, InBlk, ↓reduceIte, Nat.reduceEqDiff])
          (try simp only [Thn, InBlk, ↓reduceIte, Nat.reduceEqDiff])
          (try simp only [Thn, InBlk, ↓reduceIte, Nat.reduceEqDiff])
          refine hK23 _ _ ?_
          clear hK23
          refine awp_seq fun K62 hK62 => ?_
          refine awp_reg ftCOk [(1, .sl 1), (2, .pp 2 0), (6, .v (.int .i64 0))] [.row false (.trips a0_1), .row false (.ints .i64 a1), .rbox [.v (.int .i64 a0_0), .sl 0]] ?_
          refine awp_block ?_
          replace h := bind_some h
          obtain ⟨x81, hx, h⟩ := h
          refine awp_loopL hx (fun (t6 : Int) => [(1, .sl 1), (2, .pp 2 0), (6, .v (.int .i64 t6))]) (fun (t6 : Int) => [.row false (.trips a0_1), .row false (.ints .i64 a1), .rbox [.v (.int .i64 a0_0), .sl 0]]) (Sum.elim (fun (_ : Unit) => Exit.exit 2) (fun (_ : Unit) => Exit.ret)) (Sum.elim (fun (_ : Unit) => []) (fun (_ : Unit) => [(4, .v (.bool false))])) (Sum.elim (fun (_ : Unit) => [.row false (.trips a0_1), .row false (.ints .i64 a1)]) (fun (_ : Unit) => [.row false (.trips a0_1), .row false (.ints .i64 a1)])) ?_ ?_ ?_ ?_
          · rintro (⟨⟩ | ⟨⟩) hy <;> cases hy
          · clear h hx
            exact Red.auto
          · clear h hx
            rintro t6 r h
            unfold spec_ColorsRight_b3 at h
            try dsimp only at h
            try dsimp only
            refine awp_seq fun K76 hK76 => ?_
            refine awp_reg ftCOk [(1, .sl 1), (2, .pp 2 0), (6, .v (.int .i64 t6)), (32, .v (.bool (decide (t6 < (a0_1.length : Int)))))] [.row false (.trips a0_1), .row false (.ints .i64 a1), .rbox [.v (.int .i64 a0_0), .sl 0]] ?_
            refine awp_cond (t := 32) rfl (fun hc77 => ?_) (fun hc77 => ?_)
            · replace h := bite_t h hc77
              refine awp_skip ?_
              (try simp only [Thn, InBlk, ↓reduceIte, Nat.reduceEqDiff])
              refine hK76 _ _ ?_
              clear hK76
              refine awp_seq fun K79 hK79 => ?_
              refine awp_block ?_
              replace h := chk_some h
              obtain ⟨hp0, h⟩ := h
              replace h := chk_some h
              obtain ⟨hp1, h⟩ := h
              replace h := chk_some h
              obtain ⟨hp2, h⟩ := h
              refine awp_regQ mixed ftCOk [(1, .sl 1), (2, .pp 2 0), (6, .v (.int .i64 t6)), (53, .v (.bool ((a1.getD (((a0_1.getD t6.toNat (0, 0, 0)).1).toNat) 0) == (a1.getD (((a0_1.getD t6.toNat (0, 0, 0)).2.1).toNat) 0))))] [.row false (.trips a0_1), .row false (.ints .i64 a1), .rbox [.v (.int .i64 a0_0), .sl 0]] ?_
              clear hp0 hp1 hp2
              refine awp_cond (t := 53) rfl (fun hc80 => ?_) (fun hc80 => ?_)
              · replace h := bite_t h hc80
                refine awp_reg ftCOk [(4, .v (.bool false))] [.row false (.trips a0_1), .row false (.ints .i64 a1), .rbox [.v (.int .i64 a0_0), .sl 0]] ?_
                refine awp_ret ?_
                (try simp only [Thn, InBlk, ↓reduceIte, Nat.reduceEqDiff])
                obtain rfl := Option.some.inj h
                refine LoopQ.out rfl ?_
                exact Red.selA [0, 1] Red.auto
              · replace h := bite_f h hc80
                refine awp_skip ?_
                (try simp only [Thn, InBlk, ↓reduceIte, Nat.reduceEqDiff])
                (try simp only [Thn, InBlk, ↓reduceIte, Nat.reduceEqDiff])
                refine hK79 _ _ ?_
                clear hK79
                replace h := chk_some h
                obtain ⟨hp0, h⟩ := h
                refine awp_regE ftCOk [(1, .sl 1), (2, .pp 2 0), (6, .v (.int .i64 (t6 + 1)))] [.row false (.trips a0_1), .row false (.ints .i64 a1), .rbox [.v (.int .i64 a0_0), .sl 0]] ?_
                clear hp0
                obtain rfl := Option.some.inj h
                refine LoopQ.next ?_
                exact Red.auto
            · replace h := bite_f h hc77
              refine awp_exit ?_
              (try simp only [Thn, InBlk, ↓reduceIte, Nat.reduceEqDiff])
              obtain rfl := Option.some.inj h
              refine LoopQ.out rfl ?_
              exact Red.selA [0, 1] Red.auto
          · clear hx
            rcases x81 with (⟨⟩ | ⟨⟩)
            · try dsimp only [Sum.elim_inl, Sum.elim_inr] at h
              try dsimp only [Sum.elim_inl, Sum.elim_inr]
              (try simp only [Thn, InBlk, ↓reduceIte, Nat.reduceEqDiff])
              (try simp only [Thn, InBlk, ↓reduceIte, Nat.reduceEqDiff])
              (try simp only [Thn, InBlk, ↓reduceIte, Nat.reduceEqDiff])
              refine hK62 _ _ ?_
              clear hK62
              refine awp_reg ftCOk [(4, .v (.bool true))] [.row false (.trips a0_1), .row false (.ints .i64 a1)] ?_
              refine awp_ret ?_
              (try simp only [Thn, InBlk, ↓reduceIte, Nat.reduceEqDiff])
              obtain rfl := Option.some.inj h
              refine ⟨by simp, _, [0, 1], (by simp only [go_sem, Nat.reduceBEq, Nat.reduceLT, Nat.reduceAdd, Nat.reduceLeDiff, Nat.reduceSub, Nat.reduceEqDiff, Int.reduceToNat, reduceCtorEq, ↓reduceIte]; exact rfl), ?_, ?_, ?_, ?_⟩
              · first | exact trivial | exact ⟨trivial, trivial⟩ | exact ⟨trivial, trivial, trivial⟩ | exact ⟨trivial, trivial, trivial, trivial⟩ | (simp only [allP, and_true, true_and]; done) | (simp only [allP, and_true, true_and]; omega)
              · simp [selOk, pos]
              · simp
              · first | exact ⟨rfl, rfl⟩ | (simp only [go_sem, Nat.reduceBEq, Nat.reduceLT, Nat.reduceAdd, Nat.reduceLeDiff, Nat.reduceSub, Nat.reduceEqDiff, Int.reduceToNat, reduceCtorEq, ↓reduceIte]; done) | (simp [go_sem, Nat.reduceBEq, Nat.reduceLT, Nat.reduceAdd, Nat.reduceLeDiff, Nat.reduceSub, Nat.reduceEqDiff, Int.reduceToNat, reduceCtorEq, ↓reduceIte]; done) | (simp only [go_sem, Nat.reduceBEq, Nat.reduceLT, Nat.reduceAdd, Nat.reduceLeDiff, Nat.reduceSub, Nat.reduceEqDiff, Int.reduceToNat, reduceCtorEq, ↓reduceIte]; exact ⟨rfl, rfl⟩) | (simp_all [go_sem, Nat.reduceBEq, Nat.reduceLT, Nat.reduceAdd, Nat.reduceLeDiff, Nat.reduceSub, Nat.reduceEqDiff, Int.reduceToNat, reduceCtorEq, ↓reduceIte]; done)
            · try dsimp only [Sum.elim_inl, Sum.elim_inr] at h
              try dsimp only [Sum.elim_inl, Sum.elim_inr]
              (try simp only [Thn, InBlk, ↓reduceIte, Nat.reduceEqDiff])
              obtain rfl := Option.some.inj h
              refine ⟨by simp, _, [0, 1], (by simp only [go_sem, Nat.reduceBEq, Nat.reduceLT, Nat.reduceAdd, Nat.reduceLeDiff, Nat.reduceSub, Nat.reduceEqDiff, Int.reduceToNat, reduceCtorEq, ↓reduceIte]; exact rfl), ?_, ?_, ?_, ?_⟩
              · first | exact trivial | exact ⟨trivial, trivial⟩ | exact ⟨trivial, trivial, trivial⟩ | exact ⟨trivial, trivial, trivial, trivial⟩ | (simp only [allP, and_true, true_and]; done) | (simp only [allP, and_true, true_and]; omega)
              · simp [selOk, pos]
              · simp
              · first | exact ⟨rfl, rfl⟩ | (simp only [go_sem, Nat.reduceBEq, Nat.reduceLT, Nat.reduceAdd, Nat.reduceLeDiff, Nat.reduceSub, Nat.reduceEqDiff, Int.reduceToNat, reduceCtorEq, ↓reduceIte]; done) | (simp [go_sem, Nat.reduceBEq, Nat.reduceLT, Nat.reduceAdd, Nat.reduceLeDiff, Nat.reduceSub, Nat.reduceEqDiff, Int.reduceToNat, reduceCtorEq, ↓reduceIte]; done) | (simp only [go_sem, Nat.reduceBEq, Nat.reduceLT, Nat.reduceAdd, Nat.reduceLeDiff, Nat.reduceSub, Nat.reduceEqDiff, Int.reduceToNat, reduceCtorEq, ↓reduceIte]; exact ⟨rfl, rfl⟩) | (simp_all [go_sem, Nat.reduceBEq, Nat.reduceLT, Nat.reduceAdd, Nat.reduceLeDiff, Nat.reduceSub, Nat.reduceEqDiff, Int.reduceToNat, reduceCtorEq, ↓reduceIte]; done)
        · try dsimp only [Sum.elim_inl, Sum.elim_inr] at h
          try dsimp only [Sum.elim_inl, Sum.elim_inr]
          (try simp only [Thn, InBlk, ↓reduceIte, Nat.reduceEqDiff])
          obtain rfl := Option.some.inj h
          refine ⟨by simp, _, [0, 1], (by simp only [go_sem, Nat.reduceBEq, Nat.reduceLT, Nat.reduceAdd, Nat.reduceLeDiff, Nat.reduceSub, Nat.reduceEqDiff, Int.reduceToNat, reduceCtorEq, ↓reduceIte]; exact rfl), ?_, ?_, ?_, ?_⟩
          · first | exact trivial | exact ⟨trivial, trivial⟩ | exact ⟨trivial, trivial, trivial⟩ | exact ⟨trivial, trivial, trivial, trivial⟩ | (simp only [allP, and_true, true_and]; done) | (simp only [allP, and_true, true_and]; omega)
          · simp [selOk, pos]
          · simp
          · first | exact ⟨rfl, rfl⟩ | (simp only [go_sem, Nat.reduceBEq, Nat.reduceLT, Nat.reduceAdd, Nat.reduceLeDiff, Nat.reduceSub, Nat.reduceEqDiff, Int.reduceToNat, reduceCtorEq, ↓reduceIte]; done) | (simp [go_sem, Nat.reduceBEq, Nat.reduceLT, Nat.reduceAdd, Nat.reduceLeDiff, Nat.reduceSub, Nat.reduceEqDiff, Int.reduceToNat, reduceCtorEq, ↓reduceIte]; done) | (simp only [go_sem, Nat.reduceBEq, Nat.reduceLT, Nat.reduceAdd, Nat.reduceLeDiff, Nat.reduceSub, Nat.reduceEqDiff, Int.reduceToNat, reduceCtorEq, ↓reduceIte]; exact ⟨rfl, rfl⟩) | (simp_all [go_sem, Nat.reduceBEq, Nat.reduceLT, Nat.reduceAdd, Nat.reduceLeDiff, Nat.reduceSub, Nat.reduceEqDiff, Int.reduceToNat, reduceCtorEq, ↓reduceIte]; done)
theorem k_impl_ColorsRight (a0_0 : Int) (a0_1 : List (Int × Int × Int)) (a1 : List Int) {r : Bool} (h : impl_ColorsRight a0_0 a0_1 a1 = some r) :
    FnA Try.prog 36 [.agg [.v (.int .i64 a0_0), .sl 0], .sl 1] [.row false (.trips a0_1), .row false (.ints .i64 a1)] [] (fun x H => x = .v (.bool r) ∧ H = [.row false (.trips a0_1), .row false (.ints .i64 a1)]) := by
  unfold impl_ColorsRight at h
  refine FnA.of (N := 47) (pin := [0, 1]) (rs := [.tmp 4]) Try.func36 rfl en36 rfl rfl (by simp) (by simp; try omega) ?_
  refine awp_reg ftCOk [(1, .sl 1), (2, .pp 2 0)] [.row false (.trips a0_1), .row false (.ints .i64 a1), .box [.v (.int .i64 a0_0), .sl 0]] ?_
  refine awp_freeze 2 (by rfl) (by rfl) (by exact rfl) ?_
  refine awp_seq fun K2 hK2 => ?_
  replace h := bind_some h
  obtain ⟨y, hr0, h⟩ := h
  try dsimp only at h
  refine awp_to [(1, .sl 1), (2, .pp 2 0), (18, .v (.bool ((!y) || ((a1.length : Int) != a0_0))))] [.row false (.trips a0_1), .row false (.ints .i64 a1), .rbox [.v (.int .i64 a0_0), .sl 0]] ?_ ?_
  · clear h
    intro K hK
    refine awp_region ftCOk ?_
    simp (maxSteps := 4000000) only [go_sem, Nat.reduceBEq, Nat.reduceLT, Nat.reduceAdd, Nat.reduceLeDiff, Nat.reduceSub, Nat.reduceEqDiff, Int.reduceToNat, reduceCtorEq, ↓reduceIte]
    repeat' (first | refine And.intro ?_ ?_ | intro hg)
    all_goals (try simp (disch := omega) only [wrap_fits])
    all_goals first
      | (refine hK _ _ ?_; exact Red.auto)
      | exact trivial
      | assumption
      | omega
      | exact wrap_fits (by omega) (by omega)
      | (refine wpA_callA (k_impl_GraphValid a0_0 a0_1 (h := hr0)) [0] [] ?_
         rintro x Hc' ⟨rfl, rfl⟩ hlen
         refine vcOps_sound ftCOk ?_
         simp (maxSteps := 4000000) only [go_sem, Nat.reduceBEq, Nat.reduceLT, Nat.reduceAdd, Nat.reduceLeDiff, Nat.reduceSub, Nat.reduceEqDiff, Int.reduceToNat, reduceCtorEq, ↓reduceIte]
         repeat' (first | refine And.intro ?_ ?_ | intro hg)
         all_goals (try simp (disch := omega) only [wrap_fits])
         all_goals first
           | (refine hK _ _ ?_; exact Red.auto)
           | exact trivial
           | assumption
           | omega
           | exact wrap_fits (by omega) (by omega)
           | (simp_all; done)
           | (simp_all; omega))
      | (simp_all; done)
      | (simp_all; omega)
  · clear hr0
    refine awp_cond (t := 18) rfl (fun hc3 => ?_) (fun hc3 => ?_)
    · replace h := bite_t h hc3
      refine awp_reg ftCOk [(4, .v (.bool false))] [.row false (.trips a0_1), .row false (.ints .i64 a1), .rbox [.v (.int .i64 a0_0), .sl 0]] ?_
      refine awp_ret ?_
      (try simp only [Thn, InBlk, ↓reduceIte, Nat.reduceEqDiff])
      obtain rfl := Option.some.inj h
      refine ⟨by simp, _, [0, 1], (by simp only [go_sem, Nat.reduceBEq, Nat.reduceLT, Nat.reduceAdd, Nat.reduceLeDiff, Nat.reduceSub, Nat.reduceEqDiff, Int.reduceToNat, reduceCtorEq, ↓reduceIte]; exact rfl), ?_, ?_, ?_, ?_⟩
      · first | exact trivial | exact ⟨trivial, trivial⟩ | exact ⟨trivial, trivial, trivial⟩ | exact ⟨trivial, trivial, trivial, trivial⟩ | (simp only [allP, and_true, true_and]; done) | (simp only [allP, and_true, true_and]; omega)
      · simp [selOk, pos]
      · simp
      · first | exact ⟨rfl, rfl⟩ | (simp only [go_sem, Nat.reduceBEq, Nat.reduceLT, Nat.reduceAdd, Nat.reduceLeDiff, Nat.reduceSub, Nat.reduceEqDiff, Int.reduceToNat, reduceCtorEq, ↓reduceIte]; done) | (simp [go_sem, Nat.reduceBEq, Nat.reduceLT, Nat.reduceAdd, Nat.reduceLeDiff, Nat.reduceSub, Nat.reduceEqDiff, Int.reduceToNat, reduceCtorEq, ↓reduceIte]; done) | (simp only [go_sem, Nat.reduceBEq, Nat.reduceLT, Nat.reduceAdd, Nat.reduceLeDiff, Nat.reduceSub, Nat.reduceEqDiff, Int.reduceToNat, reduceCtorEq, ↓reduceIte]; exact ⟨rfl, rfl⟩) | (simp_all [go_sem, Nat.reduceBEq, Nat.reduceLT, Nat.reduceAdd, Nat.reduceLeDiff, Nat.reduceSub, Nat.reduceEqDiff, Int.reduceToNat, reduceCtorEq, ↓reduceIte]; done)
    · replace h := bite_f h hc3
      refine awp_skip ?_
      (try simp only [Thn, InBlk, ↓reduceIte, Nat.reduceEqDiff])
      refine hK2 _ _ ?_
      clear hK2
      refine awp_seq fun K23 hK23 => ?_
      refine awp_reg ftCOk [(1, .sl 1), (2, .pp 2 0), (19, .sl 1), (20, .v (.int .i64 (a1.length : Int))), (21, .v (.int .i64 0))] [.row false (.trips a0_1), .row false (.ints .i64 a1), .rbox [.v (.int .i64 a0_0), .sl 0]] ?_
      refine awp_block ?_
      replace h := bind_some h
      obtain ⟨x42, hx, h⟩ := h
      refine awp_loopL hx (fun (t21 : Int) => [(1, .sl 1), (2, .pp 2 0), (19, .sl 1), (20, .v (.int .i64 (a1.length : Int))), (21, .v (.int .i64 t21))]) (fun (t21 : Int) => [.row false (.trips a0_1), .row false (.ints .i64 a1), .rbox [.v (.int .i64 a0_0), .sl 0]]) (Sum.elim (fun (_ : Unit) => Exit.exit 0) (fun (_ : Unit) => Exit.ret)) (Sum.elim (fun (_ : Unit) => [(1, .sl 1), (2, .pp 2 0)]) (fun (_ : Unit) => [(4, .v (.bool false))])) (Sum.elim (fun (_ : Unit) => [.row false (.trips a0_1), .row false (.ints .i64 a1), .rbox [.v (.int .i64 a0_0), .sl 0]]) (fun (_ : Unit) => [.row false (.trips a0_1), .row false (.ints .i64 a1)])) ?_ ?_ ?_ ?_
      · rintro (⟨⟩ | ⟨⟩) hy <;> cases hy
      · clear h hx
        exact Red.auto
      · clear h hx
        rintro t21 r h
        unfold impl_ColorsRight_b1 at h
        try dsimp only at h
        try dsimp only
        refine awp_reg ftCOk [(1, .sl 1), (2, .pp 2 0), (19, .sl 1), (20, .v (.int .i64 (a1.length : Int))), (21, .v (.int .i64 t21)), (22, .v (.bool (decide (t21 < (a1.length : Int)))))] [.row false (.trips a0_1), .row false (.ints .i64 a1), .rbox [.v (.int .i64 a0_0), .sl 0]] ?_
        refine awp_seq fun K37 hK37 => ?_
        refine awp_cond (t := 22) rfl (fun hc38 => ?_) (fun hc38 => ?_)
        · replace h := bite_t h hc38
          refine awp_skip ?_
          (try simp only [Thn, InBlk, ↓reduceIte, Nat.reduceEqDiff])
          refine hK37 _ _ ?_
          clear hK37
          refine awp_seq fun K40 hK40 => ?_
          refine awp_block ?_
          replace h := chk_some h
          obtain ⟨hp0, h⟩ := h
          refine awp_reg ftCOk [(1, .sl 1), (2, .pp 2 0), (6, .v (.int .i64 (a1.getD t21.toNat 0))), (19, .sl 1), (20, .v (.int .i64 (a1.length : Int))), (21, .v (.int .i64 t21))] [.row false (.trips a0_1), .row false (.ints .i64 a1), .rbox [.v (.int .i64 a0_0), .sl 0]] ?_
          clear hp0
          refine awp_reg ftCOk [(1, .sl 1), (2, .pp 2 0), (19, .sl 1), (20, .v (.int .i64 (a1.length : Int))), (21, .v (.int .i64 t21)), (26, .v (.bool (decide ((a1.getD t21.toNat 0) < 0))))] [.row false (.trips a0_1), .row false (.ints .i64 a1), .rbox [.v (.int .i64 a0_0), .sl 0]] ?_
          refine awp_cond (t := 26) rfl (fun hc41 => ?_) (fun hc41 => ?_)
          · replace h := bite_t h hc41
            refine awp_reg ftCOk [(4, .v (.bool false))] [.row false (.trips a0_1), .row false (.ints .i64 a1), .rbox [.v (.int .i64 a0_0), .sl 0]] ?_
            refine awp_ret ?_
            (try simp only [Thn, InBlk, ↓reduceIte, Nat.reduceEqDiff])
            obtain rfl := Option.some.inj h
            refine LoopQ.out rfl ?_
            exact Red.selA [0, 1] Red.auto
          · replace h := bite_f h hc41
            refine awp_skip ?_
            (try simp only [Thn, InBlk, ↓reduceIte, Nat.reduceEqDiff])
            (try simp only [Thn, InBlk, ↓reduceIte, Nat.reduceEqDiff])
            refine hK40 _ _ ?_
            clear hK40
            replace h := chk_some h
            obtain ⟨hp0, h⟩ := h
            refine awp_regE ftCOk [(1, .sl 1), (2, .pp 2 0), (19, .sl 1), (20, .v (.int .i64 (a1.length : Int))), (21, .v (.int .i64 (t21 + 1)))] [.row false (.trips a0_1), .row false (.ints .i64 a1), .rbox [.v (.int .i64 a0_0), .sl 0]] ?_
            clear hp0
            obtain rfl := Option.some.inj h
            refine LoopQ.next ?_
            exact Red.auto
        · replace h := bite_f h hc38
          refine awp_exit ?_
          (try simp only [Thn, InBlk, ↓reduceIte, Nat.reduceEqDiff])
          obtain rfl := Option.some.inj h
          refine LoopQ.out rfl ?_
          exact Red.auto
      · clear hx
        rcases x42 with (⟨⟩ | ⟨⟩)
        · try dsimp only [Sum.elim_inl, Sum.elim_inr] at h
          try dsimp only [Sum.elim_inl, Sum.elim_inr]
          (try simp only [Thn, InBlk, ↓reduceIte, Nat.reduceEqDiff])
          (try simp only [Thn, InBlk, ↓reduceIte, Nat.reduceEqDiff])
          (try simp only [Thn, InBlk, ↓reduceIte, Nat.reduceEqDiff])
          refine hK23 _ _ ?_
          clear hK23
          refine awp_seq fun K62 hK62 => ?_
          refine awp_reg ftCOk [(1, .sl 1), (29, .sl 0), (30, .v (.int .i64 (a0_1.length : Int))), (31, .v (.int .i64 0))] [.row false (.trips a0_1), .row false (.ints .i64 a1), .rbox [.v (.int .i64 a0_0), .sl 0]] ?_
          refine awp_block ?_
          replace h := bind_some h
          obtain ⟨x81, hx, h⟩ := h
          refine awp_loopL hx (fun (t31 : Int) => [(1, .sl 1), (29, .sl 0), (30, .v (.int .i64 (a0_1.length : Int))), (31, .v (.int .i64 t31))]) (fun (t31 : Int) => [.row false (.trips a0_1), .row false (.ints .i64 a1)]) (Sum.elim (fun (_ : Unit) => Exit.exit 2) (fun (_ : Unit) => Exit.ret)) (Sum.elim (fun (_ : Unit) => []) (fun (_ : Unit) => [(4, .v (.bool false))])) (Sum.elim (fun (_ : Unit) => [.row false (.trips a0_1), .row false (.ints .i64 a1)]) (fun (_ : Unit) => [.row false (.trips a0_1), .row false (.ints .i64 a1)])) ?_ ?_ ?_ ?_
          · rintro (⟨⟩ | ⟨⟩) hy <;> cases hy
          · clear h hx
            exact Red.selA [0, 1] Red.auto
          · clear h hx
            rintro t31 r h
            unfold impl_ColorsRight_b3 at h
            try dsimp only at h
            try dsimp only
            refine awp_reg ftCOk [(1, .sl 1), (29, .sl 0), (30, .v (.int .i64 (a0_1.length : Int))), (31, .v (.int .i64 t31)), (32, .v (.bool (decide (t31 < (a0_1.length : Int)))))] [.row false (.trips a0_1), .row false (.ints .i64 a1)] ?_
            refine awp_seq fun K76 hK76 => ?_
            refine awp_cond (t := 32) rfl (fun hc77 => ?_) (fun hc77 => ?_)
            · replace h := bite_t h hc77
              refine awp_skip ?_
              (try simp only [Thn, InBlk, ↓reduceIte, Nat.reduceEqDiff])
              refine hK76 _ _ ?_
              clear hK76
              refine awp_seq fun K79 hK79 => ?_
              refine awp_block ?_
              replace h := chk_some h
              obtain ⟨hp0, h⟩ := h
              refine awp_reg ftCOk [(1, .sl 1), (8, .pp 2 0), (29, .sl 0), (30, .v (.int .i64 (a0_1.length : Int))), (31, .v (.int .i64 t31))] [.row false (.trips a0_1), .row false (.ints .i64 a1), .box [.v (.int .i64 ((a0_1.getD t31.toNat (0, 0, 0)).1)), .v (.int .i64 ((a0_1.getD t31.toNat (0, 0, 0)).2.1)), .v (.int .i64 ((a0_1.getD t31.toNat (0, 0, 0)).2.2))]] ?_
              clear hp0
              replace h := chk_some h
              obtain ⟨hp0, h⟩ := h
              replace h := chk_some h
              obtain ⟨hp1, h⟩ := h
              refine awp_regQ mixed ftCOk [(1, .sl 1), (29, .sl 0), (30, .v (.int .i64 (a0_1.length : Int))), (31, .v (.int .i64 t31)), (45, .v (.bool ((a1.getD (((a0_1.getD t31.toNat (0, 0, 0)).1).toNat) 0) == (a1.getD (((a0_1.getD t31.toNat (0, 0, 0)).2.1).toNat) 0))))] [.row false (.trips a0_1), .row false (.ints .i64 a1), .box [.v (.int .i64 ((a0_1.getD t31.toNat (0, 0, 0)).1)), .v (.int .i64 ((a0_1.getD t31.toNat (0, 0, 0)).2.1)), .v (.int .i64 ((a0_1.getD t31.toNat (0, 0, 0)).2.2))]] ?_
              clear hp0 hp1
              refine awp_cond (t := 45) rfl (fun hc80 => ?_) (fun hc80 => ?_)
              · replace h := bite_t h hc80
                refine awp_reg ftCOk [(4, .v (.bool false))] [.row false (.trips a0_1), .row false (.ints .i64 a1), .box [.v (.int .i64 ((a0_1.getD t31.toNat (0, 0, 0)).1)), .v (.int .i64 ((a0_1.getD t31.toNat (0, 0, 0)).2.1)), .v (.int .i64 ((a0_1.getD t31.toNat (0, 0, 0)).2.2))]] ?_
                refine awp_ret ?_
                (try simp only [Thn, InBlk, ↓reduceIte, Nat.reduceEqDiff])
                obtain rfl := Option.some.inj h
                refine LoopQ.out rfl ?_
                exact Red.selA [0, 1] Red.auto
              · replace h := bite_f h hc80
                refine awp_skip ?_
                (try simp only [Thn, InBlk, ↓reduceIte, Nat.reduceEqDiff])
                (try simp only [Thn, InBlk, ↓reduceIte, Nat.reduceEqDiff])
                refine hK79 _ _ ?_
                clear hK79
                replace h := chk_some h
                obtain ⟨hp0, h⟩ := h
                refine awp_regE ftCOk [(1, .sl 1), (29, .sl 0), (30, .v (.int .i64 (a0_1.length : Int))), (31, .v (.int .i64 (t31 + 1)))] [.row false (.trips a0_1), .row false (.ints .i64 a1), .box [.v (.int .i64 ((a0_1.getD t31.toNat (0, 0, 0)).1)), .v (.int .i64 ((a0_1.getD t31.toNat (0, 0, 0)).2.1)), .v (.int .i64 ((a0_1.getD t31.toNat (0, 0, 0)).2.2))]] ?_
                clear hp0
                obtain rfl := Option.some.inj h
                refine LoopQ.next ?_
                exact Red.selA [0, 1] Red.auto
            · replace h := bite_f h hc77
              refine awp_exit ?_
              (try simp only [Thn, InBlk, ↓reduceIte, Nat.reduceEqDiff])
              obtain rfl := Option.some.inj h
              refine LoopQ.out rfl ?_
              exact Red.auto
          · clear hx
            rcases x81 with (⟨⟩ | ⟨⟩)
            · try dsimp only [Sum.elim_inl, Sum.elim_inr] at h
              try dsimp only [Sum.elim_inl, Sum.elim_inr]
              (try simp only [Thn, InBlk, ↓reduceIte, Nat.reduceEqDiff])
              (try simp only [Thn, InBlk, ↓reduceIte, Nat.reduceEqDiff])
              (try simp only [Thn, InBlk, ↓reduceIte, Nat.reduceEqDiff])
              refine hK62 _ _ ?_
              clear hK62
              refine awp_reg ftCOk [(4, .v (.bool true))] [.row false (.trips a0_1), .row false (.ints .i64 a1)] ?_
              refine awp_ret ?_
              (try simp only [Thn, InBlk, ↓reduceIte, Nat.reduceEqDiff])
              obtain rfl := Option.some.inj h
              refine ⟨by simp, _, [0, 1], (by simp only [go_sem, Nat.reduceBEq, Nat.reduceLT, Nat.reduceAdd, Nat.reduceLeDiff, Nat.reduceSub, Nat.reduceEqDiff, Int.reduceToNat, reduceCtorEq, ↓reduceIte]; exact rfl), ?_, ?_, ?_, ?_⟩
              · first | exact trivial | exact ⟨trivial, trivial⟩ | exact ⟨trivial, trivial, trivial⟩ | exact ⟨trivial, trivial, trivial, trivial⟩ | (simp only [allP, and_true, true_and]; done) | (simp only [allP, and_true, true_and]; omega)
              · simp [selOk, pos]
              · simp
              · first | exact ⟨rfl, rfl⟩ | (simp only [go_sem, Nat.reduceBEq, Nat.reduceLT, Nat.reduceAdd, Nat.reduceLeDiff, Nat.reduceSub, Nat.reduceEqDiff, Int.reduceToNat, reduceCtorEq, ↓reduceIte]; done) | (simp [go_sem, Nat.reduceBEq, Nat.reduceLT, Nat.reduceAdd, Nat.reduceLeDiff, Nat.reduceSub, Nat.reduceEqDiff, Int.reduceToNat, reduceCtorEq, ↓reduceIte]; done) | (simp only [go_sem, Nat.reduceBEq, Nat.reduceLT, Nat.reduceAdd, Nat.reduceLeDiff, Nat.reduceSub, Nat.reduceEqDiff, Int.reduceToNat, reduceCtorEq, ↓reduceIte]; exact ⟨rfl, rfl⟩) | (simp_all [go_sem, Nat.reduceBEq, Nat.reduceLT, Nat.reduceAdd, Nat.reduceLeDiff, Nat.reduceSub, Nat.reduceEqDiff, Int.reduceToNat, reduceCtorEq, ↓reduceIte]; done)
            · try dsimp only [Sum.elim_inl, Sum.elim_inr] at h
              try dsimp only [Sum.elim_inl, Sum.elim_inr]
              (try simp only [Thn, InBlk, ↓reduceIte, Nat.reduceEqDiff])
              obtain rfl := Option.some.inj h
              refine ⟨by simp, _, [0, 1], (by simp only [go_sem, Nat.reduceBEq, Nat.reduceLT, Nat.reduceAdd, Nat.reduceLeDiff, Nat.reduceSub, Nat.reduceEqDiff, Int.reduceToNat, reduceCtorEq, ↓reduceIte]; exact rfl), ?_, ?_, ?_, ?_⟩
              · first | exact trivial | exact ⟨trivial, trivial⟩ | exact ⟨trivial, trivial, trivial⟩ | exact ⟨trivial, trivial, trivial, trivial⟩ | (simp only [allP, and_true, true_and]; done) | (simp only [allP, and_true, true_and]; omega)
              · simp [selOk, pos]
              · simp
              · first | exact ⟨rfl, rfl⟩ | (simp only [go_sem, Nat.reduceBEq, Nat.reduceLT, Nat.reduceAdd, Nat.reduceLeDiff, Nat.reduceSub, Nat.reduceEqDiff, Int.reduceToNat, reduceCtorEq, ↓reduceIte]; done) | (simp [go_sem, Nat.reduceBEq, Nat.reduceLT, Nat.reduceAdd, Nat.reduceLeDiff, Nat.reduceSub, Nat.reduceEqDiff, Int.reduceToNat, reduceCtorEq, ↓reduceIte]; done) | (simp only [go_sem, Nat.reduceBEq, Nat.reduceLT, Nat.reduceAdd, Nat.reduceLeDiff, Nat.reduceSub, Nat.reduceEqDiff, Int.reduceToNat, reduceCtorEq, ↓reduceIte]; exact ⟨rfl, rfl⟩) | (simp_all [go_sem, Nat.reduceBEq, Nat.reduceLT, Nat.reduceAdd, Nat.reduceLeDiff, Nat.reduceSub, Nat.reduceEqDiff, Int.reduceToNat, reduceCtorEq, ↓reduceIte]; done)
        · try dsimp only [Sum.elim_inl, Sum.elim_inr] at h
          try dsimp only [Sum.elim_inl, Sum.elim_inr]
          (try simp only [Thn, InBlk, ↓reduceIte, Nat.reduceEqDiff])
          obtain rfl := Option.some.inj h
          refine ⟨by simp, _, [0, 1], (by simp only [go_sem, Nat.reduceBEq, Nat.reduceLT, Nat.reduceAdd, Nat.reduceLeDiff, Nat.reduceSub, Nat.reduceEqDiff, Int.reduceToNat, reduceCtorEq, ↓reduceIte]; exact rfl), ?_, ?_, ?_, ?_⟩
          · first | exact trivial | exact ⟨trivial, trivial⟩ | exact ⟨trivial, trivial, trivial⟩ | exact ⟨trivial, trivial, trivial, trivial⟩ | (simp only [allP, and_true, true_and]; done) | (simp only [allP, and_true, true_and]; omega)
          · simp [selOk, pos]
          · simp
          · first | exact ⟨rfl, rfl⟩ | (simp only [go_sem, Nat.reduceBEq, Nat.reduceLT, Nat.reduceAdd, Nat.reduceLeDiff, Nat.reduceSub, Nat.reduceEqDiff, Int.reduceToNat, reduceCtorEq, ↓reduceIte]; done) | (simp [go_sem, Nat.reduceBEq, Nat.reduceLT, Nat.reduceAdd, Nat.reduceLeDiff, Nat.reduceSub, Nat.reduceEqDiff, Int.reduceToNat, reduceCtorEq, ↓reduceIte]; done) | (simp only [go_sem, Nat.reduceBEq, Nat.reduceLT, Nat.reduceAdd, Nat.reduceLeDiff, Nat.reduceSub, Nat.reduceEqDiff, Int.reduceToNat, reduceCtorEq, ↓reduceIte]; exact ⟨rfl, rfl⟩) | (simp_all [go_sem, Nat.reduceBEq, Nat.reduceLT, Nat.reduceAdd, Nat.reduceLeDiff, Nat.reduceSub, Nat.reduceEqDiff, Int.reduceToNat, reduceCtorEq, ↓reduceIte]; done)
theorem k_laws_FnExactColorsRight (a0_0 : Int) (a0_1 : List (Int × Int × Int)) (a1 : List Int) {r : Bool} (h : laws_FnExactColorsRight a0_0 a0_1 a1 = some r) :
    FnA Try.prog 7 [.agg [.v (.int .i64 a0_0), .sl 0], .sl 1] [.row false (.trips a0_1), .row false (.ints .i64 a1)] [] (fun x H => x = .v (.bool r) ∧ H = [.row false (.trips a0_1), .row false (.ints .i64 a1)]) := by
  unfold laws_FnExactColorsRight at h
  refine FnA.of (N := 43) (pin := [0, 1]) (rs := [.tmp 4]) Try.func7 rfl en7 rfl rfl (by simp) (by simp; try omega) ?_
  refine awp_reg ftCOk [(1, .sl 1), (2, .pp 2 0)] [.row false (.trips a0_1), .row false (.ints .i64 a1), .box [.v (.int .i64 a0_0), .sl 0]] ?_
  refine awp_freeze 2 (by rfl) (by rfl) (by exact rfl) ?_
  refine awp_seq fun K2 hK2 => ?_
  refine awp_reg ftCOk [(1, .sl 1), (2, .pp 2 0), (12, .v (.bool (decide (1048576 < (a1.length : Int)))))] [.row false (.trips a0_1), .row false (.ints .i64 a1), .rbox [.v (.int .i64 a0_0), .sl 0]] ?_
  refine awp_cond (t := 12) rfl (fun hc3 => ?_) (fun hc3 => ?_)
  · replace h := bite_t h hc3
    refine awp_reg ftCOk [(4, .v (.bool true))] [.row false (.trips a0_1), .row false (.ints .i64 a1), .rbox [.v (.int .i64 a0_0), .sl 0]] ?_
    refine awp_ret ?_
    (try simp only [Thn, InBlk, ↓reduceIte, Nat.reduceEqDiff])
    obtain rfl := Option.some.inj h
    refine ⟨by simp, _, [0, 1], (by simp only [go_sem, Nat.reduceBEq, Nat.reduceLT, Nat.reduceAdd, Nat.reduceLeDiff, Nat.reduceSub, Nat.reduceEqDiff, Int.reduceToNat, reduceCtorEq, ↓reduceIte]; exact rfl), ?_, ?_, ?_, ?_⟩
    · first | exact trivial | exact ⟨trivial, trivial⟩ | exact ⟨trivial, trivial, trivial⟩ | exact ⟨trivial, trivial, trivial, trivial⟩ | (simp only [allP, and_true, true_and]; done) | (simp only [allP, and_true, true_and]; omega)
    · simp [selOk, pos]
    · simp
    · first | exact ⟨rfl, rfl⟩ | (simp only [go_sem, Nat.reduceBEq, Nat.reduceLT, Nat.reduceAdd, Nat.reduceLeDiff, Nat.reduceSub, Nat.reduceEqDiff, Int.reduceToNat, reduceCtorEq, ↓reduceIte]; done) | (simp [go_sem, Nat.reduceBEq, Nat.reduceLT, Nat.reduceAdd, Nat.reduceLeDiff, Nat.reduceSub, Nat.reduceEqDiff, Int.reduceToNat, reduceCtorEq, ↓reduceIte]; done) | (simp only [go_sem, Nat.reduceBEq, Nat.reduceLT, Nat.reduceAdd, Nat.reduceLeDiff, Nat.reduceSub, Nat.reduceEqDiff, Int.reduceToNat, reduceCtorEq, ↓reduceIte]; exact ⟨rfl, rfl⟩) | (simp_all [go_sem, Nat.reduceBEq, Nat.reduceLT, Nat.reduceAdd, Nat.reduceLeDiff, Nat.reduceSub, Nat.reduceEqDiff, Int.reduceToNat, reduceCtorEq, ↓reduceIte]; done)
  · replace h := bite_f h hc3
    refine awp_skip ?_
    (try simp only [Thn, InBlk, ↓reduceIte, Nat.reduceEqDiff])
    refine hK2 _ _ ?_
    clear hK2
    refine awp_reg ftCOk [(1, .sl 1), (2, .pp 2 0), (5, .v (.int .i64 1048576))] [.row false (.trips a0_1), .row false (.ints .i64 a1), .rbox [.v (.int .i64 a0_0), .sl 0]] ?_
    replace h := bind_some h
    obtain ⟨y, hr0, h⟩ := h
    try dsimp only at h
    refine awp_to [(1, .sl 1), (2, .pp 2 0), (5, .v (.int .i64 y))] [.row false (.trips a0_1), .row false (.ints .i64 a1), .rbox [.v (.int .i64 a0_0), .sl 0]] ?_ ?_
    · clear h
      intro K hK
      refine awp_region ftCOk ?_
      simp (maxSteps := 4000000) only [go_sem, Nat.reduceBEq, Nat.reduceLT, Nat.reduceAdd, Nat.reduceLeDiff, Nat.reduceSub, Nat.reduceEqDiff, Int.reduceToNat, reduceCtorEq, ↓reduceIte]
      repeat' (first | refine And.intro ?_ ?_ | intro hg)
      all_goals (try simp (disch := omega) only [wrap_fits])
      all_goals first
        | (refine hK _ _ ?_; exact Red.auto)
        | exact trivial
        | assumption
        | omega
        | exact wrap_fits (by omega) (by omega)
        | (refine wpA_callA (k_laws_szGraph a0_0 a0_1 1048576 (h := hr0)) [0] [] ?_
           rintro x Hc' ⟨rfl, rfl⟩ hlen
           refine vcOps_sound ftCOk ?_
           simp (maxSteps := 4000000) only [go_sem, Nat.reduceBEq, Nat.reduceLT, Nat.reduceAdd, Nat.reduceLeDiff, Nat.reduceSub, Nat.reduceEqDiff, Int.reduceToNat, reduceCtorEq, ↓reduceIte]
           repeat' (first | refine And.intro ?_ ?_ | intro hg)
           all_goals (try simp (disch := omega) only [wrap_fits])
           all_goals first
             | (refine hK _ _ ?_; exact Red.auto)
             | exact trivial
             | assumption
             | omega
             | exact wrap_fits (by omega) (by omega)
             | (simp_all; done)
             | (simp_all; omega))
        | (simp_all; done)
        | (simp_all; omega)
    · clear hr0
      refine awp_seq fun K5 hK5 => ?_
      refine awp_reg ftCOk [(1, .sl 1), (2, .pp 2 0), (17, .v (.bool (decide (y < 0))))] [.row false (.trips a0_1), .row false (.ints .i64 a1), .rbox [.v (.int .i64 a0_0), .sl 0]] ?_
      refine awp_cond (t := 17) rfl (fun hc6 => ?_) (fun hc6 => ?_)
      · replace h := bite_t h hc6
        refine awp_reg ftCOk [(4, .v (.bool true))] [.row false (.trips a0_1), .row false (.ints .i64 a1), .rbox [.v (.int .i64 a0_0), .sl 0]] ?_
        refine awp_ret ?_
        (try simp only [Thn, InBlk, ↓reduceIte, Nat.reduceEqDiff])
        obtain rfl := Option.some.inj h
        refine ⟨by simp, _, [0, 1], (by simp only [go_sem, Nat.reduceBEq, Nat.reduceLT, Nat.reduceAdd, Nat.reduceLeDiff, Nat.reduceSub, Nat.reduceEqDiff, Int.reduceToNat, reduceCtorEq, ↓reduceIte]; exact rfl), ?_, ?_, ?_, ?_⟩
        · first | exact trivial | exact ⟨trivial, trivial⟩ | exact ⟨trivial, trivial, trivial⟩ | exact ⟨trivial, trivial, trivial, trivial⟩ | (simp only [allP, and_true, true_and]; done) | (simp only [allP, and_true, true_and]; omega)
        · simp [selOk, pos]
        · simp
        · first | exact ⟨rfl, rfl⟩ | (simp only [go_sem, Nat.reduceBEq, Nat.reduceLT, Nat.reduceAdd, Nat.reduceLeDiff, Nat.reduceSub, Nat.reduceEqDiff, Int.reduceToNat, reduceCtorEq, ↓reduceIte]; done) | (simp [go_sem, Nat.reduceBEq, Nat.reduceLT, Nat.reduceAdd, Nat.reduceLeDiff, Nat.reduceSub, Nat.reduceEqDiff, Int.reduceToNat, reduceCtorEq, ↓reduceIte]; done) | (simp only [go_sem, Nat.reduceBEq, Nat.reduceLT, Nat.reduceAdd, Nat.reduceLeDiff, Nat.reduceSub, Nat.reduceEqDiff, Int.reduceToNat, reduceCtorEq, ↓reduceIte]; exact ⟨rfl, rfl⟩) | (simp_all [go_sem, Nat.reduceBEq, Nat.reduceLT, Nat.reduceAdd, Nat.reduceLeDiff, Nat.reduceSub, Nat.reduceEqDiff, Int.reduceToNat, reduceCtorEq, ↓reduceIte]; done)
      · replace h := bite_f h hc6
        refine awp_skip ?_
        (try simp only [Thn, InBlk, ↓reduceIte, Nat.reduceEqDiff])
        refine hK5 _ _ ?_
        clear hK5
        replace h := bind_some h
        obtain ⟨⟨y_1, y_2⟩, hr0, h⟩ := h
        try dsimp only at h
        replace h := bind_some h
        obtain ⟨y_3, hr1, h⟩ := h
        try dsimp only at h
        replace h := bind_some h
        obtain ⟨y_4, hr2, h⟩ := h
        try dsimp only at h
        refine awp_to [(1, .sl 1), (2, .pp 2 0), (6, .v (.bool y_4))] [.row false (.trips a0_1), .row false (.ints .i64 a1), .rbox [.v (.int .i64 a0_0), .sl 0], .row true (.trips y_2), .row true (.ints .i64 y_3)] ?_ ?_
        · clear h
          intro K hK
          refine awp_region ftCOk ?_
          simp (maxSteps := 4000000) only [go_sem, Nat.reduceBEq, Nat.reduceLT, Nat.reduceAdd, Nat.reduceLeDiff, Nat.reduceSub, Nat.reduceEqDiff, Int.reduceToNat, reduceCtorEq, ↓reduceIte]
          repeat' (first | refine And.intro ?_ ?_ | intro hg)
          all_goals (try simp (disch := omega) only [wrap_fits])
          all_goals first
            | (refine hK _ _ ?_; exact Red.auto)
            | exact trivial
            | assumption
            | omega
            | exact wrap_fits (by omega) (by omega)
            | (refine wpA_callA (k_laws_toGraph a0_0 a0_1 (h := hr0)) [0] [] ?_
               rintro x Hc' ⟨rfl, rfl⟩ hlen
               refine vcOps_sound ftCOk ?_
               simp (maxSteps := 4000000) only [go_sem, Nat.reduceBEq, Nat.reduceLT, Nat.reduceAdd, Nat.reduceLeDiff, Nat.reduceSub, Nat.reduceEqDiff, Int.reduceToNat, reduceCtorEq, ↓reduceIte]
               repeat' (first | refine And.intro ?_ ?_ | intro hg)
               all_goals (try simp (disch := omega) only [wrap_fits])
               all_goals first
                 | (refine hK _ _ ?_; exact Red.auto)
                 | exact trivial
                 | assumption
                 | omega
                 | exact wrap_fits (by omega) (by omega)
                 | (refine wpA_callA (k_laws_toIntS a1 (h := hr1)) [1] [] ?_
                    rintro x Hc' ⟨rfl, rfl⟩ hlen
                    refine vcOps_sound ftCOk ?_
                    simp (maxSteps := 4000000) only [go_sem, Nat.reduceBEq, Nat.reduceLT, Nat.reduceAdd, Nat.reduceLeDiff, Nat.reduceSub, Nat.reduceEqDiff, Int.reduceToNat, reduceCtorEq, ↓reduceIte]
                    repeat' (first | refine And.intro ?_ ?_ | intro hg)
                    all_goals (try simp (disch := omega) only [wrap_fits])
                    all_goals first
                      | (refine hK _ _ ?_; exact Red.auto)
                      | exact trivial
                      | assumption
                      | omega
                      | exact wrap_fits (by omega) (by omega)
                      | (refine wpA_callA (k_spec_ColorsRight y_1 y_2 y_3 (h := hr2)) [3, 4] [] ?_
                         rintro x Hc' ⟨rfl, rfl⟩ hlen
                         refine vcOps_sound ftCOk ?_
                         simp (maxSteps := 4000000) only [go_sem, Nat.reduceBEq, Nat.reduceLT, Nat.reduceAdd, Nat.reduceLeDiff, Nat.reduceSub, Nat.reduceEqDiff, Int.reduceToNat, reduceCtorEq, ↓reduceIte]
                         repeat' (first | refine And.intro ?_ ?_ | intro hg)
                         all_goals (try simp (disch := omega) only [wrap_fits])
                         all_goals first
                           | (refine hK _ _ ?_; exact Red.auto)
                           | exact trivial
                           | assumption
                           | omega
                           | exact wrap_fits (by omega) (by omega)
                           | (simp_all; done)
                           | (simp_all; omega))
                      | (simp_all; done)
                      | (simp_all; omega))
                 | (simp_all; done)
                 | (simp_all; omega))
            | (simp_all; done)
            | (simp_all; omega)
        · clear hr0 hr1 hr2
          replace h := bind_some h
          obtain ⟨⟨y_5, y_6⟩, hr0, h⟩ := h
          try dsimp only at h
          refine awp_to [(1, .sl 1), (2, .pp 2 0), (6, .v (.bool y_4)), (7, .pp 6 0)] [.row false (.trips a0_1), .row false (.ints .i64 a1), .rbox [.v (.int .i64 a0_0), .sl 0], .row true (.trips y_2), .row true (.ints .i64 y_3), .row true (.trips y_6), .box [.v (.int .i64 y_5), .sl 5]] ?_ ?_
          · clear h
            intro K hK
            refine awp_region ftCOk ?_
            simp (maxSteps := 4000000) only [go_sem, Nat.reduceBEq, Nat.reduceLT, Nat.reduceAdd, Nat.reduceLeDiff, Nat.reduceSub, Nat.reduceEqDiff, Int.reduceToNat, reduceCtorEq, ↓reduceIte]
            repeat' (first | refine And.intro ?_ ?_ | intro hg)
            all_goals (try simp (disch := omega) only [wrap_fits])
            all_goals first
              | (refine hK _ _ ?_; exact Red.auto)
              | exact trivial
              | assumption
              | omega
              | exact wrap_fits (by omega) (by omega)
              | (refine wpA_callA (k_laws_toGraph a0_0 a0_1 (h := hr0)) [0] [] ?_
                 rintro x Hc' ⟨rfl, rfl⟩ hlen
                 refine vcOps_sound ftCOk ?_
                 simp (maxSteps := 4000000) only [go_sem, Nat.reduceBEq, Nat.reduceLT, Nat.reduceAdd, Nat.reduceLeDiff, Nat.reduceSub, Nat.reduceEqDiff, Int.reduceToNat, reduceCtorEq, ↓reduceIte]
                 repeat' (first | refine And.intro ?_ ?_ | intro hg)
                 all_goals (try simp (disch := omega) only [wrap_fits])
                 all_goals first
                   | (refine hK _ _ ?_; exact Red.auto)
                   | exact trivial
                   | assumption
                   | omega
                   | exact wrap_fits (by omega) (by omega)
                   | (simp_all; done)
                   | (simp_all; omega))
              | (simp_all; done)
              | (simp_all; omega)
          · clear hr0
            replace h := bind_some h
            obtain ⟨y_7, hr0, h⟩ := h
            try dsimp only at h
            refine awp_to [(1, .sl 1), (2, .pp 2 0), (6, .v (.bool y_4)), (7, .pp 6 0), (8, .sl 7)] [.row false (.trips a0_1), .row false (.ints .i64 a1), .rbox [.v (.int .i64 a0_0), .sl 0], .row true (.trips y_2), .row true (.ints .i64 y_3), .row true (.trips y_6), .box [.v (.int .i64 y_5), .sl 5], .row true (.ints .i64 y_7)] ?_ ?_
            · clear h
              intro K hK
              refine awp_region ftCOk ?_
              simp (maxSteps := 4000000) only [go_sem, Nat.reduceBEq, Nat.reduceLT, Nat.reduceAdd, Nat.reduceLeDiff, Nat.reduceSub, Nat.reduceEqDiff, Int.reduceToNat, reduceCtorEq, ↓reduceIte]
              repeat' (first | refine And.intro ?_ ?_ | intro hg)
              all_goals (try simp (disch := omega) only [wrap_fits])
              all_goals first
                | (refine hK _ _ ?_; exact Red.auto)
                | exact trivial
                | assumption
                | omega
                | exact wrap_fits (by omega) (by omega)
                | (refine wpA_callA (k_laws_toIntS a1 (h := hr0)) [1] [] ?_
                   rintro x Hc' ⟨rfl, rfl⟩ hlen
                   refine vcOps_sound ftCOk ?_
                   simp (maxSteps := 4000000) only [go_sem, Nat.reduceBEq, Nat.reduceLT, Nat.reduceAdd, Nat.reduceLeDiff, Nat.reduceSub, Nat.reduceEqDiff, Int.reduceToNat, reduceCtorEq, ↓reduceIte]
                   repeat' (first | refine And.intro ?_ ?_ | intro hg)
                   all_goals (try simp (disch := omega) only [wrap_fits])
                   all_goals first
                     | (refine hK _ _ ?_; exact Red.auto)
                     | exact trivial
                     | assumption
                     | omega
                     | exact wrap_fits (by omega) (by omega)
                     | (simp_all; done)
                     | (simp_all; omega))
                | (simp_all; done)
                | (simp_all; omega)
            · clear hr0
              replace h := bind_some h
              obtain ⟨y_8, hr0, h⟩ := h
              try dsimp only at h
              refine awp_to [(1, .sl 1), (2, .pp 2 0), (6, .v (.bool y_4)), (7, .pp 6 0), (8, .sl 7), (9, .v (.bool y_8))] [.row false (.trips a0_1), .row false (.ints .i64 a1), .rbox [.v (.int .i64 a0_0), .sl 0], .row true (.trips y_2), .row true (.ints .i64 y_3), .row true (.trips y_6), .box [.v (.int .i64 y_5), .sl 5], .row true (.ints .i64 y_7)] ?_ ?_
              · clear h
                intro K hK
                refine awp_region ftCOk ?_
                simp (maxSteps := 4000000) only [go_sem, Nat.reduceBEq, Nat.reduceLT, Nat.reduceAdd, Nat.reduceLeDiff, Nat.reduceSub, Nat.reduceEqDiff, Int.reduceToNat, reduceCtorEq, ↓reduceIte]
                repeat' (first | refine And.intro ?_ ?_ | intro hg)
                all_goals (try simp (disch := omega) only [wrap_fits])
                all_goals first
                  | (refine hK _ _ ?_; exact Red.auto)
                  | exact trivial
                  | assumption
                  | omega
                  | exact wrap_fits (by omega) (by omega)
                  | (refine wpA_callA (k_impl_ColorsRight y_5 y_6 y_7 (h := hr0)) [5, 7] [] ?_
                     rintro x Hc' ⟨rfl, rfl⟩ hlen
                     refine vcOps_sound ftCOk ?_
                     simp (maxSteps := 4000000) only [go_sem, Nat.reduceBEq, Nat.reduceLT, Nat.reduceAdd, Nat.reduceLeDiff, Nat.reduceSub, Nat.reduceEqDiff, Int.reduceToNat, reduceCtorEq, ↓reduceIte]
                     repeat' (first | refine And.intro ?_ ?_ | intro hg)
                     all_goals (try simp (disch := omega) only [wrap_fits])
                     all_goals first
                       | (refine hK _ _ ?_; exact Red.auto)
                       | exact trivial
                       | assumption
                       | omega
                       | exact wrap_fits (by omega) (by omega)
                       | (simp_all; done)
                       | (simp_all; omega))
                  | (simp_all; done)
                  | (simp_all; omega)
              · clear hr0
                refine awp_seq fun K8 hK8 => ?_
                refine awp_reg ftCOk [(1, .sl 1), (2, .pp 2 0), (7, .pp 6 0), (8, .sl 7), (32, .v (.bool (!(y_8 == y_4))))] [.row false (.trips a0_1), .row false (.ints .i64 a1), .rbox [.v (.int .i64 a0_0), .sl 0], .row true (.trips y_2), .row true (.ints .i64 y_3), .row true (.trips y_6), .box [.v (.int .i64 y_5), .sl 5], .row true (.ints .i64 y_7)] ?_
                refine awp_cond (t := 32) rfl (fun hc9 => ?_) (fun hc9 => ?_)
                · replace h := bite_t h hc9
                  refine awp_reg ftCOk [(4, .v (.bool false))] [.row false (.trips a0_1), .row false (.ints .i64 a1), .rbox [.v (.int .i64 a0_0), .sl 0], .row true (.trips y_2), .row true (.ints .i64 y_3), .row true (.trips y_6), .box [.v (.int .i64 y_5), .sl 5], .row true (.ints .i64 y_7)] ?_
                  refine awp_ret ?_
                  (try simp only [Thn, InBlk, ↓reduceIte, Nat.reduceEqDiff])
                  obtain rfl := Option.some.inj h
                  refine ⟨by simp, _, [0, 1], (by simp only [go_sem, Nat.reduceBEq, Nat.reduceLT, Nat.reduceAdd, Nat.reduceLeDiff, Nat.reduceSub, Nat.reduceEqDiff, Int.reduceToNat, reduceCtorEq, ↓reduceIte]; exact rfl), ?_, ?_, ?_, ?_⟩
                  · first | exact trivial | exact ⟨trivial, trivial⟩ | exact ⟨trivial, trivial, trivial⟩ | exact ⟨trivial, trivial, trivial, trivial⟩ | (simp only [allP, and_true, true_and]; done) | (simp only [allP, and_true, true_and]; omega)
                  · simp [selOk, pos]
                  · simp
                  · first | exact ⟨rfl, rfl⟩ | (simp only [go_sem, Nat.reduceBEq, Nat.reduceLT, Nat.reduceAdd, Nat.reduceLeDiff, Nat.reduceSub, Nat.reduceEqDiff, Int.reduceToNat, reduceCtorEq, ↓reduceIte]; done) | (simp [go_sem, Nat.reduceBEq, Nat.reduceLT, Nat.reduceAdd, Nat.reduceLeDiff, Nat.reduceSub, Nat.reduceEqDiff, Int.reduceToNat, reduceCtorEq, ↓reduceIte]; done) | (simp only [go_sem, Nat.reduceBEq, Nat.reduceLT, Nat.reduceAdd, Nat.reduceLeDiff, Nat.reduceSub, Nat.reduceEqDiff, Int.reduceToNat, reduceCtorEq, ↓reduceIte]; exact ⟨rfl, rfl⟩) | (simp_all [go_sem, Nat.reduceBEq, Nat.reduceLT, Nat.reduceAdd, Nat.reduceLeDiff, Nat.reduceSub, Nat.reduceEqDiff, Int.reduceToNat, reduceCtorEq, ↓reduceIte]; done)
                · replace h := bite_f h hc9
                  refine awp_skip ?_
                  (try simp only [Thn, InBlk, ↓reduceIte, Nat.reduceEqDiff])
                  refine hK8 _ _ ?_
                  clear hK8
                  refine awp_seq fun K11 hK11 => ?_
                  replace h := bind_some h
                  obtain ⟨⟨y_9, y_10⟩, hr0, h⟩ := h
                  try dsimp only at h
                  replace h := bind_some h
                  obtain ⟨y_11, hr1, h⟩ := h
                  try dsimp only at h
                  refine awp_to [(1, .sl 1), (8, .sl 7), (37, .v (.bool (!y_11)))] [.row false (.trips a0_1), .row false (.ints .i64 a1), .rbox [.v (.int .i64 a0_0), .sl 0], .row true (.trips y_2), .row true (.ints .i64 y_3), .row true (.trips y_6), .box [.v (.int .i64 y_5), .sl 5], .row true (.ints .i64 y_7), .row true (.trips y_10)] ?_ ?_
                  · clear h
                    intro K hK
                    refine awp_drawT mixed ftCOk (.free 1 (.two 0 2 (.one 2 (.one 3 (.one 4 .fin))) (.one 0 (.one 3 (.one 4 .fin))))) (by kernel_rfl) (by simp) ?_
                    simp (maxSteps := 4000000) only [go_sem, Nat.reduceBEq, Nat.reduceLT, Nat.reduceAdd, Nat.reduceLeDiff, Nat.reduceSub, Nat.reduceEqDiff, Int.reduceToNat, reduceCtorEq, ↓reduceIte]
                    repeat' (first | refine And.intro ?_ ?_ | intro hg)
                    all_goals (try simp (disch := omega) only [wrap_fits])
                    all_goals first
                      | (refine hK _ _ ?_; exact Red.auto)
                      | exact trivial
                      | assumption
                      | omega
                      | exact wrap_fits (by omega) (by omega)
                      | (refine OpK_callA (k_laws_toGraph a0_0 a0_1 (h := hr0)) [0] [] ?_
                         rintro x Hc' ⟨rfl, rfl⟩ hlen
                         simp (maxSteps := 4000000) only [go_sem, Nat.reduceBEq, Nat.reduceLT, Nat.reduceAdd, Nat.reduceLeDiff, Nat.reduceSub, Nat.reduceEqDiff, Int.reduceToNat, reduceCtorEq, ↓reduceIte]
                         repeat' (first | refine And.intro ?_ ?_ | intro hg)
                         all_goals (try simp (disch := omega) only [wrap_fits])
                         all_goals first
                           | (refine hK _ _ ?_; exact Red.auto)
                           | exact trivial
                           | assumption
                           | omega
                           | exact wrap_fits (by omega) (by omega)
                           | (refine OpK_callA (k_laws_eqGraph y_5 y_6 y_9 y_10 (h := hr1)) [5, 8] [] ?_
                              rintro x Hc' ⟨rfl, rfl⟩ hlen
                              simp (maxSteps := 4000000) only [go_sem, Nat.reduceBEq, Nat.reduceLT, Nat.reduceAdd, Nat.reduceLeDiff, Nat.reduceSub, Nat.reduceEqDiff, Int.reduceToNat, reduceCtorEq, ↓reduceIte]
                              repeat' (first | refine And.intro ?_ ?_ | intro hg)
                              all_goals (try simp (disch := omega) only [wrap_fits])
                              all_goals first
                                | (refine hK _ _ ?_; exact Red.auto)
                                | exact trivial
                                | assumption
                                | omega
                                | exact wrap_fits (by omega) (by omega)
                                | (simp_all; done)
                                | (simp_all; omega))
                           | (simp_all; done)
                           | (simp_all; omega))
                      | (simp_all; done)
                      | (simp_all; omega)
                  · clear hr0 hr1
                    refine awp_cond (t := 37) rfl (fun hc12 => ?_) (fun hc12 => ?_)
                    · replace h := bite_t h hc12
                      refine awp_reg ftCOk [(4, .v (.bool false))] [.row false (.trips a0_1), .row false (.ints .i64 a1), .rbox [.v (.int .i64 a0_0), .sl 0], .row true (.trips y_2), .row true (.ints .i64 y_3), .row true (.trips y_6), .box [.v (.int .i64 y_5), .sl 5], .row true (.ints .i64 y_7), .row true (.trips y_10)] ?_
                      refine awp_ret ?_
                      (try simp only [Thn, InBlk, ↓reduceIte, Nat.reduceEqDiff])
                      obtain rfl := Option.some.inj h
                      refine ⟨by simp, _, [0, 1], (by simp only [go_sem, Nat.reduceBEq, Nat.reduceLT, Nat.reduceAdd, Nat.reduceLeDiff, Nat.reduceSub, Nat.reduceEqDiff, Int.reduceToNat, reduceCtorEq, ↓reduceIte]; exact rfl), ?_, ?_, ?_, ?_⟩
                      · first | exact trivial | exact ⟨trivial, trivial⟩ | exact ⟨trivial, trivial, trivial⟩ | exact ⟨trivial, trivial, trivial, trivial⟩ | (simp only [allP, and_true, true_and]; done) | (simp only [allP, and_true, true_and]; omega)
                      · simp [selOk, pos]
                      · simp
                      · first | exact ⟨rfl, rfl⟩ | (simp only [go_sem, Nat.reduceBEq, Nat.reduceLT, Nat.reduceAdd, Nat.reduceLeDiff, Nat.reduceSub, Nat.reduceEqDiff, Int.reduceToNat, reduceCtorEq, ↓reduceIte]; done) | (simp [go_sem, Nat.reduceBEq, Nat.reduceLT, Nat.reduceAdd, Nat.reduceLeDiff, Nat.reduceSub, Nat.reduceEqDiff, Int.reduceToNat, reduceCtorEq, ↓reduceIte]; done) | (simp only [go_sem, Nat.reduceBEq, Nat.reduceLT, Nat.reduceAdd, Nat.reduceLeDiff, Nat.reduceSub, Nat.reduceEqDiff, Int.reduceToNat, reduceCtorEq, ↓reduceIte]; exact ⟨rfl, rfl⟩) | (simp_all [go_sem, Nat.reduceBEq, Nat.reduceLT, Nat.reduceAdd, Nat.reduceLeDiff, Nat.reduceSub, Nat.reduceEqDiff, Int.reduceToNat, reduceCtorEq, ↓reduceIte]; done)
                    · replace h := bite_f h hc12
                      refine awp_skip ?_
                      (try simp only [Thn, InBlk, ↓reduceIte, Nat.reduceEqDiff])
                      refine hK11 _ _ ?_
                      clear hK11
                      refine awp_seq fun K14 hK14 => ?_
                      replace h := bind_some h
                      obtain ⟨y_12, hr0, h⟩ := h
                      try dsimp only at h
                      replace h := bind_some h
                      obtain ⟨y_13, hr1, h⟩ := h
                      try dsimp only at h
                      refine awp_to [(42, .v (.bool (!y_13)))] [.row false (.trips a0_1), .row false (.ints .i64 a1), .rbox [.v (.int .i64 a0_0), .sl 0], .row true (.trips y_2), .row true (.ints .i64 y_3), .row true (.trips y_6), .box [.v (.int .i64 y_5), .sl 5], .row true (.ints .i64 y_7), .row true (.trips y_10), .row true (.ints .i64 y_12)] ?_ ?_
                      · clear h
                        intro K hK
                        refine awp_region ftCOk ?_
                        simp (maxSteps := 4000000) only [go_sem, Nat.reduceBEq, Nat.reduceLT, Nat.reduceAdd, Nat.reduceLeDiff, Nat.reduceSub, Nat.reduceEqDiff, Int.reduceToNat, reduceCtorEq, ↓reduceIte]
                        repeat' (first | refine And.intro ?_ ?_ | intro hg)
                        all_goals (try simp (disch := omega) only [wrap_fits])
                        all_goals first
                          | (refine hK _ _ ?_; exact Red.auto)
                          | exact trivial
                          | assumption
                          | omega
                          | exact wrap_fits (by omega) (by omega)
                          | (refine wpA_callA (k_laws_toIntS a1 (h := hr0)) [1] [] ?_
                             rintro x Hc' ⟨rfl, rfl⟩ hlen
                             refine vcOps_sound ftCOk ?_
                             simp (maxSteps := 4000000) only [go_sem, Nat.reduceBEq, Nat.reduceLT, Nat.reduceAdd, Nat.reduceLeDiff, Nat.reduceSub, Nat.reduceEqDiff, Int.reduceToNat, reduceCtorEq, ↓reduceIte]
                             repeat' (first | refine And.intro ?_ ?_ | intro hg)
                             all_goals (try simp (disch := omega) only [wrap_fits])
                             all_goals first
                               | (refine hK _ _ ?_; exact Red.auto)
                               | exact trivial
                               | assumption
                               | omega
                               | exact wrap_fits (by omega) (by omega)
                               | (refine wpA_callA (k_laws_eqIntS y_7 y_12 (h := hr1)) [7, 9] [] ?_
                                  rintro x Hc' ⟨rfl, rfl⟩ hlen
                                  refine vcOps_sound ftCOk ?_
                                  simp (maxSteps := 4000000) only [go_sem, Nat.reduceBEq, Nat.reduceLT, Nat.reduceAdd, Nat.reduceLeDiff, Nat.reduceSub, Nat.reduceEqDiff, Int.reduceToNat, reduceCtorEq, ↓reduceIte]
                                  repeat' (first | refine And.intro ?_ ?_ | intro hg)
                                  all_goals (try simp (disch := omega) only [wrap_fits])
                                  all_goals first
                                    | (refine hK _ _ ?_; exact Red.auto)
                                    | exact trivial
                                    | assumption
                                    | omega
                                    | exact wrap_fits (by omega) (by omega)
                                    | (simp_all; done)
                                    | (simp_all; omega))
                               | (simp_all; done)
                               | (simp_all; omega))
                          | (simp_all; done)
                          | (simp_all; omega)
                      · clear hr0 hr1
                        refine awp_cond (t := 42) rfl (fun hc15 => ?_) (fun hc15 => ?_)
                        · replace h := bite_t h hc15
                          refine awp_reg ftCOk [(4, .v (.bool false))] [.row false (.trips a0_1), .row false (.ints .i64 a1), .rbox [.v (.int .i64 a0_0), .sl 0], .row true (.trips y_2), .row true (.ints .i64 y_3), .row true (.trips y_6), .box [.v (.int .i64 y_5), .sl 5], .row true (.ints .i64 y_7), .row true (.trips y_10), .row true (.ints .i64 y_12)] ?_
                          refine awp_ret ?_
                          (try simp only [Thn, InBlk, ↓reduceIte, Nat.reduceEqDiff])
                          obtain rfl := Option.some.inj h
                          refine ⟨by simp, _, [0, 1], (by simp only [go_sem, Nat.reduceBEq, Nat.reduceLT, Nat.reduceAdd, Nat.reduceLeDiff, Nat.reduceSub, Nat.reduceEqDiff, Int.reduceToNat, reduceCtorEq, ↓reduceIte]; exact rfl), ?_, ?_, ?_, ?_⟩
                          · first | exact trivial | exact ⟨trivial, trivial⟩ | exact ⟨trivial, trivial, trivial⟩ | exact ⟨trivial, trivial, trivial, trivial⟩ | (simp only [allP, and_true, true_and]; done) | (simp only [allP, and_true, true_and]; omega)
                          · simp [selOk, pos]
                          · simp
                          · first | exact ⟨rfl, rfl⟩ | (simp only [go_sem, Nat.reduceBEq, Nat.reduceLT, Nat.reduceAdd, Nat.reduceLeDiff, Nat.reduceSub, Nat.reduceEqDiff, Int.reduceToNat, reduceCtorEq, ↓reduceIte]; done) | (simp [go_sem, Nat.reduceBEq, Nat.reduceLT, Nat.reduceAdd, Nat.reduceLeDiff, Nat.reduceSub, Nat.reduceEqDiff, Int.reduceToNat, reduceCtorEq, ↓reduceIte]; done) | (simp only [go_sem, Nat.reduceBEq, Nat.reduceLT, Nat.reduceAdd, Nat.reduceLeDiff, Nat.reduceSub, Nat.reduceEqDiff, Int.reduceToNat, reduceCtorEq, ↓reduceIte]; exact ⟨rfl, rfl⟩) | (simp_all [go_sem, Nat.reduceBEq, Nat.reduceLT, Nat.reduceAdd, Nat.reduceLeDiff, Nat.reduceSub, Nat.reduceEqDiff, Int.reduceToNat, reduceCtorEq, ↓reduceIte]; done)
                        · replace h := bite_f h hc15
                          refine awp_skip ?_
                          (try simp only [Thn, InBlk, ↓reduceIte, Nat.reduceEqDiff])
                          refine hK14 _ _ ?_
                          clear hK14
                          refine awp_reg ftCOk [(4, .v (.bool true))] [.row false (.trips a0_1), .row false (.ints .i64 a1), .rbox [.v (.int .i64 a0_0), .sl 0], .row true (.trips y_2), .row true (.ints .i64 y_3), .row true (.trips y_6), .box [.v (.int .i64 y_5), .sl 5], .row true (.ints .i64 y_7), .row true (.trips y_10), .row true (.ints .i64 y_12)] ?_
                          refine awp_ret ?_
                          (try simp only [Thn, InBlk, ↓reduceIte, Nat.reduceEqDiff])
                          obtain rfl := Option.some.inj h
                          refine ⟨by simp, _, [0, 1], (by simp only [go_sem, Nat.reduceBEq, Nat.reduceLT, Nat.reduceAdd, Nat.reduceLeDiff, Nat.reduceSub, Nat.reduceEqDiff, Int.reduceToNat, reduceCtorEq, ↓reduceIte]; exact rfl), ?_, ?_, ?_, ?_⟩
                          · first | exact trivial | exact ⟨trivial, trivial⟩ | exact ⟨trivial, trivial, trivial⟩ | exact ⟨trivial, trivial, trivial, trivial⟩ | (simp only [allP, and_true, true_and]; done) | (simp only [allP, and_true, true_and]; omega)
                          · simp [selOk, pos]
                          · simp
                          · first | exact ⟨rfl, rfl⟩ | (simp only [go_sem, Nat.reduceBEq, Nat.reduceLT, Nat.reduceAdd, Nat.reduceLeDiff, Nat.reduceSub, Nat.reduceEqDiff, Int.reduceToNat, reduceCtorEq, ↓reduceIte]; done) | (simp [go_sem, Nat.reduceBEq, Nat.reduceLT, Nat.reduceAdd, Nat.reduceLeDiff, Nat.reduceSub, Nat.reduceEqDiff, Int.reduceToNat, reduceCtorEq, ↓reduceIte]; done) | (simp only [go_sem, Nat.reduceBEq, Nat.reduceLT, Nat.reduceAdd, Nat.reduceLeDiff, Nat.reduceSub, Nat.reduceEqDiff, Int.reduceToNat, reduceCtorEq, ↓reduceIte]; exact ⟨rfl, rfl⟩) | (simp_all [go_sem, Nat.reduceBEq, Nat.reduceLT, Nat.reduceAdd, Nat.reduceLeDiff, Nat.reduceSub, Nat.reduceEqDiff, Int.reduceToNat, reduceCtorEq, ↓reduceIte]; done)
theorem k_spec_CutGain (a0_0 : Int) (a0_1 : List (Int × Int × Int)) (a1 : List Bool) (a2 : Int) {r : Int} (h : spec_CutGain a0_0 a0_1 a1 a2 = some r) :
    FnA Try.prog 37 [.agg [.v (.int .i64 a0_0), .sl 0], .sl 1, .v (.int .i64 a2)] [.row false (.trips a0_1), .row false (.bools a1)] [] (fun x H => x = .v (.int .i64 r) ∧ H = [.row false (.trips a0_1), .row false (.bools a1)]) := by
  unfold spec_CutGain at h
  refine FnA.of (N := 44) (pin := [0, 1]) (rs := [.tmp 6]) Try.func37 rfl en37 rfl rfl (by simp) (by simp; try omega) ?_
  refine awp_reg ftCOk [(1, .sl 1), (2, .v (.int .i64 a2)), (3, .pp 2 0)] [.row false (.trips a0_1), .row false (.bools a1), .box [.v (.int .i64 a0_0), .sl 0]] ?_
  refine awp_freeze 3 (by rfl) (by rfl) (by exact rfl) ?_
  refine awp_seq fun K2 hK2 => ?_
  replace h := bind_some h
  obtain ⟨y, hr0, h⟩ := h
  try dsimp only at h
  refine awp_to [(1, .sl 1), (2, .v (.int .i64 a2)), (3, .pp 2 0), (25, .v (.bool (((!y) || ((a1.length : Int) != a0_0)) || (!(decide (0 ≤ a2) && decide (a2 ≤ (IntKind.i64.wrap (a0_0 - 1))))))))] [.row false (.trips a0_1), .row false (.bools a1), .rbox [.v (.int .i64 a0_0), .sl 0]] ?_ ?_
  · clear h
    intro K hK
    refine awp_region ftCOk ?_
    simp (maxSteps := 4000000) only [go_sem, Nat.reduceBEq, Nat.reduceLT, Nat.reduceAdd, Nat.reduceLeDiff, Nat.reduceSub, Nat.reduceEqDiff, Int.reduceToNat, reduceCtorEq, ↓reduceIte]
    repeat' (first | refine And.intro ?_ ?_ | intro hg)
    all_goals (try simp (disch := omega) only [wrap_fits])
    all_goals first
      | (refine hK _ _ ?_; exact Red.auto)
      | exact trivial
      | assumption
      | omega
      | exact wrap_fits (by omega) (by omega)
      | (refine wpA_callA (k_spec_GraphValid a0_0 a0_1 (h := hr0)) [0] [] ?_
         rintro x Hc' ⟨rfl, rfl⟩ hlen
         refine vcOps_sound ftCOk ?_
         simp (maxSteps := 4000000) only [go_sem, Nat.reduceBEq, Nat.reduceLT, Nat.reduceAdd, Nat.reduceLeDiff, Nat.reduceSub, Nat.reduceEqDiff, Int.reduceToNat, reduceCtorEq, ↓reduceIte]
         repeat' (first | refine And.intro ?_ ?_ | intro hg)
         all_goals (try simp (disch := omega) only [wrap_fits])
         all_goals first
           | (refine hK _ _ ?_; exact Red.auto)
           | exact trivial
           | assumption
           | omega
           | exact wrap_fits (by omega) (by omega)
           | (simp_all; done)
           | (simp_all; omega))
      | (simp_all; done)
      | (simp_all; omega)
  · clear hr0
    refine awp_cond (t := 25) rfl (fun hc3 => ?_) (fun hc3 => ?_)
    · replace h := bite_t h hc3
      refine awp_reg ftCOk [(6, .v (.int .i64 0))] [.row false (.trips a0_1), .row false (.bools a1), .rbox [.v (.int .i64 a0_0), .sl 0]] ?_
      refine awp_ret ?_
      (try simp only [Thn, InBlk, ↓reduceIte, Nat.reduceEqDiff])
      obtain rfl := Option.some.inj h
      refine ⟨by simp, _, [0, 1], (by simp only [go_sem, Nat.reduceBEq, Nat.reduceLT, Nat.reduceAdd, Nat.reduceLeDiff, Nat.reduceSub, Nat.reduceEqDiff, Int.reduceToNat, reduceCtorEq, ↓reduceIte]; exact rfl), ?_, ?_, ?_, ?_⟩
      · first | exact trivial | exact ⟨trivial, trivial⟩ | exact ⟨trivial, trivial, trivial⟩ | exact ⟨trivial, trivial, trivial, trivial⟩ | (simp only [allP, and_true, true_and]; done) | (simp only [allP, and_true, true_and]; omega)
      · simp [selOk, pos]
      · simp
      · first | exact ⟨rfl, rfl⟩ | (simp only [go_sem, Nat.reduceBEq, Nat.reduceLT, Nat.reduceAdd, Nat.reduceLeDiff, Nat.reduceSub, Nat.reduceEqDiff, Int.reduceToNat, reduceCtorEq, ↓reduceIte]; done) | (simp [go_sem, Nat.reduceBEq, Nat.reduceLT, Nat.reduceAdd, Nat.reduceLeDiff, Nat.reduceSub, Nat.reduceEqDiff, Int.reduceToNat, reduceCtorEq, ↓reduceIte]; done) | (simp only [go_sem, Nat.reduceBEq, Nat.reduceLT, Nat.reduceAdd, Nat.reduceLeDiff, Nat.reduceSub, Nat.reduceEqDiff, Int.reduceToNat, reduceCtorEq, ↓reduceIte]; exact ⟨rfl, rfl⟩) | (simp_all [go_sem, Nat.reduceBEq, Nat.reduceLT, Nat.reduceAdd, Nat.reduceLeDiff, Nat.reduceSub, Nat.reduceEqDiff, Int.reduceToNat, reduceCtorEq, ↓reduceIte]; done)
    · replace h := bite_f h hc3
      refine awp_skip ?_
      (try simp only [Thn, InBlk, ↓reduceIte, Nat.reduceEqDiff])
      refine hK2 _ _ ?_
      clear hK2
      replace h := chk_some h
      obtain ⟨hp0, h⟩ := h
      refine awp_reg ftCOk [(1, .sl 1), (2, .v (.int .i64 a2)), (3, .pp 2 0), (7, .sl 3)] [.row false (.trips a0_1), .row false (.bools a1), .rbox [.v (.int .i64 a0_0), .sl 0], .row true (.bools ([] ++ a1))] ?_
      clear hp0
      replace h := chk_some h
      obtain ⟨hp0, h⟩ := h
      replace h := chk_some h
      obtain ⟨hp1, h⟩ := h
      refine awp_reg ftCOk [(1, .sl 1), (3, .pp 2 0), (7, .sl 3)] [.row false (.trips a0_1), .row false (.bools a1), .rbox [.v (.int .i64 a0_0), .sl 0], .row true (.bools (([] ++ a1).set a2.toNat (!(a1.getD a2.toNat false))))] ?_
      clear hp0 hp1
      replace h := bind_some h
      obtain ⟨y_1, hr0, h⟩ := h
      try dsimp only at h
      replace h := bind_some h
      obtain ⟨y_2, hr1, h⟩ := h
      try dsimp only at h
      replace h := chk_some h
      obtain ⟨hp2, h⟩ := h
      have hwhp2 := wrap_fits hp2.1 hp2.2
      refine awp_to [(6, .v (.int .i64 (y_1 - y_2)))] [.row false (.trips a0_1), .row false (.bools a1), .rbox [.v (.int .i64 a0_0), .sl 0], .row true (.bools (([] ++ a1).set a2.toNat (!(a1.getD a2.toNat false))))] ?_ ?_
      · clear h
        intro K hK
        refine awp_drawT mixed ftCOk (.free 1 (.free 4 (.free 0 (.free 3 (.one 2 (.one 5 (.one 6 (.one 7 .fin)))))))) (by kernel_rfl) (by simp) ?_
        simp (maxSteps := 4000000) only [go_sem, Nat.reduceBEq, Nat.reduceLT, Nat.reduceAdd, Nat.reduceLeDiff, Nat.reduceSub, Nat.reduceEqDiff, Int.reduceToNat, reduceCtorEq, ↓reduceIte]
        repeat' (first | refine And.intro ?_ ?_ | intro hg)
        all_goals (try simp (disch := omega) only [wrap_fits])
        all_goals first
          | (refine hK _ _ ?_; exact Red.auto)
          | exact trivial
          | assumption
          | omega
          | exact wrap_fits (by omega) (by omega)
          | (refine OpK_callA (k_spec_CutWeight a0_0 a0_1 a1 (h := hr0)) [0, 1] [] ?_
             rintro x Hc' ⟨rfl, rfl⟩ hlen
             simp (maxSteps := 4000000) only [go_sem, Nat.reduceBEq, Nat.reduceLT, Nat.reduceAdd, Nat.reduceLeDiff, Nat.reduceSub, Nat.reduceEqDiff, Int.reduceToNat, reduceCtorEq, ↓reduceIte]
             repeat' (first | refine And.intro ?_ ?_ | intro hg)
             all_goals (try simp (disch := omega) only [wrap_fits])
             all_goals first
               | (refine hK _ _ ?_; exact Red.auto)
               | exact trivial
               | assumption
               | omega
               | exact wrap_fits (by omega) (by omega)
               | (refine OpK_callA (k_spec_CutWeight a0_0 a0_1 (([] ++ a1).set a2.toNat (!(a1.getD a2.toNat false))) (h := hr1)) [0, 3] [] ?_
                  rintro x Hc' ⟨rfl, rfl⟩ hlen
                  simp (maxSteps := 4000000) only [go_sem, Nat.reduceBEq, Nat.reduceLT, Nat.reduceAdd, Nat.reduceLeDiff, Nat.reduceSub, Nat.reduceEqDiff, Int.reduceToNat, reduceCtorEq, ↓reduceIte]
                  repeat' (first | refine And.intro ?_ ?_ | intro hg)
                  all_goals (try simp (disch := omega) only [wrap_fits])
                  all_goals first
                    | (refine hK _ _ ?_; exact Red.auto)
                    | exact trivial
                    | assumption
                    | omega
                    | exact wrap_fits (by omega) (by omega)
                    | (simp_all; done)
                    | (simp_all; omega))
               | (simp_all; done)
               | (simp_all; omega))
          | (simp_all; done)
          | (simp_all; omega)
      · clear hr0 hr1 hp2
        refine awp_ret ?_
        (try simp only [Thn, InBlk, ↓reduceIte, Nat.reduceEqDiff])
        obtain rfl := Option.some.inj h
        refine ⟨by simp, _, [0, 1], (by simp only [go_sem, Nat.reduceBEq, Nat.reduceLT, Nat.reduceAdd, Nat.reduceLeDiff, Nat.reduceSub, Nat.reduceEqDiff, Int.reduceToNat, reduceCtorEq, ↓reduceIte]; exact rfl), ?_, ?_, ?_, ?_⟩
        · first | exact trivial | exact ⟨trivial, trivial⟩ | exact ⟨trivial, trivial, trivial⟩ | exact ⟨trivial, trivial, trivial, trivial⟩ | (simp only [allP, and_true, true_and]; done) | (simp only [allP, and_true, true_and]; omega)
        · simp [selOk, pos]
        · simp
        · first | exact ⟨rfl, rfl⟩ | (simp only [go_sem, Nat.reduceBEq, Nat.reduceLT, Nat.reduceAdd, Nat.reduceLeDiff, Nat.reduceSub, Nat.reduceEqDiff, Int.reduceToNat, reduceCtorEq, ↓reduceIte]; done) | (simp [go_sem, Nat.reduceBEq, Nat.reduceLT, Nat.reduceAdd, Nat.reduceLeDiff, Nat.reduceSub, Nat.reduceEqDiff, Int.reduceToNat, reduceCtorEq, ↓reduceIte]; done) | (simp only [go_sem, Nat.reduceBEq, Nat.reduceLT, Nat.reduceAdd, Nat.reduceLeDiff, Nat.reduceSub, Nat.reduceEqDiff, Int.reduceToNat, reduceCtorEq, ↓reduceIte]; exact ⟨rfl, rfl⟩) | (simp_all [go_sem, Nat.reduceBEq, Nat.reduceLT, Nat.reduceAdd, Nat.reduceLeDiff, Nat.reduceSub, Nat.reduceEqDiff, Int.reduceToNat, reduceCtorEq, ↓reduceIte]; done)
theorem k_impl_gainOf (a0_0 : Int) (a0_1 : List (Int × Int × Int)) (a1 : List Bool) (a2 : Int) {r : Int} (h : impl_gainOf a0_0 a0_1 a1 a2 = some r) :
    FnA Try.prog 63 [.agg [.v (.int .i64 a0_0), .sl 0], .sl 1, .v (.int .i64 a2)] [.row false (.trips a0_1), .row false (.bools a1)] [] (fun x H => x = .v (.int .i64 r) ∧ H = [.row false (.trips a0_1), .row false (.bools a1)]) := by
  unfold impl_gainOf at h
  refine FnA.of (N := 48) (pin := [0, 1]) (rs := [.tmp 6]) Try.func63 rfl en63 rfl rfl (by simp) (by simp; try omega) ?_
  refine awp_reg ftCOk [(1, .sl 1), (2, .v (.int .i64 a2)), (3, .pp 2 0)] [.row false (.trips a0_1), .row false (.bools a1), .box [.v (.int .i64 a0_0), .sl 0]] ?_
  refine awp_freeze 3 (by rfl) (by rfl) (by exact rfl) ?_
  refine awp_reg ftCOk [(1, .sl 1), (2, .v (.int .i64 a2)), (3, .pp 2 0), (7, .v (.int .i64 0))] [.row false (.trips a0_1), .row false (.bools a1), .rbox [.v (.int .i64 a0_0), .sl 0]] ?_
  refine awp_seq fun K35 hK35 => ?_
  refine awp_reg ftCOk [(1, .sl 1), (2, .v (.int .i64 a2)), (7, .v (.int .i64 0)), (11, .sl 0), (12, .v (.int .i64 (a0_1.length : Int))), (13, .v (.int .i64 0))] [.row false (.trips a0_1), .row false (.bools a1), .rbox [.v (.int .i64 a0_0), .sl 0]] ?_
  refine awp_block ?_
  replace h := bind_some h
  obtain ⟨t7_1, hx, h⟩ := h
  refine awp_loopL hx (fun ((t7, t13) : Int × Int) => [(1, .sl 1), (2, .v (.int .i64 a2)), (7, .v (.int .i64 t7)), (11, .sl 0), (12, .v (.int .i64 (a0_1.length : Int))), (13, .v (.int .i64 t13))]) (fun ((t7, t13) : Int × Int) => [.row false (.trips a0_1), .row false (.bools a1)]) (fun (t7_1 : Int) => Exit.exit 0) (fun (t7_1 : Int) => [(7, .v (.int .i64 t7_1))]) (fun (t7_1 : Int) => [.row false (.trips a0_1), .row false (.bools a1)]) ?_ ?_ ?_ ?_
  · rintro t7_1 hy <;> cases hy
  · clear h hx
    exact Red.selA [0, 1] Red.auto
  · clear h hx
    rintro ⟨t7, t13⟩ r h
    unfold impl_gainOf_b1 at h
    try dsimp only at h
    try dsimp only
    refine awp_reg ftCOk [(1, .sl 1), (2, .v (.int .i64 a2)), (7, .v (.int .i64 t7)), (11, .sl 0), (12, .v (.int .i64 (a0_1.length : Int))), (13, .v (.int .i64 t13)), (14, .v (.bool (decide (t13 < (a0_1.length : Int)))))] [.row false (.trips a0_1), .row false (.bools a1)] ?_
    refine awp_seq fun K59 hK59 => ?_
    refine awp_cond (t := 14) rfl (fun hc60 => ?_) (fun hc60 => ?_)
    · replace h := bite_t h hc60
      refine awp_skip ?_
      (try simp only [Thn, InBlk, ↓reduceIte, Nat.reduceEqDiff])
      refine hK59 _ _ ?_
      clear hK59
      refine awp_join h (fun (t7_2 : Int) => [(1, .sl 1), (2, .v (.int .i64 a2)), (7, .v (.int .i64 t7_2)), (11, .sl 0), (12, .v (.int .i64 (a0_1.length : Int))), (13, .v (.int .i64 t13))]) (fun (t7_2 : Int) => [.row false (.trips a0_1), .row false (.bools a1)]) ?_ ?_
      · clear h
        intro k h
        try dsimp only at h
        refine awp_block ?_
        replace h := chk_some h
        obtain ⟨hp0, h⟩ := h
        refine awp_reg ftCOk [(1, .sl 1), (2, .v (.int .i64 a2)), (7, .v (.int .i64 t7)), (9, .pp 2 0), (11, .sl 0), (12, .v (.int .i64 (a0_1.length : Int))), (13, .v (.int .i64 t13))] [.row false (.trips a0_1), .row false (.bools a1), .box [.v (.int .i64 ((a0_1.getD t13.toNat (0, 0, 0)).1)), .v (.int .i64 ((a0_1.getD t13.toNat (0, 0, 0)).2.1)), .v (.int .i64 ((a0_1.getD t13.toNat (0, 0, 0)).2.2))]] ?_
        clear hp0
        refine awp_seq fun K66 hK66 => ?_
        refine awp_reg ftCOk [(1, .sl 1), (2, .v (.int .i64 a2)), (7, .v (.int .i64 t7)), (9, .pp 2 0), (11, .sl 0), (12, .v (.int .i64 (a0_1.length : Int))), (13, .v (.int .i64 t13)), (26, .v (.bool (((a0_1.getD t13.toNat (0, 0, 0)).1 != a2) && ((a0_1.getD t13.toNat (0, 0, 0)).2.1 != a2))))] [.row false (.trips a0_1), .row false (.bools a1), .box [.v (.int .i64 ((a0_1.getD t13.toNat (0, 0, 0)).1)), .v (.int .i64 ((a0_1.getD t13.toNat (0, 0, 0)).2.1)), .v (.int .i64 ((a0_1.getD t13.toNat (0, 0, 0)).2.2))]] ?_
        refine awp_cond (t := 26) rfl (fun hc67 => ?_) (fun hc67 => ?_)
        · replace h := bite_t h hc67
          refine awp_exit ?_
          (try simp only [Thn, InBlk, ↓reduceIte, Nat.reduceEqDiff])
          (try simp only [Thn, InBlk, ↓reduceIte, Nat.reduceEqDiff])
          (try simp only [Thn, InBlk, ↓reduceIte, Nat.reduceEqDiff])
          refine ⟨_, h, ?_⟩
          exact Red.selA [0, 1] Red.auto
        · replace h := bite_f h hc67
          refine awp_skip ?_
          (try simp only [Thn, InBlk, ↓reduceIte, Nat.reduceEqDiff])
          refine hK66 _ _ ?_
          clear hK66
          replace h := chk_some h
          obtain ⟨hp0, h⟩ := h
          replace h := chk_some h
          obtain ⟨hp1, h⟩ := h
          refine awp_regQ mixed ftCOk [(1, .sl 1), (2, .v (.int .i64 a2)), (7, .v (.int .i64 t7)), (9, .pp 2 0), (11, .sl 0), (12, .v (.int .i64 (a0_1.length : Int))), (13, .v (.int .i64 t13)), (37, .v (.bool (!((a1.getD (((a0_1.getD t13.toNat (0, 0, 0)).1).toNat) false) == (a1.getD (((a0_1.getD t13.toNat (0, 0, 0)).2.1).toNat) false)))))] [.row false (.trips a0_1), .row false (.bools a1), .box [.v (.int .i64 ((a0_1.getD t13.toNat (0, 0, 0)).1)), .v (.int .i64 ((a0_1.getD t13.toNat (0, 0, 0)).2.1)), .v (.int .i64 ((a0_1.getD t13.toNat (0, 0, 0)).2.2))]] ?_
          clear hp0 hp1
          refine awp_cond (t := 37) rfl (fun hc68 => ?_) (fun hc68 => ?_)
          · replace h := bite_t h hc68
            replace h := chk_some h
            obtain ⟨hp0, h⟩ := h
            refine awp_regE ftCOk [(1, .sl 1), (2, .v (.int .i64 a2)), (7, .v (.int .i64 (t7 + (a0_1.getD t13.toNat (0, 0, 0)).2.2))), (11, .sl 0), (12, .v (.int .i64 (a0_1.length : Int))), (13, .v (.int .i64 t13))] [.row false (.trips a0_1), .row false (.bools a1), .box [.v (.int .i64 ((a0_1.getD t13.toNat (0, 0, 0)).1)), .v (.int .i64 ((a0_1.getD t13.toNat (0, 0, 0)).2.1)), .v (.int .i64 ((a0_1.getD t13.toNat (0, 0, 0)).2.2))]] ?_
            clear hp0
            (try simp only [Thn, InBlk, ↓reduceIte, Nat.reduceEqDiff])
            (try simp only [Thn, InBlk, ↓reduceIte, Nat.reduceEqDiff])
            refine ⟨_, h, ?_⟩
            exact Red.selA [0, 1] Red.auto
          · replace h := bite_f h hc68
            replace h := chk_some h
            obtain ⟨hp0, h⟩ := h
            have hwhp0 := wrap_fits hp0.1 hp0.2
            refine awp_regE ftCOk [(1, .sl 1), (2, .v (.int .i64 a2)), (7, .v (.int .i64 (t7 - (a0_1.getD t13.toNat (0, 0, 0)).2.2))), (11, .sl 0), (12, .v (.int .i64 (a0_1.length : Int))), (13, .v (.int .i64 t13))] [.row false (.trips a0_1), .row false (.bools a1), .box [.v (.int .i64 ((a0_1.getD t13.toNat (0, 0, 0)).1)), .v (.int .i64 ((a0_1.getD t13.toNat (0, 0, 0)).2.1)), .v (.int .i64 ((a0_1.getD t13.toNat (0, 0, 0)).2.2))]] ?_
            clear hp0
            (try simp only [Thn, InBlk, ↓reduceIte, Nat.reduceEqDiff])
            (try simp only [Thn, InBlk, ↓reduceIte, Nat.reduceEqDiff])
            refine ⟨_, h, ?_⟩
            exact Red.selA [0, 1] Red.auto
      · clear h
        rintro t7_2 h
        try dsimp only at h
        try dsimp only
        replace h := chk_some h
        obtain ⟨hp0, h⟩ := h
        refine awp_regE ftCOk [(1, .sl 1), (2, .v (.int .i64 a2)), (7, .v (.int .i64 t7_2)), (11, .sl 0), (12, .v (.int .i64 (a0_1.length : Int))), (13, .v (.int .i64 (t13 + 1)))] [.row false (.trips a0_1), .row false (.bools a1)] ?_
        clear hp0
        obtain rfl := Option.some.inj h
        refine LoopQ.next ?_
        exact Red.auto
    · replace h := bite_f h hc60
      refine awp_exit ?_
      (try simp only [Thn, InBlk, ↓reduceIte, Nat.reduceEqDiff])
      obtain rfl := Option.some.inj h
      refine LoopQ.out rfl ?_
      exact Red.auto
  · clear hx
    skip
    · try dsimp only [Sum.elim_inl, Sum.elim_inr] at h
      try dsimp only [Sum.elim_inl, Sum.elim_inr]
      (try simp only [Thn, InBlk, ↓reduceIte, Nat.reduceEqDiff])
      (try simp only [Thn, InBlk, ↓reduceIte, Nat.reduceEqDiff])
      (try simp only [Thn, InBlk, ↓reduceIte, Nat.reduceEqDiff])
      refine hK35 _ _ ?_
      clear hK35
      refine awp_reg ftCOk [(6, .v (.int .i64 t7_1))] [.row false (.trips a0_1), .row false (.bools a1)] ?_
      refine awp_ret ?_
      (try simp only [Thn, InBlk, ↓reduceIte, Nat.reduceEqDiff])
      obtain rfl := Option.some.inj h
      refine ⟨by simp, _, [0, 1], (by simp only [go_sem, Nat.reduceBEq, Nat.reduceLT, Nat.reduceAdd, Nat.reduceLeDiff, Nat.reduceSub, Nat.reduceEqDiff, Int.reduceToNat, reduceCtorEq, ↓reduceIte]; exact rfl), ?_, ?_, ?_, ?_⟩
      · first | exact trivial | exact ⟨trivial, trivial⟩ | exact ⟨trivial, trivial, trivial⟩ | exact ⟨trivial, trivial, trivial, trivial⟩ | (simp only [allP, and_true, true_and]; done) | (simp only [allP, and_true, true_and]; omega)
      · simp [selOk, pos]
      · simp
      · first | exact ⟨rfl, rfl⟩ | (simp only [go_sem, Nat.reduceBEq, Nat.reduceLT, Nat.reduceAdd, Nat.reduceLeDiff, Nat.reduceSub, Nat.reduceEqDiff, Int.reduceToNat, reduceCtorEq, ↓reduceIte]; done) | (simp [go_sem, Nat.reduceBEq, Nat.reduceLT, Nat.reduceAdd, Nat.reduceLeDiff, Nat.reduceSub, Nat.reduceEqDiff, Int.reduceToNat, reduceCtorEq, ↓reduceIte]; done) | (simp only [go_sem, Nat.reduceBEq, Nat.reduceLT, Nat.reduceAdd, Nat.reduceLeDiff, Nat.reduceSub, Nat.reduceEqDiff, Int.reduceToNat, reduceCtorEq, ↓reduceIte]; exact ⟨rfl, rfl⟩) | (simp_all [go_sem, Nat.reduceBEq, Nat.reduceLT, Nat.reduceAdd, Nat.reduceLeDiff, Nat.reduceSub, Nat.reduceEqDiff, Int.reduceToNat, reduceCtorEq, ↓reduceIte]; done)
theorem k_impl_CutGain (a0_0 : Int) (a0_1 : List (Int × Int × Int)) (a1 : List Bool) (a2 : Int) {r : Int} (h : impl_CutGain a0_0 a0_1 a1 a2 = some r) :
    FnA Try.prog 38 [.agg [.v (.int .i64 a0_0), .sl 0], .sl 1, .v (.int .i64 a2)] [.row false (.trips a0_1), .row false (.bools a1)] [] (fun x H => x = .v (.int .i64 r) ∧ H = [.row false (.trips a0_1), .row false (.bools a1)]) := by
  unfold impl_CutGain at h
  refine FnA.of (N := 21) (pin := [0, 1]) (rs := [.tmp 6]) Try.func38 rfl en38 rfl rfl (by simp) (by simp; try omega) ?_
  refine awp_reg ftCOk [(1, .sl 1), (2, .v (.int .i64 a2)), (3, .pp 2 0)] [.row false (.trips a0_1), .row false (.bools a1), .box [.v (.int .i64 a0_0), .sl 0]] ?_
  refine awp_freeze 3 (by rfl) (by rfl) (by exact rfl) ?_
  refine awp_seq fun K2 hK2 => ?_
  replace h := bind_some h
  obtain ⟨y, hr0, h⟩ := h
  try dsimp only at h
  replace h := bind_some h
  obtain ⟨y_1, hr1, h⟩ := h
  try dsimp only at h
  refine awp_to [(1, .sl 1), (2, .v (.int .i64 a2)), (3, .pp 2 0), (16, .v (.bool ((!y) || (!y_1))))] [.row false (.trips a0_1), .row false (.bools a1), .rbox [.v (.int .i64 a0_0), .sl 0]] ?_ ?_
  · clear h
    intro K hK
    refine awp_region ftCOk ?_
    simp (maxSteps := 4000000) only [go_sem, Nat.reduceBEq, Nat.reduceLT, Nat.reduceAdd, Nat.reduceLeDiff, Nat.reduceSub, Nat.reduceEqDiff, Int.reduceToNat, reduceCtorEq, ↓reduceIte]
    repeat' (first | refine And.intro ?_ ?_ | intro hg)
    all_goals (try simp (disch := omega) only [wrap_fits])
    all_goals first
      | (refine hK _ _ ?_; exact Red.auto)
      | exact trivial
      | assumption
      | omega
      | exact wrap_fits (by omega) (by omega)
      | (refine wpA_callA (k_impl_sidesFit a0_0 a0_1 a1 (h := hr0)) [0, 1] [] ?_
         rintro x Hc' ⟨rfl, rfl⟩ hlen
         refine vcOps_sound ftCOk ?_
         simp (maxSteps := 4000000) only [go_sem, Nat.reduceBEq, Nat.reduceLT, Nat.reduceAdd, Nat.reduceLeDiff, Nat.reduceSub, Nat.reduceEqDiff, Int.reduceToNat, reduceCtorEq, ↓reduceIte]
         repeat' (first | refine And.intro ?_ ?_ | intro hg)
         all_goals (try simp (disch := omega) only [wrap_fits])
         all_goals first
           | (refine hK _ _ ?_; exact Red.auto)
           | exact trivial
           | assumption
           | omega
           | exact wrap_fits (by omega) (by omega)
           | (refine wpA_guard rfl rfl ?_
              refine wpA_callA (k_impl_Graph_has a0_0 a0_1 a2 (h := (bite_t hr1 (by rw [Bool.not_eq_true']; assumption)))) [0] [] ?_
              rintro x Hc' ⟨rfl, rfl⟩ hlen
              refine vcOps_sound ftCOk ?_
              simp (maxSteps := 4000000) only [go_sem, Nat.reduceBEq, Nat.reduceLT, Nat.reduceAdd, Nat.reduceLeDiff, Nat.reduceSub, Nat.reduceEqDiff, Int.reduceToNat, reduceCtorEq, ↓reduceIte]
              repeat' (first | refine And.intro ?_ ?_ | intro hg)
              all_goals (try simp (disch := omega) only [wrap_fits])
              all_goals first
                | (refine hK _ _ ?_; exact Red.auto)
                | exact trivial
                | assumption
                | omega
                | exact wrap_fits (by omega) (by omega)
                | (simp_all; done)
                | (simp_all; omega))
           | (simp_all; done)
           | (simp_all; omega))
      | (simp_all; done)
      | (simp_all; omega)
  · clear hr0 hr1
    refine awp_cond (t := 16) rfl (fun hc3 => ?_) (fun hc3 => ?_)
    · replace h := bite_t h hc3
      refine awp_reg ftCOk [(6, .v (.int .i64 0))] [.row false (.trips a0_1), .row false (.bools a1), .rbox [.v (.int .i64 a0_0), .sl 0]] ?_
      refine awp_ret ?_
      (try simp only [Thn, InBlk, ↓reduceIte, Nat.reduceEqDiff])
      obtain rfl := Option.some.inj h
      refine ⟨by simp, _, [0, 1], (by simp only [go_sem, Nat.reduceBEq, Nat.reduceLT, Nat.reduceAdd, Nat.reduceLeDiff, Nat.reduceSub, Nat.reduceEqDiff, Int.reduceToNat, reduceCtorEq, ↓reduceIte]; exact rfl), ?_, ?_, ?_, ?_⟩
      · first | exact trivial | exact ⟨trivial, trivial⟩ | exact ⟨trivial, trivial, trivial⟩ | exact ⟨trivial, trivial, trivial, trivial⟩ | (simp only [allP, and_true, true_and]; done) | (simp only [allP, and_true, true_and]; omega)
      · simp [selOk, pos]
      · simp
      · first | exact ⟨rfl, rfl⟩ | (simp only [go_sem, Nat.reduceBEq, Nat.reduceLT, Nat.reduceAdd, Nat.reduceLeDiff, Nat.reduceSub, Nat.reduceEqDiff, Int.reduceToNat, reduceCtorEq, ↓reduceIte]; done) | (simp [go_sem, Nat.reduceBEq, Nat.reduceLT, Nat.reduceAdd, Nat.reduceLeDiff, Nat.reduceSub, Nat.reduceEqDiff, Int.reduceToNat, reduceCtorEq, ↓reduceIte]; done) | (simp only [go_sem, Nat.reduceBEq, Nat.reduceLT, Nat.reduceAdd, Nat.reduceLeDiff, Nat.reduceSub, Nat.reduceEqDiff, Int.reduceToNat, reduceCtorEq, ↓reduceIte]; exact ⟨rfl, rfl⟩) | (simp_all [go_sem, Nat.reduceBEq, Nat.reduceLT, Nat.reduceAdd, Nat.reduceLeDiff, Nat.reduceSub, Nat.reduceEqDiff, Int.reduceToNat, reduceCtorEq, ↓reduceIte]; done)
    · replace h := bite_f h hc3
      refine awp_skip ?_
      (try simp only [Thn, InBlk, ↓reduceIte, Nat.reduceEqDiff])
      refine hK2 _ _ ?_
      clear hK2
      replace h := bind_some h
      obtain ⟨y_2, hr0, h⟩ := h
      try dsimp only at h
      refine awp_to [(6, .v (.int .i64 y_2))] [.row false (.trips a0_1), .row false (.bools a1), .rbox [.v (.int .i64 a0_0), .sl 0]] ?_ ?_
      · clear h
        intro K hK
        refine awp_region ftCOk ?_
        simp (maxSteps := 4000000) only [go_sem, Nat.reduceBEq, Nat.reduceLT, Nat.reduceAdd, Nat.reduceLeDiff, Nat.reduceSub, Nat.reduceEqDiff, Int.reduceToNat, reduceCtorEq, ↓reduceIte]
        repeat' (first | refine And.intro ?_ ?_ | intro hg)
        all_goals (try simp (disch := omega) only [wrap_fits])
        all_goals first
          | (refine hK _ _ ?_; exact Red.auto)
          | exact trivial
          | assumption
          | omega
          | exact wrap_fits (by omega) (by omega)
          | (refine wpA_callA (k_impl_gainOf a0_0 a0_1 a1 a2 (h := hr0)) [0, 1] [] ?_
             rintro x Hc' ⟨rfl, rfl⟩ hlen
             refine vcOps_sound ftCOk ?_
             simp (maxSteps := 4000000) only [go_sem, Nat.reduceBEq, Nat.reduceLT, Nat.reduceAdd, Nat.reduceLeDiff, Nat.reduceSub, Nat.reduceEqDiff, Int.reduceToNat, reduceCtorEq, ↓reduceIte]
             repeat' (first | refine And.intro ?_ ?_ | intro hg)
             all_goals (try simp (disch := omega) only [wrap_fits])
             all_goals first
               | (refine hK _ _ ?_; exact Red.auto)
               | exact trivial
               | assumption
               | omega
               | exact wrap_fits (by omega) (by omega)
               | (simp_all; done)
               | (simp_all; omega))
          | (simp_all; done)
          | (simp_all; omega)
      · clear hr0
        refine awp_ret ?_
        (try simp only [Thn, InBlk, ↓reduceIte, Nat.reduceEqDiff])
        obtain rfl := Option.some.inj h
        refine ⟨by simp, _, [0, 1], (by simp only [go_sem, Nat.reduceBEq, Nat.reduceLT, Nat.reduceAdd, Nat.reduceLeDiff, Nat.reduceSub, Nat.reduceEqDiff, Int.reduceToNat, reduceCtorEq, ↓reduceIte]; exact rfl), ?_, ?_, ?_, ?_⟩
        · first | exact trivial | exact ⟨trivial, trivial⟩ | exact ⟨trivial, trivial, trivial⟩ | exact ⟨trivial, trivial, trivial, trivial⟩ | (simp only [allP, and_true, true_and]; done) | (simp only [allP, and_true, true_and]; omega)
        · simp [selOk, pos]
        · simp
        · first | exact ⟨rfl, rfl⟩ | (simp only [go_sem, Nat.reduceBEq, Nat.reduceLT, Nat.reduceAdd, Nat.reduceLeDiff, Nat.reduceSub, Nat.reduceEqDiff, Int.reduceToNat, reduceCtorEq, ↓reduceIte]; done) | (simp [go_sem, Nat.reduceBEq, Nat.reduceLT, Nat.reduceAdd, Nat.reduceLeDiff, Nat.reduceSub, Nat.reduceEqDiff, Int.reduceToNat, reduceCtorEq, ↓reduceIte]; done) | (simp only [go_sem, Nat.reduceBEq, Nat.reduceLT, Nat.reduceAdd, Nat.reduceLeDiff, Nat.reduceSub, Nat.reduceEqDiff, Int.reduceToNat, reduceCtorEq, ↓reduceIte]; exact ⟨rfl, rfl⟩) | (simp_all [go_sem, Nat.reduceBEq, Nat.reduceLT, Nat.reduceAdd, Nat.reduceLeDiff, Nat.reduceSub, Nat.reduceEqDiff, Int.reduceToNat, reduceCtorEq, ↓reduceIte]; done)
theorem k_laws_FnExactCutGain (a0_0 : Int) (a0_1 : List (Int × Int × Int)) (a1 : List Bool) (a2 : Int) {r : Bool} (h : laws_FnExactCutGain a0_0 a0_1 a1 a2 = some r) :
    FnA Try.prog 8 [.agg [.v (.int .i64 a0_0), .sl 0], .sl 1, .v (.int .i64 a2)] [.row false (.trips a0_1), .row false (.bools a1)] [] (fun x H => x = .v (.bool r) ∧ H = [.row false (.trips a0_1), .row false (.bools a1)]) := by
  unfold laws_FnExactCutGain at h
  refine FnA.of (N := 47) (pin := [0, 1]) (rs := [.tmp 6]) Try.func8 rfl en8 rfl rfl (by simp) (by simp; try omega) ?_
  refine awp_reg ftCOk [(1, .sl 1), (2, .v (.int .i64 a2)), (3, .pp 2 0)] [.row false (.trips a0_1), .row false (.bools a1), .box [.v (.int .i64 a0_0), .sl 0]] ?_
  refine awp_freeze 3 (by rfl) (by rfl) (by exact rfl) ?_
  refine awp_seq fun K2 hK2 => ?_
  refine awp_reg ftCOk [(1, .sl 1), (2, .v (.int .i64 a2)), (3, .pp 2 0), (14, .v (.bool (decide (1048576 < (a1.length : Int)))))] [.row false (.trips a0_1), .row false (.bools a1), .rbox [.v (.int .i64 a0_0), .sl 0]] ?_
  refine awp_cond (t := 14) rfl (fun hc3 => ?_) (fun hc3 => ?_)
  · replace h := bite_t h hc3
    refine awp_reg ftCOk [(6, .v (.bool true))] [.row false (.trips a0_1), .row false (.bools a1), .rbox [.v (.int .i64 a0_0), .sl 0]] ?_
    refine awp_ret ?_
    (try simp only [Thn, InBlk, ↓reduceIte, Nat.reduceEqDiff])
    obtain rfl := Option.some.inj h
    refine ⟨by simp, _, [0, 1], (by simp only [go_sem, Nat.reduceBEq, Nat.reduceLT, Nat.reduceAdd, Nat.reduceLeDiff, Nat.reduceSub, Nat.reduceEqDiff, Int.reduceToNat, reduceCtorEq, ↓reduceIte]; exact rfl), ?_, ?_, ?_, ?_⟩
    · first | exact trivial | exact ⟨trivial, trivial⟩ | exact ⟨trivial, trivial, trivial⟩ | exact ⟨trivial, trivial, trivial, trivial⟩ | (simp only [allP, and_true, true_and]; done) | (simp only [allP, and_true, true_and]; omega)
    · simp [selOk, pos]
    · simp
    · first | exact ⟨rfl, rfl⟩ | (simp only [go_sem, Nat.reduceBEq, Nat.reduceLT, Nat.reduceAdd, Nat.reduceLeDiff, Nat.reduceSub, Nat.reduceEqDiff, Int.reduceToNat, reduceCtorEq, ↓reduceIte]; done) | (simp [go_sem, Nat.reduceBEq, Nat.reduceLT, Nat.reduceAdd, Nat.reduceLeDiff, Nat.reduceSub, Nat.reduceEqDiff, Int.reduceToNat, reduceCtorEq, ↓reduceIte]; done) | (simp only [go_sem, Nat.reduceBEq, Nat.reduceLT, Nat.reduceAdd, Nat.reduceLeDiff, Nat.reduceSub, Nat.reduceEqDiff, Int.reduceToNat, reduceCtorEq, ↓reduceIte]; exact ⟨rfl, rfl⟩) | (simp_all [go_sem, Nat.reduceBEq, Nat.reduceLT, Nat.reduceAdd, Nat.reduceLeDiff, Nat.reduceSub, Nat.reduceEqDiff, Int.reduceToNat, reduceCtorEq, ↓reduceIte]; done)
  · replace h := bite_f h hc3
    refine awp_skip ?_
    (try simp only [Thn, InBlk, ↓reduceIte, Nat.reduceEqDiff])
    refine hK2 _ _ ?_
    clear hK2
    refine awp_reg ftCOk [(1, .sl 1), (2, .v (.int .i64 a2)), (3, .pp 2 0), (7, .v (.int .i64 1048576))] [.row false (.trips a0_1), .row false (.bools a1), .rbox [.v (.int .i64 a0_0), .sl 0]] ?_
    replace h := bind_some h
    obtain ⟨y, hr0, h⟩ := h
    try dsimp only at h
    refine awp_to [(1, .sl 1), (2, .v (.int .i64 a2)), (3, .pp 2 0), (7, .v (.int .i64 y))] [.row false (.trips a0_1), .row false (.bools a1), .rbox [.v (.int .i64 a0_0), .sl 0]] ?_ ?_
    · clear h
      intro K hK
      refine awp_region ftCOk ?_
      simp (maxSteps := 4000000) only [go_sem, Nat.reduceBEq, Nat.reduceLT, Nat.reduceAdd, Nat.reduceLeDiff, Nat.reduceSub, Nat.reduceEqDiff, Int.reduceToNat, reduceCtorEq, ↓reduceIte]
      repeat' (first | refine And.intro ?_ ?_ | intro hg)
      all_goals (try simp (disch := omega) only [wrap_fits])
      all_goals first
        | (refine hK _ _ ?_; exact Red.auto)
        | exact trivial
        | assumption
        | omega
        | exact wrap_fits (by omega) (by omega)
        | (refine wpA_callA (k_laws_szGraph a0_0 a0_1 1048576 (h := hr0)) [0] [] ?_
           rintro x Hc' ⟨rfl, rfl⟩ hlen
           refine vcOps_sound ftCOk ?_
           simp (maxSteps := 4000000) only [go_sem, Nat.reduceBEq, Nat.reduceLT, Nat.reduceAdd, Nat.reduceLeDiff, Nat.reduceSub, Nat.reduceEqDiff, Int.reduceToNat, reduceCtorEq, ↓reduceIte]
           repeat' (first | refine And.intro ?_ ?_ | intro hg)
           all_goals (try simp (disch := omega) only [wrap_fits])
           all_goals first
             | (refine hK _ _ ?_; exact Red.auto)
             | exact trivial
             | assumption
             | omega
             | exact wrap_fits (by omega) (by omega)
             | (simp_all; done)
             | (simp_all; omega))
        | (simp_all; done)
        | (simp_all; omega)
    · clear hr0
      refine awp_seq fun K5 hK5 => ?_
      refine awp_reg ftCOk [(1, .sl 1), (2, .v (.int .i64 a2)), (3, .pp 2 0), (19, .v (.bool (decide (y < 0))))] [.row false (.trips a0_1), .row false (.bools a1), .rbox [.v (.int .i64 a0_0), .sl 0]] ?_
      refine awp_cond (t := 19) rfl (fun hc6 => ?_) (fun hc6 => ?_)
      · replace h := bite_t h hc6
        refine awp_reg ftCOk [(6, .v (.bool true))] [.row false (.trips a0_1), .row false (.bools a1), .rbox [.v (.int .i64 a0_0), .sl 0]] ?_
        refine awp_ret ?_
        (try simp only [Thn, InBlk, ↓reduceIte, Nat.reduceEqDiff])
        obtain rfl := Option.some.inj h
        refine ⟨by simp, _, [0, 1], (by simp only [go_sem, Nat.reduceBEq, Nat.reduceLT, Nat.reduceAdd, Nat.reduceLeDiff, Nat.reduceSub, Nat.reduceEqDiff, Int.reduceToNat, reduceCtorEq, ↓reduceIte]; exact rfl), ?_, ?_, ?_, ?_⟩
        · first | exact trivial | exact ⟨trivial, trivial⟩ | exact ⟨trivial, trivial, trivial⟩ | exact ⟨trivial, trivial, trivial, trivial⟩ | (simp only [allP, and_true, true_and]; done) | (simp only [allP, and_true, true_and]; omega)
        · simp [selOk, pos]
        · simp
        · first | exact ⟨rfl, rfl⟩ | (simp only [go_sem, Nat.reduceBEq, Nat.reduceLT, Nat.reduceAdd, Nat.reduceLeDiff, Nat.reduceSub, Nat.reduceEqDiff, Int.reduceToNat, reduceCtorEq, ↓reduceIte]; done) | (simp [go_sem, Nat.reduceBEq, Nat.reduceLT, Nat.reduceAdd, Nat.reduceLeDiff, Nat.reduceSub, Nat.reduceEqDiff, Int.reduceToNat, reduceCtorEq, ↓reduceIte]; done) | (simp only [go_sem, Nat.reduceBEq, Nat.reduceLT, Nat.reduceAdd, Nat.reduceLeDiff, Nat.reduceSub, Nat.reduceEqDiff, Int.reduceToNat, reduceCtorEq, ↓reduceIte]; exact ⟨rfl, rfl⟩) | (simp_all [go_sem, Nat.reduceBEq, Nat.reduceLT, Nat.reduceAdd, Nat.reduceLeDiff, Nat.reduceSub, Nat.reduceEqDiff, Int.reduceToNat, reduceCtorEq, ↓reduceIte]; done)
      · replace h := bite_f h hc6
        refine awp_skip ?_
        (try simp only [Thn, InBlk, ↓reduceIte, Nat.reduceEqDiff])
        refine hK5 _ _ ?_
        clear hK5
        replace h := bind_some h
        obtain ⟨⟨y_1, y_2⟩, hr0, h⟩ := h
        try dsimp only at h
        replace h := bind_some h
        obtain ⟨y_3, hr1, h⟩ := h
        try dsimp only at h
        replace h := bind_some h
        obtain ⟨y_4, hr2, h⟩ := h
        try dsimp only at h
        refine awp_to [(1, .sl 1), (2, .v (.int .i64 a2)), (3, .pp 2 0), (8, .v (.int .i64 y_4))] [.row false (.trips a0_1), .row false (.bools a1), .rbox [.v (.int .i64 a0_0), .sl 0], .row true (.trips y_2), .row true (.bools y_3)] ?_ ?_
        · clear h
          intro K hK
          refine awp_region ftCOk ?_
          simp (maxSteps := 4000000) only [go_sem, Nat.reduceBEq, Nat.reduceLT, Nat.reduceAdd, Nat.reduceLeDiff, Nat.reduceSub, Nat.reduceEqDiff, Int.reduceToNat, reduceCtorEq, ↓reduceIte]
          repeat' (first | refine And.intro ?_ ?_ | intro hg)
          all_goals (try simp (disch := omega) only [wrap_fits])
          all_goals first
            | (refine hK _ _ ?_; exact Red.auto)
            | exact trivial
            | assumption
            | omega
            | exact wrap_fits (by omega) (by omega)
            | (refine wpA_callA (k_laws_toGraph a0_0 a0_1 (h := hr0)) [0] [] ?_
               rintro x Hc' ⟨rfl, rfl⟩ hlen
               refine vcOps_sound ftCOk ?_
               simp (maxSteps := 4000000) only [go_sem, Nat.reduceBEq, Nat.reduceLT, Nat.reduceAdd, Nat.reduceLeDiff, Nat.reduceSub, Nat.reduceEqDiff, Int.reduceToNat, reduceCtorEq, ↓reduceIte]
               repeat' (first | refine And.intro ?_ ?_ | intro hg)
               all_goals (try simp (disch := omega) only [wrap_fits])
               all_goals first
                 | (refine hK _ _ ?_; exact Red.auto)
                 | exact trivial
                 | assumption
                 | omega
                 | exact wrap_fits (by omega) (by omega)
                 | (refine wpA_callA (k_laws_toBoolS a1 (h := hr1)) [1] [] ?_
                    rintro x Hc' ⟨rfl, rfl⟩ hlen
                    refine vcOps_sound ftCOk ?_
                    simp (maxSteps := 4000000) only [go_sem, Nat.reduceBEq, Nat.reduceLT, Nat.reduceAdd, Nat.reduceLeDiff, Nat.reduceSub, Nat.reduceEqDiff, Int.reduceToNat, reduceCtorEq, ↓reduceIte]
                    repeat' (first | refine And.intro ?_ ?_ | intro hg)
                    all_goals (try simp (disch := omega) only [wrap_fits])
                    all_goals first
                      | (refine hK _ _ ?_; exact Red.auto)
                      | exact trivial
                      | assumption
                      | omega
                      | exact wrap_fits (by omega) (by omega)
                      | (refine wpA_callA (k_spec_CutGain y_1 y_2 y_3 a2 (h := hr2)) [3, 4] [] ?_
                         rintro x Hc' ⟨rfl, rfl⟩ hlen
                         refine vcOps_sound ftCOk ?_
                         simp (maxSteps := 4000000) only [go_sem, Nat.reduceBEq, Nat.reduceLT, Nat.reduceAdd, Nat.reduceLeDiff, Nat.reduceSub, Nat.reduceEqDiff, Int.reduceToNat, reduceCtorEq, ↓reduceIte]
                         repeat' (first | refine And.intro ?_ ?_ | intro hg)
                         all_goals (try simp (disch := omega) only [wrap_fits])
                         all_goals first
                           | (refine hK _ _ ?_; exact Red.auto)
                           | exact trivial
                           | assumption
                           | omega
                           | exact wrap_fits (by omega) (by omega)
                           | (simp_all; done)
                           | (simp_all; omega))
                      | (simp_all; done)
                      | (simp_all; omega))
                 | (simp_all; done)
                 | (simp_all; omega))
            | (simp_all; done)
            | (simp_all; omega)
        · clear hr0 hr1 hr2
          replace h := bind_some h
          obtain ⟨⟨y_5, y_6⟩, hr0, h⟩ := h
          try dsimp only at h
          refine awp_to [(1, .sl 1), (2, .v (.int .i64 a2)), (3, .pp 2 0), (8, .v (.int .i64 y_4)), (9, .pp 6 0)] [.row false (.trips a0_1), .row false (.bools a1), .rbox [.v (.int .i64 a0_0), .sl 0], .row true (.trips y_2), .row true (.bools y_3), .row true (.trips y_6), .box [.v (.int .i64 y_5), .sl 5]] ?_ ?_
          · clear h
            intro K hK
            refine awp_region ftCOk ?_
            simp (maxSteps := 4000000) only [go_sem, Nat.reduceBEq, Nat.reduceLT, Nat.reduceAdd, Nat.reduceLeDiff, Nat.reduceSub, Nat.reduceEqDiff, Int.reduceToNat, reduceCtorEq, ↓reduceIte]
            repeat' (first | refine And.intro ?_ ?_ | intro hg)
            all_goals (try simp (disch := omega) only [wrap_fits])
            all_goals first
              | (refine hK _ _ ?_; exact Red.auto)
              | exact trivial
              | assumption
              | omega
              | exact wrap_fits (by omega) (by omega)
              | (refine wpA_callA (k_laws_toGraph a0_0 a0_1 (h := hr0)) [0] [] ?_
                 rintro x Hc' ⟨rfl, rfl⟩ hlen
                 refine vcOps_sound ftCOk ?_
                 simp (maxSteps := 4000000) only [go_sem, Nat.reduceBEq, Nat.reduceLT, Nat.reduceAdd, Nat.reduceLeDiff, Nat.reduceSub, Nat.reduceEqDiff, Int.reduceToNat, reduceCtorEq, ↓reduceIte]
                 repeat' (first | refine And.intro ?_ ?_ | intro hg)
                 all_goals (try simp (disch := omega) only [wrap_fits])
                 all_goals first
                   | (refine hK _ _ ?_; exact Red.auto)
                   | exact trivial
                   | assumption
                   | omega
                   | exact wrap_fits (by omega) (by omega)
                   | (simp_all; done)
                   | (simp_all; omega))
              | (simp_all; done)
              | (simp_all; omega)
          · clear hr0
            replace h := bind_some h
            obtain ⟨y_7, hr0, h⟩ := h
            try dsimp only at h
            refine awp_to [(1, .sl 1), (2, .v (.int .i64 a2)), (3, .pp 2 0), (8, .v (.int .i64 y_4)), (9, .pp 6 0), (10, .sl 7)] [.row false (.trips a0_1), .row false (.bools a1), .rbox [.v (.int .i64 a0_0), .sl 0], .row true (.trips y_2), .row true (.bools y_3), .row true (.trips y_6), .box [.v (.int .i64 y_5), .sl 5], .row true (.bools y_7)] ?_ ?_
            · clear h
              intro K hK
              refine awp_region ftCOk ?_
              simp (maxSteps := 4000000) only [go_sem, Nat.reduceBEq, Nat.reduceLT, Nat.reduceAdd, Nat.reduceLeDiff, Nat.reduceSub, Nat.reduceEqDiff, Int.reduceToNat, reduceCtorEq, ↓reduceIte]
              repeat' (first | refine And.intro ?_ ?_ | intro hg)
              all_goals (try simp (disch := omega) only [wrap_fits])
              all_goals first
                | (refine hK _ _ ?_; exact Red.auto)
                | exact trivial
                | assumption
                | omega
                | exact wrap_fits (by omega) (by omega)
                | (refine wpA_callA (k_laws_toBoolS a1 (h := hr0)) [1] [] ?_
                   rintro x Hc' ⟨rfl, rfl⟩ hlen
                   refine vcOps_sound ftCOk ?_
                   simp (maxSteps := 4000000) only [go_sem, Nat.reduceBEq, Nat.reduceLT, Nat.reduceAdd, Nat.reduceLeDiff, Nat.reduceSub, Nat.reduceEqDiff, Int.reduceToNat, reduceCtorEq, ↓reduceIte]
                   repeat' (first | refine And.intro ?_ ?_ | intro hg)
                   all_goals (try simp (disch := omega) only [wrap_fits])
                   all_goals first
                     | (refine hK _ _ ?_; exact Red.auto)
                     | exact trivial
                     | assumption
                     | omega
                     | exact wrap_fits (by omega) (by omega)
                     | (simp_all; done)
                     | (simp_all; omega))
                | (simp_all; done)
                | (simp_all; omega)
            · clear hr0
              replace h := bind_some h
              obtain ⟨y_8, hr0, h⟩ := h
              try dsimp only at h
              refine awp_to [(1, .sl 1), (3, .pp 2 0), (8, .v (.int .i64 y_4)), (9, .pp 6 0), (10, .sl 7), (11, .v (.int .i64 y_8))] [.row false (.trips a0_1), .row false (.bools a1), .rbox [.v (.int .i64 a0_0), .sl 0], .row true (.trips y_2), .row true (.bools y_3), .row true (.trips y_6), .box [.v (.int .i64 y_5), .sl 5], .row true (.bools y_7)] ?_ ?_
              · clear h
                intro K hK
                refine awp_region ftCOk ?_
                simp (maxSteps := 4000000) only [go_sem, Nat.reduceBEq, Nat.reduceLT, Nat.reduceAdd, Nat.reduceLeDiff, Nat.reduceSub, Nat.reduceEqDiff, Int.reduceToNat, reduceCtorEq, ↓reduceIte]
                repeat' (first | refine And.intro ?_ ?_ | intro hg)
                all_goals (try simp (disch := omega) only [wrap_fits])
                all_goals first
                  | (refine hK _ _ ?_; exact Red.auto)
                  | exact trivial
                  | assumption
                  | omega
                  | exact wrap_fits (by omega) (by omega)
                  | (refine wpA_callA (k_impl_CutGain y_5 y_6 y_7 a2 (h := hr0)) [5, 7] [] ?_
                     rintro x Hc' ⟨rfl, rfl⟩ hlen
                     refine vcOps_sound ftCOk ?_
                     simp (maxSteps := 4000000) only [go_sem, Nat.reduceBEq, Nat.reduceLT, Nat.reduceAdd, Nat.reduceLeDiff, Nat.reduceSub, Nat.reduceEqDiff, Int.reduceToNat, reduceCtorEq, ↓reduceIte]
                     repeat' (first | refine And.intro ?_ ?_ | intro hg)
                     all_goals (try simp (disch := omega) only [wrap_fits])
                     all_goals first
                       | (refine hK _ _ ?_; exact Red.auto)
                       | exact trivial
                       | assumption
                       | omega
                       | exact wrap_fits (by omega) (by omega)
                       | (simp_all; done)
                       | (simp_all; omega))
                  | (simp_all; done)
                  | (simp_all; omega)
              · clear hr0
                refine awp_seq fun K8 hK8 => ?_
                refine awp_reg ftCOk [(1, .sl 1), (3, .pp 2 0), (9, .pp 6 0), (10, .sl 7), (36, .v (.bool (y_8 != y_4)))] [.row false (.trips a0_1), .row false (.bools a1), .rbox [.v (.int .i64 a0_0), .sl 0], .row true (.trips y_2), .row true (.bools y_3), .row true (.trips y_6), .box [.v (.int .i64 y_5), .sl 5], .row true (.bools y_7)] ?_
                refine awp_cond (t := 36) rfl (fun hc9 => ?_) (fun hc9 => ?_)
                · replace h := bite_t h hc9
                  refine awp_reg ftCOk [(6, .v (.bool false))] [.row false (.trips a0_1), .row false (.bools a1), .rbox [.v (.int .i64 a0_0), .sl 0], .row true (.trips y_2), .row true (.bools y_3), .row true (.trips y_6), .box [.v (.int .i64 y_5), .sl 5], .row true (.bools y_7)] ?_
                  refine awp_ret ?_
                  (try simp only [Thn, InBlk, ↓reduceIte, Nat.reduceEqDiff])
                  obtain rfl := Option.some.inj h
                  refine ⟨by simp, _, [0, 1], (by simp only [go_sem, Nat.reduceBEq, Nat.reduceLT, Nat.reduceAdd, Nat.reduceLeDiff, Nat.reduceSub, Nat.reduceEqDiff, Int.reduceToNat, reduceCtorEq, ↓reduceIte]; exact rfl), ?_, ?_, ?_, ?_⟩
                  · first | exact trivial | exact ⟨trivial, trivial⟩ | exact ⟨trivial, trivial, trivial⟩ | exact ⟨trivial, trivial, trivial, trivial⟩ | (simp only [allP, and_true, true_and]; done) | (simp only [allP, and_true, true_and]; omega)
                  · simp [selOk, pos]
                  · simp
                  · first | exact ⟨rfl, rfl⟩ | (simp only [go_sem, Nat.reduceBEq, Nat.reduceLT, Nat.reduceAdd, Nat.reduceLeDiff, Nat.reduceSub, Nat.reduceEqDiff, Int.reduceToNat, reduceCtorEq, ↓reduceIte]; done) | (simp [go_sem, Nat.reduceBEq, Nat.reduceLT, Nat.reduceAdd, Nat.reduceLeDiff, Nat.reduceSub, Nat.reduceEqDiff, Int.reduceToNat, reduceCtorEq, ↓reduceIte]; done) | (simp only [go_sem, Nat.reduceBEq, Nat.reduceLT, Nat.reduceAdd, Nat.reduceLeDiff, Nat.reduceSub, Nat.reduceEqDiff, Int.reduceToNat, reduceCtorEq, ↓reduceIte]; exact ⟨rfl, rfl⟩) | (simp_all [go_sem, Nat.reduceBEq, Nat.reduceLT, Nat.reduceAdd, Nat.reduceLeDiff, Nat.reduceSub, Nat.reduceEqDiff, Int.reduceToNat, reduceCtorEq, ↓reduceIte]; done)
                · replace h := bite_f h hc9
                  refine awp_skip ?_
                  (try simp only [Thn, InBlk, ↓reduceIte, Nat.reduceEqDiff])
                  refine hK8 _ _ ?_
                  clear hK8
                  refine awp_seq fun K11 hK11 => ?_
                  replace h := bind_some h
                  obtain ⟨⟨y_9, y_10⟩, hr0, h⟩ := h
                  try dsimp only at h
                  replace h := bind_some h
                  obtain ⟨y_11, hr1, h⟩ := h
                  try dsimp only at h
                  refine awp_to [(1, .sl 1), (10, .sl 7), (41, .v (.bool (!y_11)))] [.row false (.trips a0_1), .row false (.bools a1), .rbox [.v (.int .i64 a0_0), .sl 0], .row true (.trips y_2), .row true (.bools y_3), .row true (.trips y_6), .box [.v (.int .i64 y_5), .sl 5], .row true (.bools y_7), .row true (.trips y_10)] ?_ ?_
                  · clear h
                    intro K hK
                    refine awp_drawT mixed ftCOk (.free 1 (.two 0 2 (.one 2 (.one 3 (.one 4 .fin))) (.one 0 (.one 3 (.one 4 .fin))))) (by kernel_rfl) (by simp) ?_
                    simp (maxSteps := 4000000) only [go_sem, Nat.reduceBEq, Nat.reduceLT, Nat.reduceAdd, Nat.reduceLeDiff, Nat.reduceSub, Nat.reduceEqDiff, Int.reduceToNat, reduceCtorEq, ↓reduceIte]
                    repeat' (first | refine And.intro ?_ ?_ | intro hg)
                    all_goals (try simp (disch := omega) only [wrap_fits])
                    all_goals first
                      | (refine hK _ _ ?_; exact Red.auto)
                      | exact trivial
                      | assumption
                      | omega
                      | exact wrap_fits (by omega) (by omega)
                      | (refine OpK_callA (k_laws_toGraph a0_0 a0_1 (h := hr0)) [0] [] ?_
                         rintro x Hc' ⟨rfl, rfl⟩ hlen
                         simp (maxSteps := 4000000) only [go_sem, Nat.reduceBEq, Nat.reduceLT, Nat.reduceAdd, Nat.reduceLeDiff, Nat.reduceSub, Nat.reduceEqDiff, Int.reduceToNat, reduceCtorEq, ↓reduceIte]
                         repeat' (first | refine And.intro ?_ ?_ | intro hg)
                         all_goals (try simp (disch := omega) only [wrap_fits])
                         all_goals first
                           | (refine hK _ _ ?_; exact Red.auto)
                           | exact trivial
                           | assumption
                           | omega
                           | exact wrap_fits (by omega) (by omega)
                           | (refine OpK_callA (k_laws_eqGraph y_5 y_6 y_9 y_10 (h := hr1)) [5, 8] [] ?_
                              rintro x Hc' ⟨rfl, rfl⟩ hlen
                              simp (maxSteps := 4000000) only [go_sem, Nat.reduceBEq, Nat.reduceLT, Nat.reduceAdd, Nat.reduceLeDiff, Nat.reduceSub, Nat.reduceEqDiff, Int.reduceToNat, reduceCtorEq, ↓reduceIte]
                              repeat' (first | refine And.intro ?_ ?_ | intro hg)
                              all_goals (try simp (disch := omega) only [wrap_fits])
                              all_goals first
                                | (refine hK _ _ ?_; exact Red.auto)
                                | exact trivial
                                | assumption
                                | omega
                                | exact wrap_fits (by omega) (by omega)
                                | (simp_all; done)
                                | (simp_all; omega))
                           | (simp_all; done)
                           | (simp_all; omega))
                      | (simp_all; done)
                      | (simp_all; omega)
                  · clear hr0 hr1
                    refine awp_cond (t := 41) rfl (fun hc12 => ?_) (fun hc12 => ?_)
                    · replace h := bite_t h hc12
                      refine awp_reg ftCOk [(6, .v (.bool false))] [.row false (.trips a0_1), .row false (.bools a1), .rbox [.v (.int .i64 a0_0), .sl 0], .row true (.trips y_2), .row true (.bools y_3), .row true (.trips y_6), .box [.v (.int .i64 y_5), .sl 5], .row true (.bools y_7), .row true (.trips y_10)] ?_
                      refine awp_ret ?_
                      (try simp only [Thn, InBlk, ↓reduceIte, Nat.reduceEqDiff])
                      obtain rfl := Option.some.inj h
                      refine ⟨by simp, _, [0, 1], (by simp only [go_sem, Nat.reduceBEq, Nat.reduceLT, Nat.reduceAdd, Nat.reduceLeDiff, Nat.reduceSub, Nat.reduceEqDiff, Int.reduceToNat, reduceCtorEq, ↓reduceIte]; exact rfl), ?_, ?_, ?_, ?_⟩
                      · first | exact trivial | exact ⟨trivial, trivial⟩ | exact ⟨trivial, trivial, trivial⟩ | exact ⟨trivial, trivial, trivial, trivial⟩ | (simp only [allP, and_true, true_and]; done) | (simp only [allP, and_true, true_and]; omega)
                      · simp [selOk, pos]
                      · simp
                      · first | exact ⟨rfl, rfl⟩ | (simp only [go_sem, Nat.reduceBEq, Nat.reduceLT, Nat.reduceAdd, Nat.reduceLeDiff, Nat.reduceSub, Nat.reduceEqDiff, Int.reduceToNat, reduceCtorEq, ↓reduceIte]; done) | (simp [go_sem, Nat.reduceBEq, Nat.reduceLT, Nat.reduceAdd, Nat.reduceLeDiff, Nat.reduceSub, Nat.reduceEqDiff, Int.reduceToNat, reduceCtorEq, ↓reduceIte]; done) | (simp only [go_sem, Nat.reduceBEq, Nat.reduceLT, Nat.reduceAdd, Nat.reduceLeDiff, Nat.reduceSub, Nat.reduceEqDiff, Int.reduceToNat, reduceCtorEq, ↓reduceIte]; exact ⟨rfl, rfl⟩) | (simp_all [go_sem, Nat.reduceBEq, Nat.reduceLT, Nat.reduceAdd, Nat.reduceLeDiff, Nat.reduceSub, Nat.reduceEqDiff, Int.reduceToNat, reduceCtorEq, ↓reduceIte]; done)
                    · replace h := bite_f h hc12
                      refine awp_skip ?_
                      (try simp only [Thn, InBlk, ↓reduceIte, Nat.reduceEqDiff])
                      refine hK11 _ _ ?_
                      clear hK11
                      refine awp_seq fun K14 hK14 => ?_
                      replace h := bind_some h
                      obtain ⟨y_12, hr0, h⟩ := h
                      try dsimp only at h
                      replace h := bind_some h
                      obtain ⟨y_13, hr1, h⟩ := h
                      try dsimp only at h
                      refine awp_to [(46, .v (.bool (!y_13)))] [.row false (.trips a0_1), .row false (.bools a1), .rbox [.v (.int .i64 a0_0), .sl 0], .row true (.trips y_2), .row true (.bools y_3), .row true (.trips y_6), .box [.v (.int .i64 y_5), .sl 5], .row true (.bools y_7), .row true (.trips y_10), .row true (.bools y_12)] ?_ ?_
                      · clear h
                        intro K hK
                        refine awp_region ftCOk ?_
                        simp (maxSteps := 4000000) only [go_sem, Nat.reduceBEq, Nat.reduceLT, Nat.reduceAdd, Nat.reduceLeDiff, Nat.reduceSub, Nat.reduceEqDiff, Int.reduceToNat, reduceCtorEq, ↓reduceIte]
                        repeat' (first | refine And.intro ?_ ?_ | intro hg)
                        all_goals (try simp (disch := omega) only [wrap_fits])
                        all_goals first
                          | (refine hK _ _ ?_; exact Red.auto)
                          | exact trivial
                          | assumption
                          | omega
                          | exact wrap_fits (by omega) (by omega)
                          | (refine wpA_callA (k_laws_toBoolS a1 (h := hr0)) [1] [] ?_
                             rintro x Hc' ⟨rfl, rfl⟩ hlen
                             refine vcOps_sound ftCOk ?_
                             simp (maxSteps := 4000000) only [go_sem, Nat.reduceBEq, Nat.reduceLT, Nat.reduceAdd, Nat.reduceLeDiff, Nat.reduceSub, Nat.reduceEqDiff, Int.reduceToNat, reduceCtorEq, ↓reduceIte]
                             repeat' (first | refine And.intro ?_ ?_ | intro hg)
                             all_goals (try simp (disch := omega) only [wrap_fits])
                             all_goals first
                               | (refine hK _ _ ?_; exact Red.auto)
                               | exact trivial
                               | assumption
                               | omega
                               | exact wrap_fits (by omega) (by omega)
                               | (refine wpA_callA (k_laws_eqBoolS y_7 y_12 (h := hr1)) [7, 9] [] ?_
                                  rintro x Hc' ⟨rfl, rfl⟩ hlen
                                  refine vcOps_sound ftCOk ?_
                                  simp (maxSteps := 4000000) only [go_sem, Nat.reduceBEq, Nat.reduceLT, Nat.reduceAdd, Nat.reduceLeDiff, Nat.reduceSub, Nat.reduceEqDiff, Int.reduceToNat, reduceCtorEq, ↓reduceIte]
                                  repeat' (first | refine And.intro ?_ ?_ | intro hg)
                                  all_goals (try simp (disch := omega) only [wrap_fits])
                                  all_goals first
                                    | (refine hK _ _ ?_; exact Red.auto)
                                    | exact trivial
                                    | assumption
                                    | omega
                                    | exact wrap_fits (by omega) (by omega)
                                    | (simp_all; done)
                                    | (simp_all; omega))
                               | (simp_all; done)
                               | (simp_all; omega))
                          | (simp_all; done)
                          | (simp_all; omega)
                      · clear hr0 hr1
                        refine awp_cond (t := 46) rfl (fun hc15 => ?_) (fun hc15 => ?_)
                        · replace h := bite_t h hc15
                          refine awp_reg ftCOk [(6, .v (.bool false))] [.row false (.trips a0_1), .row false (.bools a1), .rbox [.v (.int .i64 a0_0), .sl 0], .row true (.trips y_2), .row true (.bools y_3), .row true (.trips y_6), .box [.v (.int .i64 y_5), .sl 5], .row true (.bools y_7), .row true (.trips y_10), .row true (.bools y_12)] ?_
                          refine awp_ret ?_
                          (try simp only [Thn, InBlk, ↓reduceIte, Nat.reduceEqDiff])
                          obtain rfl := Option.some.inj h
                          refine ⟨by simp, _, [0, 1], (by simp only [go_sem, Nat.reduceBEq, Nat.reduceLT, Nat.reduceAdd, Nat.reduceLeDiff, Nat.reduceSub, Nat.reduceEqDiff, Int.reduceToNat, reduceCtorEq, ↓reduceIte]; exact rfl), ?_, ?_, ?_, ?_⟩
                          · first | exact trivial | exact ⟨trivial, trivial⟩ | exact ⟨trivial, trivial, trivial⟩ | exact ⟨trivial, trivial, trivial, trivial⟩ | (simp only [allP, and_true, true_and]; done) | (simp only [allP, and_true, true_and]; omega)
                          · simp [selOk, pos]
                          · simp
                          · first | exact ⟨rfl, rfl⟩ | (simp only [go_sem, Nat.reduceBEq, Nat.reduceLT, Nat.reduceAdd, Nat.reduceLeDiff, Nat.reduceSub, Nat.reduceEqDiff, Int.reduceToNat, reduceCtorEq, ↓reduceIte]; done) | (simp [go_sem, Nat.reduceBEq, Nat.reduceLT, Nat.reduceAdd, Nat.reduceLeDiff, Nat.reduceSub, Nat.reduceEqDiff, Int.reduceToNat, reduceCtorEq, ↓reduceIte]; done) | (simp only [go_sem, Nat.reduceBEq, Nat.reduceLT, Nat.reduceAdd, Nat.reduceLeDiff, Nat.reduceSub, Nat.reduceEqDiff, Int.reduceToNat, reduceCtorEq, ↓reduceIte]; exact ⟨rfl, rfl⟩) | (simp_all [go_sem, Nat.reduceBEq, Nat.reduceLT, Nat.reduceAdd, Nat.reduceLeDiff, Nat.reduceSub, Nat.reduceEqDiff, Int.reduceToNat, reduceCtorEq, ↓reduceIte]; done)
                        · replace h := bite_f h hc15
                          refine awp_skip ?_
                          (try simp only [Thn, InBlk, ↓reduceIte, Nat.reduceEqDiff])
                          refine hK14 _ _ ?_
                          clear hK14
                          refine awp_reg ftCOk [(6, .v (.bool true))] [.row false (.trips a0_1), .row false (.bools a1), .rbox [.v (.int .i64 a0_0), .sl 0], .row true (.trips y_2), .row true (.bools y_3), .row true (.trips y_6), .box [.v (.int .i64 y_5), .sl 5], .row true (.bools y_7), .row true (.trips y_10), .row true (.bools y_12)] ?_
                          refine awp_ret ?_
                          (try simp only [Thn, InBlk, ↓reduceIte, Nat.reduceEqDiff])
                          obtain rfl := Option.some.inj h
                          refine ⟨by simp, _, [0, 1], (by simp only [go_sem, Nat.reduceBEq, Nat.reduceLT, Nat.reduceAdd, Nat.reduceLeDiff, Nat.reduceSub, Nat.reduceEqDiff, Int.reduceToNat, reduceCtorEq, ↓reduceIte]; exact rfl), ?_, ?_, ?_, ?_⟩
                          · first | exact trivial | exact ⟨trivial, trivial⟩ | exact ⟨trivial, trivial, trivial⟩ | exact ⟨trivial, trivial, trivial, trivial⟩ | (simp only [allP, and_true, true_and]; done) | (simp only [allP, and_true, true_and]; omega)
                          · simp [selOk, pos]
                          · simp
                          · first | exact ⟨rfl, rfl⟩ | (simp only [go_sem, Nat.reduceBEq, Nat.reduceLT, Nat.reduceAdd, Nat.reduceLeDiff, Nat.reduceSub, Nat.reduceEqDiff, Int.reduceToNat, reduceCtorEq, ↓reduceIte]; done) | (simp [go_sem, Nat.reduceBEq, Nat.reduceLT, Nat.reduceAdd, Nat.reduceLeDiff, Nat.reduceSub, Nat.reduceEqDiff, Int.reduceToNat, reduceCtorEq, ↓reduceIte]; done) | (simp only [go_sem, Nat.reduceBEq, Nat.reduceLT, Nat.reduceAdd, Nat.reduceLeDiff, Nat.reduceSub, Nat.reduceEqDiff, Int.reduceToNat, reduceCtorEq, ↓reduceIte]; exact ⟨rfl, rfl⟩) | (simp_all [go_sem, Nat.reduceBEq, Nat.reduceLT, Nat.reduceAdd, Nat.reduceLeDiff, Nat.reduceSub, Nat.reduceEqDiff, Int.reduceToNat, reduceCtorEq, ↓reduceIte]; done)
theorem k_spec_l8Fill (a0 : Int) (a1 : Int) {r : List Int} (h : spec_l8Fill a0 a1 = some r) :
    FnA Try.prog 64 [.v (.int .i64 a0), .v (.int .i64 a1)] [] [] (fun x H => x = .sl 0 ∧ H = [.row true (.ints .i64 r)]) := by
  unfold spec_l8Fill at h
  refine FnA.of (N := 18) (pin := []) (rs := [.tmp 4]) Try.func64 rfl en64 rfl rfl (by simp) (by simp; try omega) ?_
  refine awp_reg ftCOk [(0, .v (.int .i64 a0)), (1, .v (.int .i64 a1))] [] ?_
  refine awp_reg ftCOk [(0, .v (.int .i64 a0)), (1, .v (.int .i64 a1)), (5, .sl 0)] [.row true (.ints .i64 [])] ?_
  refine awp_seq fun K14 hK14 => ?_
  refine awp_reg ftCOk [(0, .v (.int .i64 a0)), (1, .v (.int .i64 a1)), (5, .sl 0), (6, .v (.int .i64 0))] [.row true (.ints .i64 [])] ?_
  refine awp_block ?_
  replace h := bind_some h
  obtain ⟨t5s_1, hx, h⟩ := h
  refine awp_loopL hx (fun ((t6, t5s) : Int × List Int) => [(0, .v (.int .i64 a0)), (1, .v (.int .i64 a1)), (5, .sl 0), (6, .v (.int .i64 t6))]) (fun ((t6, t5s) : Int × List Int) => [.row true (.ints .i64 t5s)]) (fun (t5s_1 : List Int) => Exit.exit 0) (fun (t5s_1 : List Int) => [(5, .sl 0)]) (fun (t5s_1 : List Int) => [.row true (.ints .i64 t5s_1)]) ?_ ?_ ?_ ?_
  · rintro t5s_1 hy <;> cases hy
  · clear h hx
    exact Red.auto
  · clear h hx
    rintro ⟨t6, t5s⟩ r h
    unfold spec_l8Fill_b1 at h
    try dsimp only at h
    try dsimp only
    refine awp_seq fun K24 hK24 => ?_
    refine awp_reg ftCOk [(0, .v (.int .i64 a0)), (1, .v (.int .i64 a1)), (5, .sl 0), (6, .v (.int .i64 t6)), (10, .v (.bool (decide (t6 < a0))))] [.row true (.ints .i64 t5s)] ?_
    refine awp_cond (t := 10) rfl (fun hc25 => ?_) (fun hc25 => ?_)
    · replace h := bite_t h hc25
      refine awp_skip ?_
      (try simp only [Thn, InBlk, ↓reduceIte, Nat.reduceEqDiff])
      refine hK24 _ _ ?_
      clear hK24
      refine awp_seq fun K26 hK26 => ?_
      refine awp_block ?_
      replace h := chk_some h
      obtain ⟨hp0, h⟩ := h
      refine awp_regE ftCOk [(0, .v (.int .i64 a0)), (1, .v (.int .i64 a1)), (5, .sl 0), (6, .v (.int .i64 t6))] [.row true (.ints .i64 (t5s ++ [a1])), .row true (.ints .i64 [a1])] ?_
      clear hp0
      (try simp only [Thn, InBlk, ↓reduceIte, Nat.reduceEqDiff])
      (try simp only [Thn, InBlk, ↓reduceIte, Nat.reduceEqDiff])
      refine hK26 _ _ ?_
      clear hK26
      replace h := chk_some h
      obtain ⟨hp0, h⟩ := h
      refine awp_regE ftCOk [(0, .v (.int .i64 a0)), (1, .v (.int .i64 a1)), (5, .sl 0), (6, .v (.int .i64 (t6 + 1)))] [.row true (.ints .i64 (t5s ++ [a1])), .row true (.ints .i64 [a1])] ?_
      clear hp0
      obtain rfl := Option.some.inj h
      refine LoopQ.next ?_
      exact Red.selA [0] Red.auto
    · replace h := bite_f h hc25
      refine awp_exit ?_
      (try simp only [Thn, InBlk, ↓reduceIte, Nat.reduceEqDiff])
      obtain rfl := Option.some.inj h
      refine LoopQ.out rfl ?_
      exact Red.auto
  · clear hx
    skip
    · try dsimp only [Sum.elim_inl, Sum.elim_inr] at h
      try dsimp only [Sum.elim_inl, Sum.elim_inr]
      (try simp only [Thn, InBlk, ↓reduceIte, Nat.reduceEqDiff])
      (try simp only [Thn, InBlk, ↓reduceIte, Nat.reduceEqDiff])
      (try simp only [Thn, InBlk, ↓reduceIte, Nat.reduceEqDiff])
      refine hK14 _ _ ?_
      clear hK14
      refine awp_reg ftCOk [(4, .sl 0)] [.row true (.ints .i64 t5s_1)] ?_
      refine awp_ret ?_
      (try simp only [Thn, InBlk, ↓reduceIte, Nat.reduceEqDiff])
      obtain rfl := Option.some.inj h
      refine ⟨by simp, _, [0], (by simp only [go_sem, Nat.reduceBEq, Nat.reduceLT, Nat.reduceAdd, Nat.reduceLeDiff, Nat.reduceSub, Nat.reduceEqDiff, Int.reduceToNat, reduceCtorEq, ↓reduceIte]; exact rfl), ?_, ?_, ?_, ?_⟩
      · first | exact trivial | exact ⟨trivial, trivial⟩ | exact ⟨trivial, trivial, trivial⟩ | exact ⟨trivial, trivial, trivial, trivial⟩ | (simp only [allP, and_true, true_and]; done) | (simp only [allP, and_true, true_and]; omega)
      · simp [selOk, pos]
      · simp
      · first | exact ⟨rfl, rfl⟩ | (simp only [go_sem, Nat.reduceBEq, Nat.reduceLT, Nat.reduceAdd, Nat.reduceLeDiff, Nat.reduceSub, Nat.reduceEqDiff, Int.reduceToNat, reduceCtorEq, ↓reduceIte]; done) | (simp [go_sem, Nat.reduceBEq, Nat.reduceLT, Nat.reduceAdd, Nat.reduceLeDiff, Nat.reduceSub, Nat.reduceEqDiff, Int.reduceToNat, reduceCtorEq, ↓reduceIte]; done) | (simp only [go_sem, Nat.reduceBEq, Nat.reduceLT, Nat.reduceAdd, Nat.reduceLeDiff, Nat.reduceSub, Nat.reduceEqDiff, Int.reduceToNat, reduceCtorEq, ↓reduceIte]; exact ⟨rfl, rfl⟩) | (simp_all [go_sem, Nat.reduceBEq, Nat.reduceLT, Nat.reduceAdd, Nat.reduceLeDiff, Nat.reduceSub, Nat.reduceEqDiff, Int.reduceToNat, reduceCtorEq, ↓reduceIte]; done)
theorem k_spec_OrderForward (a0_0 : Int) (a0_1 : List (Int × Int × Int)) (a1 : List Int) {r : Bool} (h : spec_OrderForward a0_0 a0_1 a1 = some r) :
    FnA Try.prog 39 [.agg [.v (.int .i64 a0_0), .sl 0], .sl 1] [.row false (.trips a0_1), .row false (.ints .i64 a1)] [] (fun x H => x = .v (.bool r) ∧ H = [.row false (.trips a0_1), .row false (.ints .i64 a1)]) := by
  unfold spec_OrderForward at h
  refine FnA.of (N := 79) (pin := [0, 1]) (rs := [.tmp 4]) Try.func39 rfl en39 rfl rfl (by simp) (by simp; try omega) ?_
  refine awp_reg ftCOk [(1, .sl 1), (2, .pp 2 0)] [.row false (.trips a0_1), .row false (.ints .i64 a1), .box [.v (.int .i64 a0_0), .sl 0]] ?_
  refine awp_freeze 2 (by rfl) (by rfl) (by exact rfl) ?_
  refine awp_seq fun K2 hK2 => ?_
  replace h := bind_some h
  obtain ⟨y, hr0, h⟩ := h
  try dsimp only at h
  refine awp_to [(1, .sl 1), (2, .pp 2 0), (17, .v (.bool ((!y) || ((a1.length : Int) != a0_0))))] [.row false (.trips a0_1), .row false (.ints .i64 a1), .rbox [.v (.int .i64 a0_0), .sl 0]] ?_ ?_
  · clear h
    intro K hK
    refine awp_region ftCOk ?_
    simp (maxSteps := 4000000) only [go_sem, Nat.reduceBEq, Nat.reduceLT, Nat.reduceAdd, Nat.reduceLeDiff, Nat.reduceSub, Nat.reduceEqDiff, Int.reduceToNat, reduceCtorEq, ↓reduceIte]
    repeat' (first | refine And.intro ?_ ?_ | intro hg)
    all_goals (try simp (disch := omega) only [wrap_fits])
    all_goals first
      | (refine hK _ _ ?_; exact Red.auto)
      | exact trivial
      | assumption
      | omega
      | exact wrap_fits (by omega) (by omega)
      | (refine wpA_callA (k_spec_GraphValid a0_0 a0_1 (h := hr0)) [0] [] ?_
         rintro x Hc' ⟨rfl, rfl⟩ hlen
         refine vcOps_sound ftCOk ?_
         simp (maxSteps := 4000000) only [go_sem, Nat.reduceBEq, Nat.reduceLT, Nat.reduceAdd, Nat.reduceLeDiff, Nat.reduceSub, Nat.reduceEqDiff, Int.reduceToNat, reduceCtorEq, ↓reduceIte]
         repeat' (first | refine And.intro ?_ ?_ | intro hg)
         all_goals (try simp (disch := omega) only [wrap_fits])
         all_goals first
           | (refine hK _ _ ?_; exact Red.auto)
           | exact trivial
           | assumption
           | omega
           | exact wrap_fits (by omega) (by omega)
           | (simp_all; done)
           | (simp_all; omega))
      | (simp_all; done)
      | (simp_all; omega)
  · clear hr0
    refine awp_cond (t := 17) rfl (fun hc3 => ?_) (fun hc3 => ?_)
    · replace h := bite_t h hc3
      refine awp_reg ftCOk [(4, .v (.bool false))] [.row false (.trips a0_1), .row false (.ints .i64 a1), .rbox [.v (.int .i64 a0_0), .sl 0]] ?_
      refine awp_ret ?_
      (try simp only [Thn, InBlk, ↓reduceIte, Nat.reduceEqDiff])
      obtain rfl := Option.some.inj h
      refine ⟨by simp, _, [0, 1], (by simp only [go_sem, Nat.reduceBEq, Nat.reduceLT, Nat.reduceAdd, Nat.reduceLeDiff, Nat.reduceSub, Nat.reduceEqDiff, Int.reduceToNat, reduceCtorEq, ↓reduceIte]; exact rfl), ?_, ?_, ?_, ?_⟩
      · first | exact trivial | exact ⟨trivial, trivial⟩ | exact ⟨trivial, trivial, trivial⟩ | exact ⟨trivial, trivial, trivial, trivial⟩ | (simp only [allP, and_true, true_and]; done) | (simp only [allP, and_true, true_and]; omega)
      · simp [selOk, pos]
      · simp
      · first | exact ⟨rfl, rfl⟩ | (simp only [go_sem, Nat.reduceBEq, Nat.reduceLT, Nat.reduceAdd, Nat.reduceLeDiff, Nat.reduceSub, Nat.reduceEqDiff, Int.reduceToNat, reduceCtorEq, ↓reduceIte]; done) | (simp [go_sem, Nat.reduceBEq, Nat.reduceLT, Nat.reduceAdd, Nat.reduceLeDiff, Nat.reduceSub, Nat.reduceEqDiff, Int.reduceToNat, reduceCtorEq, ↓reduceIte]; done) | (simp only [go_sem, Nat.reduceBEq, Nat.reduceLT, Nat.reduceAdd, Nat.reduceLeDiff, Nat.reduceSub, Nat.reduceEqDiff, Int.reduceToNat, reduceCtorEq, ↓reduceIte]; exact ⟨rfl, rfl⟩) | (simp_all [go_sem, Nat.reduceBEq, Nat.reduceLT, Nat.reduceAdd, Nat.reduceLeDiff, Nat.reduceSub, Nat.reduceEqDiff, Int.reduceToNat, reduceCtorEq, ↓reduceIte]; done)
    · replace h := bite_f h hc3
      refine awp_skip ?_
      (try simp only [Thn, InBlk, ↓reduceIte, Nat.reduceEqDiff])
      refine hK2 _ _ ?_
      clear hK2
      replace h := bind_some h
      obtain ⟨y_1, hr0, h⟩ := h
      try dsimp only at h
      refine awp_to [(1, .sl 1), (2, .pp 2 0), (5, .sl 3)] [.row false (.trips a0_1), .row false (.ints .i64 a1), .rbox [.v (.int .i64 a0_0), .sl 0], .row true (.ints .i64 y_1)] ?_ ?_
      · clear h
        intro K hK
        refine awp_region ftCOk ?_
        simp (maxSteps := 4000000) only [go_sem, Nat.reduceBEq, Nat.reduceLT, Nat.reduceAdd, Nat.reduceLeDiff, Nat.reduceSub, Nat.reduceEqDiff, Int.reduceToNat, reduceCtorEq, ↓reduceIte]
        repeat' (first | refine And.intro ?_ ?_ | intro hg)
        all_goals (try simp (disch := omega) only [wrap_fits])
        all_goals first
          | (refine hK _ _ ?_; exact Red.auto)
          | exact trivial
          | assumption
          | omega
          | exact wrap_fits (by omega) (by omega)
          | (refine wpA_callA (k_spec_l8Fill a0_0 (-1) (h := hr0)) [] [] ?_
             rintro x Hc' ⟨rfl, rfl⟩ hlen
             refine vcOps_sound ftCOk ?_
             simp (maxSteps := 4000000) only [go_sem, Nat.reduceBEq, Nat.reduceLT, Nat.reduceAdd, Nat.reduceLeDiff, Nat.reduceSub, Nat.reduceEqDiff, Int.reduceToNat, reduceCtorEq, ↓reduceIte]
             repeat' (first | refine And.intro ?_ ?_ | intro hg)
             all_goals (try simp (disch := omega) only [wrap_fits])
             all_goals first
               | (refine hK _ _ ?_; exact Red.auto)
               | exact trivial
               | assumption
               | omega
               | exact wrap_fits (by omega) (by omega)
               | (simp_all; done)
               | (simp_all; omega))
          | (simp_all; done)
          | (simp_all; omega)
      · clear hr0
        refine awp_seq fun K35 hK35 => ?_
        refine awp_reg ftCOk [(1, .sl 1), (2, .pp 2 0), (5, .sl 3), (6, .v (.int .i64 0))] [.row false (.trips a0_1), .row false (.ints .i64 a1), .rbox [.v (.int .i64 a0_0), .sl 0], .row true (.ints .i64 y_1)] ?_
        refine awp_block ?_
        replace h := bind_some h
        obtain ⟨x66, hx, h⟩ := h
        refine awp_loopL hx (fun ((t6, t5s) : Int × List Int) => [(1, .sl 1), (2, .pp 2 0), (5, .sl 3), (6, .v (.int .i64 t6))]) (fun ((t6, t5s) : Int × List Int) => [.row false (.trips a0_1), .row false (.ints .i64 a1), .rbox [.v (.int .i64 a0_0), .sl 0], .row true (.ints .i64 t5s)]) (Sum.elim (fun (t5s_1 : List Int) => Exit.exit 0) (fun (_ : Unit) => Exit.ret)) (Sum.elim (fun (t5s_1 : List Int) => [(2, .pp 2 0), (5, .sl 3)]) (fun (_ : Unit) => [(4, .v (.bool false))])) (Sum.elim (fun (t5s_1 : List Int) => [.row false (.trips a0_1), .row false (.ints .i64 a1), .rbox [.v (.int .i64 a0_0), .sl 0], .row true (.ints .i64 t5s_1)]) (fun (_ : Unit) => [.row false (.trips a0_1), .row false (.ints .i64 a1)])) ?_ ?_ ?_ ?_
        · rintro (t5s_1 | ⟨⟩) hy <;> cases hy
        · clear h hx
          exact Red.auto
        · clear h hx
          rintro ⟨t6, t5s⟩ r h
          unfold spec_OrderForward_b1 at h
          try dsimp only at h
          try dsimp only
          refine awp_seq fun K57 hK57 => ?_
          refine awp_reg ftCOk [(1, .sl 1), (2, .pp 2 0), (5, .sl 3), (6, .v (.int .i64 t6)), (24, .v (.bool (decide (t6 < (a1.length : Int)))))] [.row false (.trips a0_1), .row false (.ints .i64 a1), .rbox [.v (.int .i64 a0_0), .sl 0], .row true (.ints .i64 t5s)] ?_
          refine awp_cond (t := 24) rfl (fun hc58 => ?_) (fun hc58 => ?_)
          · replace h := bite_t h hc58
            refine awp_skip ?_
            (try simp only [Thn, InBlk, ↓reduceIte, Nat.reduceEqDiff])
            refine hK57 _ _ ?_
            clear hK57
            refine awp_seq fun K62 hK62 => ?_
            refine awp_block ?_
            refine awp_seq fun K64 hK64 => ?_
            replace h := chk_some h
            obtain ⟨hp0, h⟩ := h
            replace h := chk_some h
            obtain ⟨hp1, h⟩ := h
            have hwhp1 := wrap_fits hp1.1 hp1.2
            replace h := chk_some h
            obtain ⟨hp2, h⟩ := h
            replace h := chk_some h
            obtain ⟨hp3, h⟩ := h
            refine awp_to [(1, .sl 1), (2, .pp 2 0), (5, .sl 3), (6, .v (.int .i64 t6)), (45, .v (.bool ((!(decide (0 ≤ (a1.getD t6.toNat 0)) && decide ((a1.getD t6.toNat 0) ≤ (a0_0 - 1)))) || (decide (0 ≤ (t5s.getD ((a1.getD t6.toNat 0).toNat) 0))))))] [.row false (.trips a0_1), .row false (.ints .i64 a1), .rbox [.v (.int .i64 a0_0), .sl 0], .row true (.ints .i64 t5s)] ?_ ?_
            · clear h
              intro K hK
              refine awp_quietg mixed ftCOk (by kernel_rfl) ?_
              simp (maxSteps := 4000000) only [go_sem, Nat.reduceBEq, Nat.reduceLT, Nat.reduceAdd, Nat.reduceLeDiff, Nat.reduceSub, Nat.reduceEqDiff, Int.reduceToNat, reduceCtorEq, ↓reduceIte]
              repeat' (first | refine And.intro ?_ ?_ | intro hg)
              all_goals (try simp (disch := omega) only [wrap_fits])
              all_goals first
                | (refine hK _ _ ?_; exact Red.auto)
                | exact trivial
                | assumption
                | omega
                | exact wrap_fits (by omega) (by omega)
                | (have hq := hp2 (by first | assumption | (simp only [*, Bool.false_or, Bool.true_or, Bool.or_false, Bool.or_true, Bool.false_and, Bool.true_and, Bool.and_false, Bool.and_true, Bool.not_true, Bool.not_false]; done)); omega)
                | (have hq := hp3 (by first | assumption | (simp only [*, Bool.false_or, Bool.true_or, Bool.or_false, Bool.or_true, Bool.false_and, Bool.true_and, Bool.and_false, Bool.and_true, Bool.not_true, Bool.not_false]; done)); omega)
                | (simp_all; done)
                | (simp_all; omega)
            · clear hp0 hp1 hp2 hp3
              refine awp_cond (t := 45) rfl (fun hc65 => ?_) (fun hc65 => ?_)
              · replace h := bite_t h hc65
                refine awp_reg ftCOk [(4, .v (.bool false))] [.row false (.trips a0_1), .row false (.ints .i64 a1), .rbox [.v (.int .i64 a0_0), .sl 0], .row true (.ints .i64 t5s)] ?_
                refine awp_ret ?_
                (try simp only [Thn, InBlk, ↓reduceIte, Nat.reduceEqDiff])
                obtain rfl := Option.some.inj h
                refine LoopQ.out rfl ?_
                exact Red.selA [0, 1] Red.auto
              · replace h := bite_f h hc65
                refine awp_skip ?_
                (try simp only [Thn, InBlk, ↓reduceIte, Nat.reduceEqDiff])
                refine hK64 _ _ ?_
                clear hK64
                replace h := chk_some h
                obtain ⟨hp0, h⟩ := h
                replace h := chk_some h
                obtain ⟨hp1, h⟩ := h
                refine awp_regE ftCOk [(1, .sl 1), (2, .pp 2 0), (5, .sl 3), (6, .v (.int .i64 t6))] [.row false (.trips a0_1), .row false (.ints .i64 a1), .rbox [.v (.int .i64 a0_0), .sl 0], .row true (.ints .i64 (t5s.set ((a1.getD t6.toNat 0).toNat) t6))] ?_
                clear hp0 hp1
                (try simp only [Thn, InBlk, ↓reduceIte, Nat.reduceEqDiff])
                (try simp only [Thn, InBlk, ↓reduceIte, Nat.reduceEqDiff])
                refine hK62 _ _ ?_
                clear hK62
                replace h := chk_some h
                obtain ⟨hp0, h⟩ := h
                refine awp_regE ftCOk [(1, .sl 1), (2, .pp 2 0), (5, .sl 3), (6, .v (.int .i64 (t6 + 1)))] [.row false (.trips a0_1), .row false (.ints .i64 a1), .rbox [.v (.int .i64 a0_0), .sl 0], .row true (.ints .i64 (t5s.set ((a1.getD t6.toNat 0).toNat) t6))] ?_
                clear hp0
                obtain rfl := Option.some.inj h
                refine LoopQ.next ?_
                exact Red.auto
          · replace h := bite_f h hc58
            refine awp_exit ?_
            (try simp only [Thn, InBlk, ↓reduceIte, Nat.reduceEqDiff])
            obtain rfl := Option.some.inj h
            refine LoopQ.out rfl ?_
            exact Red.auto
        · clear hx
          rcases x66 with (t5s_1 | ⟨⟩)
          · try dsimp only [Sum.elim_inl, Sum.elim_inr] at h
            try dsimp only [Sum.elim_inl, Sum.elim_inr]
            (try simp only [Thn, InBlk, ↓reduceIte, Nat.reduceEqDiff])
            (try simp only [Thn, InBlk, ↓reduceIte, Nat.reduceEqDiff])
            (try simp only [Thn, InBlk, ↓reduceIte, Nat.reduceEqDiff])
            refine hK35 _ _ ?_
            clear hK35
            refine awp_seq fun K86 hK86 => ?_
            refine awp_reg ftCOk [(2, .pp 2 0), (5, .sl 3), (7, .v (.int .i64 0))] [.row false (.trips a0_1), .row false (.ints .i64 a1), .rbox [.v (.int .i64 a0_0), .sl 0], .row true (.ints .i64 t5s_1)] ?_
            refine awp_block ?_
            replace h := bind_some h
            obtain ⟨x105, hx, h⟩ := h
            refine awp_loopL hx (fun (t7 : Int) => [(2, .pp 2 0), (5, .sl 3), (7, .v (.int .i64 t7))]) (fun (t7 : Int) => [.row false (.trips a0_1), .row false (.ints .i64 a1), .rbox [.v (.int .i64 a0_0), .sl 0], .row true (.ints .i64 t5s_1)]) (Sum.elim (fun (_ : Unit) => Exit.exit 2) (fun (_ : Unit) => Exit.ret)) (Sum.elim (fun (_ : Unit) => []) (fun (_ : Unit) => [(4, .v (.bool false))])) (Sum.elim (fun (_ : Unit) => [.row false (.trips a0_1), .row false (.ints .i64 a1)]) (fun (_ : Unit) => [.row false (.trips a0_1), .row false (.ints .i64 a1)])) ?_ ?_ ?_ ?_
            · rintro (⟨⟩ | ⟨⟩) hy <;> cases hy
            · clear h hx
              exact Red.auto
            · clear h hx
              rintro t7 r h
              unfold spec_OrderForward_b3 at h
              try dsimp only at h
              try dsimp only
              refine awp_seq fun K100 hK100 => ?_
              refine awp_reg ftCOk [(2, .pp 2 0), (5, .sl 3), (7, .v (.int .i64 t7)), (57, .v (.bool (decide (t7 < (a0_1.length : Int)))))] [.row false (.trips a0_1), .row false (.ints .i64 a1), .rbox [.v (.int .i64 a0_0), .sl 0], .row true (.ints .i64 t5s_1)] ?_
              refine awp_cond (t := 57) rfl (fun hc101 => ?_) (fun hc101 => ?_)
              · replace h := bite_t h hc101
                refine awp_skip ?_
                (try simp only [Thn, InBlk, ↓reduceIte, Nat.reduceEqDiff])
                refine hK100 _ _ ?_
                clear hK100
                refine awp_seq fun K103 hK103 => ?_
                refine awp_block ?_
                replace h := chk_some h
                obtain ⟨hp0, h⟩ := h
                replace h := chk_some h
                obtain ⟨hp1, h⟩ := h
                replace h := chk_some h
                obtain ⟨hp2, h⟩ := h
                refine awp_regQ mixed ftCOk [(2, .pp 2 0), (5, .sl 3), (7, .v (.int .i64 t7)), (78, .v (.bool (decide ((t5s_1.getD (((a0_1.getD t7.toNat (0, 0, 0)).2.1).toNat) 0) ≤ (t5s_1.getD (((a0_1.getD t7.toNat (0, 0, 0)).1).toNat) 0)))))] [.row false (.trips a0_1), .row false (.ints .i64 a1), .rbox [.v (.int .i64 a0_0), .sl 0], .row true (.ints .i64 t5s_1)] ?_
                clear hp0 hp1 hp2
                refine awp_cond (t := 78) rfl (fun hc104 => ?_) (fun hc104 => ?_)
                · replace h := bite_t h hc104
                  refine awp_reg ftCOk [(4, .v (.bool false))] [.row false (.trips a0_1), .row false (.ints .i64 a1), .rbox [.v (.int .i64 a0_0), .sl 0], .row true (.ints .i64 t5s_1)] ?_
                  refine awp_ret ?_
                  (try simp only [Thn, InBlk, ↓reduceIte, Nat.reduceEqDiff])
                  obtain rfl := Option.some.inj h
                  refine LoopQ.out rfl ?_
                  exact Red.selA [0, 1] Red.auto
                · replace h := bite_f h hc104
                  refine awp_skip ?_
                  (try simp only [Thn, InBlk, ↓reduceIte, Nat.reduceEqDiff])
                  (try simp only [Thn, InBlk, ↓reduceIte, Nat.reduceEqDiff])
                  refine hK103 _ _ ?_
                  clear hK103
                  replace h := chk_some h
                  obtain ⟨hp0, h⟩ := h
                  refine awp_regE ftCOk [(2, .pp 2 0), (5, .sl 3), (7, .v (.int .i64 (t7 + 1)))] [.row false (.trips a0_1), .row false (.ints .i64 a1), .rbox [.v (.int .i64 a0_0), .sl 0], .row true (.ints .i64 t5s_1)] ?_
                  clear hp0
                  obtain rfl := Option.some.inj h
                  refine LoopQ.next ?_
                  exact Red.auto
              · replace h := bite_f h hc101
                refine awp_exit ?_
                (try simp only [Thn, InBlk, ↓reduceIte, Nat.reduceEqDiff])
                obtain rfl := Option.some.inj h
                refine LoopQ.out rfl ?_
                exact Red.selA [0, 1] Red.auto
            · clear hx
              rcases x105 with (⟨⟩ | ⟨⟩)
              · try dsimp only [Sum.elim_inl, Sum.elim_inr] at h
                try dsimp only [Sum.elim_inl, Sum.elim_inr]
                (try simp only [Thn, InBlk, ↓reduceIte, Nat.reduceEqDiff])
                (try simp only [Thn, InBlk, ↓reduceIte, Nat.reduceEqDiff])
                (try simp only [Thn, InBlk, ↓reduceIte, Nat.reduceEqDiff])
                refine hK86 _ _ ?_
                clear hK86
                refine awp_reg ftCOk [(4, .v (.bool true))] [.row false (.trips a0_1), .row false (.ints .i64 a1)] ?_
                refine awp_ret ?_
                (try simp only [Thn, InBlk, ↓reduceIte, Nat.reduceEqDiff])
                obtain rfl := Option.some.inj h
                refine ⟨by simp, _, [0, 1], (by simp only [go_sem, Nat.reduceBEq, Nat.reduceLT, Nat.reduceAdd, Nat.reduceLeDiff, Nat.reduceSub, Nat.reduceEqDiff, Int.reduceToNat, reduceCtorEq, ↓reduceIte]; exact rfl), ?_, ?_, ?_, ?_⟩
                · first | exact trivial | exact ⟨trivial, trivial⟩ | exact ⟨trivial, trivial, trivial⟩ | exact ⟨trivial, trivial, trivial, trivial⟩ | (simp only [allP, and_true, true_and]; done) | (simp only [allP, and_true, true_and]; omega)
                · simp [selOk, pos]
                · simp
                · first | exact ⟨rfl, rfl⟩ | (simp only [go_sem, Nat.reduceBEq, Nat.reduceLT, Nat.reduceAdd, Nat.reduceLeDiff, Nat.reduceSub, Nat.reduceEqDiff, Int.reduceToNat, reduceCtorEq, ↓reduceIte]; done) | (simp [go_sem, Nat.reduceBEq, Nat.reduceLT, Nat.reduceAdd, Nat.reduceLeDiff, Nat.reduceSub, Nat.reduceEqDiff, Int.reduceToNat, reduceCtorEq, ↓reduceIte]; done) | (simp only [go_sem, Nat.reduceBEq, Nat.reduceLT, Nat.reduceAdd, Nat.reduceLeDiff, Nat.reduceSub, Nat.reduceEqDiff, Int.reduceToNat, reduceCtorEq, ↓reduceIte]; exact ⟨rfl, rfl⟩) | (simp_all [go_sem, Nat.reduceBEq, Nat.reduceLT, Nat.reduceAdd, Nat.reduceLeDiff, Nat.reduceSub, Nat.reduceEqDiff, Int.reduceToNat, reduceCtorEq, ↓reduceIte]; done)
              · try dsimp only [Sum.elim_inl, Sum.elim_inr] at h
                try dsimp only [Sum.elim_inl, Sum.elim_inr]
                (try simp only [Thn, InBlk, ↓reduceIte, Nat.reduceEqDiff])
                obtain rfl := Option.some.inj h
                refine ⟨by simp, _, [0, 1], (by simp only [go_sem, Nat.reduceBEq, Nat.reduceLT, Nat.reduceAdd, Nat.reduceLeDiff, Nat.reduceSub, Nat.reduceEqDiff, Int.reduceToNat, reduceCtorEq, ↓reduceIte]; exact rfl), ?_, ?_, ?_, ?_⟩
                · first | exact trivial | exact ⟨trivial, trivial⟩ | exact ⟨trivial, trivial, trivial⟩ | exact ⟨trivial, trivial, trivial, trivial⟩ | (simp only [allP, and_true, true_and]; done) | (simp only [allP, and_true, true_and]; omega)
                · simp [selOk, pos]
                · simp
                · first | exact ⟨rfl, rfl⟩ | (simp only [go_sem, Nat.reduceBEq, Nat.reduceLT, Nat.reduceAdd, Nat.reduceLeDiff, Nat.reduceSub, Nat.reduceEqDiff, Int.reduceToNat, reduceCtorEq, ↓reduceIte]; done) | (simp [go_sem, Nat.reduceBEq, Nat.reduceLT, Nat.reduceAdd, Nat.reduceLeDiff, Nat.reduceSub, Nat.reduceEqDiff, Int.reduceToNat, reduceCtorEq, ↓reduceIte]; done) | (simp only [go_sem, Nat.reduceBEq, Nat.reduceLT, Nat.reduceAdd, Nat.reduceLeDiff, Nat.reduceSub, Nat.reduceEqDiff, Int.reduceToNat, reduceCtorEq, ↓reduceIte]; exact ⟨rfl, rfl⟩) | (simp_all [go_sem, Nat.reduceBEq, Nat.reduceLT, Nat.reduceAdd, Nat.reduceLeDiff, Nat.reduceSub, Nat.reduceEqDiff, Int.reduceToNat, reduceCtorEq, ↓reduceIte]; done)
          · try dsimp only [Sum.elim_inl, Sum.elim_inr] at h
            try dsimp only [Sum.elim_inl, Sum.elim_inr]
            (try simp only [Thn, InBlk, ↓reduceIte, Nat.reduceEqDiff])
            obtain rfl := Option.some.inj h
            refine ⟨by simp, _, [0, 1], (by simp only [go_sem, Nat.reduceBEq, Nat.reduceLT, Nat.reduceAdd, Nat.reduceLeDiff, Nat.reduceSub, Nat.reduceEqDiff, Int.reduceToNat, reduceCtorEq, ↓reduceIte]; exact rfl), ?_, ?_, ?_, ?_⟩
            · first | exact trivial | exact ⟨trivial, trivial⟩ | exact ⟨trivial, trivial, trivial⟩ | exact ⟨trivial, trivial, trivial, trivial⟩ | (simp only [allP, and_true, true_and]; done) | (simp only [allP, and_true, true_and]; omega)
            · simp [selOk, pos]
            · simp
            · first | exact ⟨rfl, rfl⟩ | (simp only [go_sem, Nat.reduceBEq, Nat.reduceLT, Nat.reduceAdd, Nat.reduceLeDiff, Nat.reduceSub, Nat.reduceEqDiff, Int.reduceToNat, reduceCtorEq, ↓reduceIte]; done) | (simp [go_sem, Nat.reduceBEq, Nat.reduceLT, Nat.reduceAdd, Nat.reduceLeDiff, Nat.reduceSub, Nat.reduceEqDiff, Int.reduceToNat, reduceCtorEq, ↓reduceIte]; done) | (simp only [go_sem, Nat.reduceBEq, Nat.reduceLT, Nat.reduceAdd, Nat.reduceLeDiff, Nat.reduceSub, Nat.reduceEqDiff, Int.reduceToNat, reduceCtorEq, ↓reduceIte]; exact ⟨rfl, rfl⟩) | (simp_all [go_sem, Nat.reduceBEq, Nat.reduceLT, Nat.reduceAdd, Nat.reduceLeDiff, Nat.reduceSub, Nat.reduceEqDiff, Int.reduceToNat, reduceCtorEq, ↓reduceIte]; done)
theorem k_impl_unknowns (a0 : Int) {r : List Int} (h : impl_unknowns a0 = some r) :
    FnA Try.prog 65 [.v (.int .i64 a0)] [] [] (fun x H => x = .sl 0 ∧ H = [.row true (.ints .i64 r)]) := by
  unfold impl_unknowns at h
  refine FnA.of (N := 17) (pin := []) (rs := [.tmp 2]) Try.func65 rfl en65 rfl rfl (by simp) (by simp; try omega) ?_
  refine awp_reg ftCOk [(0, .v (.int .i64 a0))] [] ?_
  replace h := chk_some h
  obtain ⟨hp0, h⟩ := h
  refine awp_reg ftCOk [(3, .sl 0)] [.row true (.ints .i64 (List.replicate a0.toNat 0))] ?_
  clear hp0
  refine awp_seq fun K14 hK14 => ?_
  refine awp_reg ftCOk [(3, .sl 0), (8, .v (.int .i64 ((List.replicate a0.toNat 0).length : Int))), (9, .v (.int .i64 0))] [.row true (.ints .i64 (List.replicate a0.toNat 0))] ?_
  refine awp_block ?_
  replace h := bind_some h
  obtain ⟨t3s_1, hx, h⟩ := h
  refine awp_loopL hx (fun ((t9, t3s) : Int × List Int) => [(3, .sl 0), (8, .v (.int .i64 ((List.replicate a0.toNat 0).length : Int))), (9, .v (.int .i64 t9))]) (fun ((t9, t3s) : Int × List Int) => [.row true (.ints .i64 t3s)]) (fun (t3s_1 : List Int) => Exit.exit 0) (fun (t3s_1 : List Int) => [(3, .sl 0)]) (fun (t3s_1 : List Int) => [.row true (.ints .i64 t3s_1)]) ?_ ?_ ?_ ?_
  · rintro t3s_1 hy <;> cases hy
  · clear h hx
    exact Red.auto
  · clear h hx
    rintro ⟨t9, t3s⟩ r h
    unfold impl_unknowns_b1 at h
    try dsimp only at h
    try dsimp only
    refine awp_reg ftCOk [(3, .sl 0), (8, .v (.int .i64 ((List.replicate a0.toNat 0).length : Int))), (9, .v (.int .i64 t9)), (10, .v (.bool (decide (t9 < ((List.replicate a0.toNat 0).length : Int)))))] [.row true (.ints .i64 t3s)] ?_
    refine awp_seq fun K24 hK24 => ?_
    refine awp_cond (t := 10) rfl (fun hc25 => ?_) (fun hc25 => ?_)
    · replace h := bite_t h hc25
      refine awp_skip ?_
      (try simp only [Thn, InBlk, ↓reduceIte, Nat.reduceEqDiff])
      refine hK24 _ _ ?_
      clear hK24
      refine awp_seq fun K26 hK26 => ?_
      refine awp_block ?_
      refine awp_reg ftCOk [(3, .sl 0), (4, .v (.int .i64 t9)), (8, .v (.int .i64 ((List.replicate a0.toNat 0).length : Int))), (9, .v (.int .i64 t9))] [.row true (.ints .i64 t3s)] ?_
      replace h := chk_some h
      obtain ⟨hp0, h⟩ := h
      refine awp_regE ftCOk [(3, .sl 0), (8, .v (.int .i64 ((List.replicate a0.toNat 0).length : Int))), (9, .v (.int .i64 t9))] [.row true (.ints .i64 (t3s.set t9.toNat (-1)))] ?_
      clear hp0
      (try simp only [Thn, InBlk, ↓reduceIte, Nat.reduceEqDiff])
      (try simp only [Thn, InBlk, ↓reduceIte, Nat.reduceEqDiff])
      refine hK26 _ _ ?_
      clear hK26
      replace h := chk_some h
      obtain ⟨hp0, h⟩ := h
      refine awp_regE ftCOk [(3, .sl 0), (8, .v (.int .i64 ((List.replicate a0.toNat 0).length : Int))), (9, .v (.int .i64 (t9 + 1)))] [.row true (.ints .i64 (t3s.set t9.toNat (-1)))] ?_
      clear hp0
      obtain rfl := Option.some.inj h
      refine LoopQ.next ?_
      exact Red.auto
    · replace h := bite_f h hc25
      refine awp_exit ?_
      (try simp only [Thn, InBlk, ↓reduceIte, Nat.reduceEqDiff])
      obtain rfl := Option.some.inj h
      refine LoopQ.out rfl ?_
      exact Red.auto
  · clear hx
    skip
    · try dsimp only [Sum.elim_inl, Sum.elim_inr] at h
      try dsimp only [Sum.elim_inl, Sum.elim_inr]
      (try simp only [Thn, InBlk, ↓reduceIte, Nat.reduceEqDiff])
      (try simp only [Thn, InBlk, ↓reduceIte, Nat.reduceEqDiff])
      (try simp only [Thn, InBlk, ↓reduceIte, Nat.reduceEqDiff])
      refine hK14 _ _ ?_
      clear hK14
      refine awp_reg ftCOk [(2, .sl 0)] [.row true (.ints .i64 t3s_1)] ?_
      refine awp_ret ?_
      (try simp only [Thn, InBlk, ↓reduceIte, Nat.reduceEqDiff])
      obtain rfl := Option.some.inj h
      refine ⟨by simp, _, [0], (by simp only [go_sem, Nat.reduceBEq, Nat.reduceLT, Nat.reduceAdd, Nat.reduceLeDiff, Nat.reduceSub, Nat.reduceEqDiff, Int.reduceToNat, reduceCtorEq, ↓reduceIte]; exact rfl), ?_, ?_, ?_, ?_⟩
      · first | exact trivial | exact ⟨trivial, trivial⟩ | exact ⟨trivial, trivial, trivial⟩ | exact ⟨trivial, trivial, trivial, trivial⟩ | (simp only [allP, and_true, true_and]; done) | (simp only [allP, and_true, true_and]; omega)
      · simp [selOk, pos]
      · simp
      · first | exact ⟨rfl, rfl⟩ | (simp only [go_sem, Nat.reduceBEq, Nat.reduceLT, Nat.reduceAdd, Nat.reduceLeDiff, Nat.reduceSub, Nat.reduceEqDiff, Int.reduceToNat, reduceCtorEq, ↓reduceIte]; done) | (simp [go_sem, Nat.reduceBEq, Nat.reduceLT, Nat.reduceAdd, Nat.reduceLeDiff, Nat.reduceSub, Nat.reduceEqDiff, Int.reduceToNat, reduceCtorEq, ↓reduceIte]; done) | (simp only [go_sem, Nat.reduceBEq, Nat.reduceLT, Nat.reduceAdd, Nat.reduceLeDiff, Nat.reduceSub, Nat.reduceEqDiff, Int.reduceToNat, reduceCtorEq, ↓reduceIte]; exact ⟨rfl, rfl⟩) | (simp_all [go_sem, Nat.reduceBEq, Nat.reduceLT, Nat.reduceAdd, Nat.reduceLeDiff, Nat.reduceSub, Nat.reduceEqDiff, Int.reduceToNat, reduceCtorEq, ↓reduceIte]; done)
theorem k_impl_OrderForward (a0_0 : Int) (a0_1 : List (Int × Int × Int)) (a1 : List Int) {r : Bool} (h : impl_OrderForward a0_0 a0_1 a1 = some r) :
    FnA Try.prog 40 [.agg [.v (.int .i64 a0_0), .sl 0], .sl 1] [.row false (.trips a0_1), .row false (.ints .i64 a1)] [] (fun x H => x = .v (.bool r) ∧ H = [.row false (.trips a0_1), .row false (.ints .i64 a1)]) := by
  unfold impl_OrderForward at h
  refine FnA.of (N := 65) (pin := [0, 1]) (rs := [.tmp 4]) Try.func40 rfl en40 rfl rfl (by simp) (by simp; try omega) ?_
  refine awp_reg ftCOk [(1, .sl 1), (2, .pp 2 0)] [.row false (.trips a0_1), .row false (.ints .i64 a1), .box [.v (.int .i64 a0_0), .sl 0]] ?_
  refine awp_freeze 2 (by rfl) (by rfl) (by exact rfl) ?_
  refine awp_seq fun K2 hK2 => ?_
  replace h := bind_some h
  obtain ⟨y, hr0, h⟩ := h
  try dsimp only at h
  refine awp_to [(1, .sl 1), (2, .pp 2 0), (19, .v (.bool ((!y) || ((a1.length : Int) != a0_0))))] [.row false (.trips a0_1), .row false (.ints .i64 a1), .rbox [.v (.int .i64 a0_0), .sl 0]] ?_ ?_
  · clear h
    intro K hK
    refine awp_region ftCOk ?_
    simp (maxSteps := 4000000) only [go_sem, Nat.reduceBEq, Nat.reduceLT, Nat.reduceAdd, Nat.reduceLeDiff, Nat.reduceSub, Nat.reduceEqDiff, Int.reduceToNat, reduceCtorEq, ↓reduceIte]
    repeat' (first | refine And.intro ?_ ?_ | intro hg)
    all_goals (try simp (disch := omega) only [wrap_fits])
    all_goals first
      | (refine hK _ _ ?_; exact Red.auto)
      | exact trivial
      | assumption
      | omega
      | exact wrap_fits (by omega) (by omega)
      | (refine wpA_callA (k_impl_GraphValid a0_0 a0_1 (h := hr0)) [0] [] ?_
         rintro x Hc' ⟨rfl, rfl⟩ hlen
         refine vcOps_sound ftCOk ?_
         simp (maxSteps := 4000000) only [go_sem, Nat.reduceBEq, Nat.reduceLT, Nat.reduceAdd, Nat.reduceLeDiff, Nat.reduceSub, Nat.reduceEqDiff, Int.reduceToNat, reduceCtorEq, ↓reduceIte]
         repeat' (first | refine And.intro ?_ ?_ | intro hg)
         all_goals (try simp (disch := omega) only [wrap_fits])
         all_goals first
           | (refine hK _ _ ?_; exact Red.auto)
           | exact trivial
           | assumption
           | omega
           | exact wrap_fits (by omega) (by omega)
           | (simp_all; done)
           | (simp_all; omega))
      | (simp_all; done)
      | (simp_all; omega)
  · clear hr0
    refine awp_cond (t := 19) rfl (fun hc3 => ?_) (fun hc3 => ?_)
    · replace h := bite_t h hc3
      refine awp_reg ftCOk [(4, .v (.bool false))] [.row false (.trips a0_1), .row false (.ints .i64 a1), .rbox [.v (.int .i64 a0_0), .sl 0]] ?_
      refine awp_ret ?_
      (try simp only [Thn, InBlk, ↓reduceIte, Nat.reduceEqDiff])
      obtain rfl := Option.some.inj h
      refine ⟨by simp, _, [0, 1], (by simp only [go_sem, Nat.reduceBEq, Nat.reduceLT, Nat.reduceAdd, Nat.reduceLeDiff, Nat.reduceSub, Nat.reduceEqDiff, Int.reduceToNat, reduceCtorEq, ↓reduceIte]; exact rfl), ?_, ?_, ?_, ?_⟩
      · first | exact trivial | exact ⟨trivial, trivial⟩ | exact ⟨trivial, trivial, trivial⟩ | exact ⟨trivial, trivial, trivial, trivial⟩ | (simp only [allP, and_true, true_and]; done) | (simp only [allP, and_true, true_and]; omega)
      · simp [selOk, pos]
      · simp
      · first | exact ⟨rfl, rfl⟩ | (simp only [go_sem, Nat.reduceBEq, Nat.reduceLT, Nat.reduceAdd, Nat.reduceLeDiff, Nat.reduceSub, Nat.reduceEqDiff, Int.reduceToNat, reduceCtorEq, ↓reduceIte]; done) | (simp [go_sem, Nat.reduceBEq, Nat.reduceLT, Nat.reduceAdd, Nat.reduceLeDiff, Nat.reduceSub, Nat.reduceEqDiff, Int.reduceToNat, reduceCtorEq, ↓reduceIte]; done) | (simp only [go_sem, Nat.reduceBEq, Nat.reduceLT, Nat.reduceAdd, Nat.reduceLeDiff, Nat.reduceSub, Nat.reduceEqDiff, Int.reduceToNat, reduceCtorEq, ↓reduceIte]; exact ⟨rfl, rfl⟩) | (simp_all [go_sem, Nat.reduceBEq, Nat.reduceLT, Nat.reduceAdd, Nat.reduceLeDiff, Nat.reduceSub, Nat.reduceEqDiff, Int.reduceToNat, reduceCtorEq, ↓reduceIte]; done)
    · replace h := bite_f h hc3
      refine awp_skip ?_
      (try simp only [Thn, InBlk, ↓reduceIte, Nat.reduceEqDiff])
      refine hK2 _ _ ?_
      clear hK2
      replace h := bind_some h
      obtain ⟨y_1, hr0, h⟩ := h
      try dsimp only at h
      refine awp_to [(1, .sl 1), (2, .pp 2 0), (5, .sl 3)] [.row false (.trips a0_1), .row false (.ints .i64 a1), .rbox [.v (.int .i64 a0_0), .sl 0], .row true (.ints .i64 y_1)] ?_ ?_
      · clear h
        intro K hK
        refine awp_region ftCOk ?_
        simp (maxSteps := 4000000) only [go_sem, Nat.reduceBEq, Nat.reduceLT, Nat.reduceAdd, Nat.reduceLeDiff, Nat.reduceSub, Nat.reduceEqDiff, Int.reduceToNat, reduceCtorEq, ↓reduceIte]
        repeat' (first | refine And.intro ?_ ?_ | intro hg)
        all_goals (try simp (disch := omega) only [wrap_fits])
        all_goals first
          | (refine hK _ _ ?_; exact Red.auto)
          | exact trivial
          | assumption
          | omega
          | exact wrap_fits (by omega) (by omega)
          | (refine wpA_callA (k_impl_unknowns a0_0 (h := hr0)) [] [] ?_
             rintro x Hc' ⟨rfl, rfl⟩ hlen
             refine vcOps_sound ftCOk ?_
             simp (maxSteps := 4000000) only [go_sem, Nat.reduceBEq, Nat.reduceLT, Nat.reduceAdd, Nat.reduceLeDiff, Nat.reduceSub, Nat.reduceEqDiff, Int.reduceToNat, reduceCtorEq, ↓reduceIte]
             repeat' (first | refine And.intro ?_ ?_ | intro hg)
             all_goals (try simp (disch := omega) only [wrap_fits])
             all_goals first
               | (refine hK _ _ ?_; exact Red.auto)
               | exact trivial
               | assumption
               | omega
               | exact wrap_fits (by omega) (by omega)
               | (simp_all; done)
               | (simp_all; omega))
          | (simp_all; done)
          | (simp_all; omega)
      · clear hr0
        refine awp_seq fun K35 hK35 => ?_
        refine awp_reg ftCOk [(2, .pp 2 0), (5, .sl 3), (23, .sl 1), (24, .v (.int .i64 (a1.length : Int))), (25, .v (.int .i64 0))] [.row false (.trips a0_1), .row false (.ints .i64 a1), .rbox [.v (.int .i64 a0_0), .sl 0], .row true (.ints .i64 y_1)] ?_
        refine awp_block ?_
        replace h := bind_some h
        obtain ⟨x66, hx, h⟩ := h
        refine awp_loopL hx (fun ((t25, t5s) : Int × List Int) => [(2, .pp 2 0), (5, .sl 3), (23, .sl 1), (24, .v (.int .i64 (a1.length : Int))), (25, .v (.int .i64 t25))]) (fun ((t25, t5s) : Int × List Int) => [.row false (.trips a0_1), .row false (.ints .i64 a1), .rbox [.v (.int .i64 a0_0), .sl 0], .row true (.ints .i64 t5s)]) (Sum.elim (fun (t5s_1 : List Int) => Exit.exit 0) (fun (_ : Unit) => Exit.ret)) (Sum.elim (fun (t5s_1 : List Int) => [(2, .pp 2 0), (5, .sl 3)]) (fun (_ : Unit) => [(4, .v (.bool false))])) (Sum.elim (fun (t5s_1 : List Int) => [.row false (.trips a0_1), .row false (.ints .i64 a1), .rbox [.v (.int .i64 a0_0), .sl 0], .row true (.ints .i64 t5s_1)]) (fun (_ : Unit) => [.row false (.trips a0_1), .row false (.ints .i64 a1)])) ?_ ?_ ?_ ?_
        · rintro (t5s_1 | ⟨⟩) hy <;> cases hy
        · clear h hx
          exact Red.auto
        · clear h hx
          rintro ⟨t25, t5s⟩ r h
          unfold impl_OrderForward_b1 at h
          try dsimp only at h
          try dsimp only
          refine awp_reg ftCOk [(2, .pp 2 0), (5, .sl 3), (23, .sl 1), (24, .v (.int .i64 (a1.length : Int))), (25, .v (.int .i64 t25)), (26, .v (.bool (decide (t25 < (a1.length : Int)))))] [.row false (.trips a0_1), .row false (.ints .i64 a1), .rbox [.v (.int .i64 a0_0), .sl 0], .row true (.ints .i64 t5s)] ?_
          refine awp_seq fun K57 hK57 => ?_
          refine awp_cond (t := 26) rfl (fun hc58 => ?_) (fun hc58 => ?_)
          · replace h := bite_t h hc58
            refine awp_skip ?_
            (try simp only [Thn, InBlk, ↓reduceIte, Nat.reduceEqDiff])
            refine hK57 _ _ ?_
            clear hK57
            refine awp_seq fun K62 hK62 => ?_
            refine awp_block ?_
            replace h := chk_some h
            obtain ⟨hp0, h⟩ := h
            refine awp_reg ftCOk [(2, .pp 2 0), (5, .sl 3), (6, .v (.int .i64 t25)), (7, .v (.int .i64 (a1.getD t25.toNat 0))), (23, .sl 1), (24, .v (.int .i64 (a1.length : Int))), (25, .v (.int .i64 t25))] [.row false (.trips a0_1), .row false (.ints .i64 a1), .rbox [.v (.int .i64 a0_0), .sl 0], .row true (.ints .i64 t5s)] ?_
            clear hp0
            refine awp_seq fun K64 hK64 => ?_
            replace h := bind_some h
            obtain ⟨y_2, hr0, h⟩ := h
            try dsimp only at h
            replace h := chk_some h
            obtain ⟨hp1, h⟩ := h
            refine awp_to [(2, .pp 2 0), (5, .sl 3), (6, .v (.int .i64 t25)), (7, .v (.int .i64 (a1.getD t25.toNat 0))), (23, .sl 1), (24, .v (.int .i64 (a1.length : Int))), (25, .v (.int .i64 t25)), (40, .v (.bool ((!y_2) || ((t5s.getD ((a1.getD t25.toNat 0).toNat) 0) != (-1)))))] [.row false (.trips a0_1), .row false (.ints .i64 a1), .rbox [.v (.int .i64 a0_0), .sl 0], .row true (.ints .i64 t5s)] ?_ ?_
            · clear h
              intro K hK
              refine awp_region ftCOk ?_
              simp (maxSteps := 4000000) only [go_sem, Nat.reduceBEq, Nat.reduceLT, Nat.reduceAdd, Nat.reduceLeDiff, Nat.reduceSub, Nat.reduceEqDiff, Int.reduceToNat, reduceCtorEq, ↓reduceIte]
              repeat' (first | refine And.intro ?_ ?_ | intro hg)
              all_goals (try simp (disch := omega) only [wrap_fits])
              all_goals first
                | (refine hK _ _ ?_; exact Red.auto)
                | exact trivial
                | assumption
                | omega
                | exact wrap_fits (by omega) (by omega)
                | (have hq := hp1 (by first | assumption | (simp only [*, Bool.false_or, Bool.true_or, Bool.or_false, Bool.or_true, Bool.false_and, Bool.true_and, Bool.and_false, Bool.and_true, Bool.not_true, Bool.not_false]; done)); omega)
                | (refine wpA_callA (k_impl_Graph_has a0_0 a0_1 (a1.getD t25.toNat 0) (h := hr0)) [0] [] ?_
                   rintro x Hc' ⟨rfl, rfl⟩ hlen
                   refine vcOps_sound ftCOk ?_
                   simp (maxSteps := 4000000) only [go_sem, Nat.reduceBEq, Nat.reduceLT, Nat.reduceAdd, Nat.reduceLeDiff, Nat.reduceSub, Nat.reduceEqDiff, Int.reduceToNat, reduceCtorEq, ↓reduceIte]
                   repeat' (first | refine And.intro ?_ ?_ | intro hg)
                   all_goals (try simp (disch := omega) only [wrap_fits])
                   all_goals first
                     | (refine hK _ _ ?_; exact Red.auto)
                     | exact trivial
                     | assumption
                     | omega
                     | exact wrap_fits (by omega) (by omega)
                     | (have hq := hp1 (by first | assumption | (simp only [*, Bool.false_or, Bool.true_or, Bool.or_false, Bool.or_true, Bool.false_and, Bool.true_and, Bool.and_false, Bool.and_true, Bool.not_true, Bool.not_false]; done)); omega)
                     | (simp_all; done)
                     | (simp_all; omega))
                | (simp_all; done)
                | (simp_all; omega)
            · clear hr0 hp1
              refine awp_cond (t := 40) rfl (fun hc65 => ?_) (fun hc65 => ?_)
              · replace h := bite_t h hc65
                refine awp_reg ftCOk [(4, .v (.bool false))] [.row false (.trips a0_1), .row false (.ints .i64 a1), .rbox [.v (.int .i64 a0_0), .sl 0], .row true (.ints .i64 t5s)] ?_
                refine awp_ret ?_
                (try simp only [Thn, InBlk, ↓reduceIte, Nat.reduceEqDiff])
                obtain rfl := Option.some.inj h
                refine LoopQ.out rfl ?_
                exact Red.selA [0, 1] Red.auto
              · replace h := bite_f h hc65
                refine awp_skip ?_
                (try simp only [Thn, InBlk, ↓reduceIte, Nat.reduceEqDiff])
                refine hK64 _ _ ?_
                clear hK64
                replace h := chk_some h
                obtain ⟨hp0, h⟩ := h
                refine awp_regE ftCOk [(2, .pp 2 0), (5, .sl 3), (23, .sl 1), (24, .v (.int .i64 (a1.length : Int))), (25, .v (.int .i64 t25))] [.row false (.trips a0_1), .row false (.ints .i64 a1), .rbox [.v (.int .i64 a0_0), .sl 0], .row true (.ints .i64 (t5s.set ((a1.getD t25.toNat 0).toNat) t25))] ?_
                clear hp0
                (try simp only [Thn, InBlk, ↓reduceIte, Nat.reduceEqDiff])
                (try simp only [Thn, InBlk, ↓reduceIte, Nat.reduceEqDiff])
                refine hK62 _ _ ?_
                clear hK62
                replace h := chk_some h
                obtain ⟨hp0, h⟩ := h
                refine awp_regE ftCOk [(2, .pp 2 0), (5, .sl 3), (23, .sl 1), (24, .v (.int .i64 (a1.length : Int))), (25, .v (.int .i64 (t25 + 1)))] [.row false (.trips a0_1), .row false (.ints .i64 a1), .rbox [.v (.int .i64 a0_0), .sl 0], .row true (.ints .i64 (t5s.set ((a1.getD t25.toNat 0).toNat) t25))] ?_
                clear hp0
                obtain rfl := Option.some.inj h
                refine LoopQ.next ?_
                exact Red.auto
          · replace h := bite_f h hc58
            refine awp_exit ?_
            (try simp only [Thn, InBlk, ↓reduceIte, Nat.reduceEqDiff])
            obtain rfl := Option.some.inj h
            refine LoopQ.out rfl ?_
            exact Red.auto
        · clear hx
          rcases x66 with (t5s_1 | ⟨⟩)
          · try dsimp only [Sum.elim_inl, Sum.elim_inr] at h
            try dsimp only [Sum.elim_inl, Sum.elim_inr]
            (try simp only [Thn, InBlk, ↓reduceIte, Nat.reduceEqDiff])
            (try simp only [Thn, InBlk, ↓reduceIte, Nat.reduceEqDiff])
            (try simp only [Thn, InBlk, ↓reduceIte, Nat.reduceEqDiff])
            refine hK35 _ _ ?_
            clear hK35
            refine awp_seq fun K86 hK86 => ?_
            refine awp_reg ftCOk [(5, .sl 3), (47, .sl 0), (48, .v (.int .i64 (a0_1.length : Int))), (49, .v (.int .i64 0))] [.row false (.trips a0_1), .row false (.ints .i64 a1), .rbox [.v (.int .i64 a0_0), .sl 0], .row true (.ints .i64 t5s_1)] ?_
            refine awp_block ?_
            replace h := bind_some h
            obtain ⟨x105, hx, h⟩ := h
            refine awp_loopL hx (fun (t49 : Int) => [(5, .sl 2), (47, .sl 0), (48, .v (.int .i64 (a0_1.length : Int))), (49, .v (.int .i64 t49))]) (fun (t49 : Int) => [.row false (.trips a0_1), .row false (.ints .i64 a1), .row true (.ints .i64 t5s_1)]) (Sum.elim (fun (_ : Unit) => Exit.exit 2) (fun (_ : Unit) => Exit.ret)) (Sum.elim (fun (_ : Unit) => []) (fun (_ : Unit) => [(4, .v (.bool false))])) (Sum.elim (fun (_ : Unit) => [.row false (.trips a0_1), .row false (.ints .i64 a1)]) (fun (_ : Unit) => [.row false (.trips a0_1), .row false (.ints .i64 a1)])) ?_ ?_ ?_ ?_
            · rintro (⟨⟩ | ⟨⟩) hy <;> cases hy
            · clear h hx
              exact Red.selA [0, 1, 3] Red.auto
            · clear h hx
              rintro t49 r h
              unfold impl_OrderForward_b3 at h
              try dsimp only at h
              try dsimp only
              refine awp_reg ftCOk [(5, .sl 2), (47, .sl 0), (48, .v (.int .i64 (a0_1.length : Int))), (49, .v (.int .i64 t49)), (50, .v (.bool (decide (t49 < (a0_1.length : Int)))))] [.row false (.trips a0_1), .row false (.ints .i64 a1), .row true (.ints .i64 t5s_1)] ?_
              refine awp_seq fun K100 hK100 => ?_
              refine awp_cond (t := 50) rfl (fun hc101 => ?_) (fun hc101 => ?_)
              · replace h := bite_t h hc101
                refine awp_skip ?_
                (try simp only [Thn, InBlk, ↓reduceIte, Nat.reduceEqDiff])
                refine hK100 _ _ ?_
                clear hK100
                refine awp_seq fun K103 hK103 => ?_
                refine awp_block ?_
                replace h := chk_some h
                obtain ⟨hp0, h⟩ := h
                refine awp_reg ftCOk [(5, .sl 2), (9, .pp 3 0), (47, .sl 0), (48, .v (.int .i64 (a0_1.length : Int))), (49, .v (.int .i64 t49))] [.row false (.trips a0_1), .row false (.ints .i64 a1), .row true (.ints .i64 t5s_1), .box [.v (.int .i64 ((a0_1.getD t49.toNat (0, 0, 0)).1)), .v (.int .i64 ((a0_1.getD t49.toNat (0, 0, 0)).2.1)), .v (.int .i64 ((a0_1.getD t49.toNat (0, 0, 0)).2.2))]] ?_
                clear hp0
                replace h := chk_some h
                obtain ⟨hp0, h⟩ := h
                replace h := chk_some h
                obtain ⟨hp1, h⟩ := h
                refine awp_regQ mixed ftCOk [(5, .sl 2), (47, .sl 0), (48, .v (.int .i64 (a0_1.length : Int))), (49, .v (.int .i64 t49)), (63, .v (.bool (decide ((t5s_1.getD (((a0_1.getD t49.toNat (0, 0, 0)).2.1).toNat) 0) ≤ (t5s_1.getD (((a0_1.getD t49.toNat (0, 0, 0)).1).toNat) 0)))))] [.row false (.trips a0_1), .row false (.ints .i64 a1), .row true (.ints .i64 t5s_1), .box [.v (.int .i64 ((a0_1.getD t49.toNat (0, 0, 0)).1)), .v (.int .i64 ((a0_1.getD t49.toNat (0, 0, 0)).2.1)), .v (.int .i64 ((a0_1.getD t49.toNat (0, 0, 0)).2.2))]] ?_
                clear hp0 hp1
                refine awp_cond (t := 63) rfl (fun hc104 => ?_) (fun hc104 => ?_)
                · replace h := bite_t h hc104
                  refine awp_reg ftCOk [(4, .v (.bool false))] [.row false (.trips a0_1), .row false (.ints .i64 a1), .row true (.ints .i64 t5s_1), .box [.v (.int .i64 ((a0_1.getD t49.toNat (0, 0, 0)).1)), .v (.int .i64 ((a0_1.getD t49.toNat (0, 0, 0)).2.1)), .v (.int .i64 ((a0_1.getD t49.toNat (0, 0, 0)).2.2))]] ?_
                  refine awp_ret ?_
                  (try simp only [Thn, InBlk, ↓reduceIte, Nat.reduceEqDiff])
                  obtain rfl := Option.some.inj h
                  refine LoopQ.out rfl ?_
                  exact Red.selA [0, 1] Red.auto
                · replace h := bite_f h hc104
                  refine awp_skip ?_
                  (try simp only [Thn, InBlk, ↓reduceIte, Nat.reduceEqDiff])
                  (try simp only [Thn, InBlk, ↓reduceIte, Nat.reduceEqDiff])
                  refine hK103 _ _ ?_
                  clear hK103
                  replace h := chk_some h
                  obtain ⟨hp0, h⟩ := h
                  refine awp_regE ftCOk [(5, .sl 2), (47, .sl 0), (48, .v (.int .i64 (a0_1.length : Int))), (49, .v (.int .i64 (t49 + 1)))] [.row false (.trips a0_1), .row false (.ints .i64 a1), .row true (.ints .i64 t5s_1), .box [.v (.int .i64 ((a0_1.getD t49.toNat (0, 0, 0)).1)), .v (.int .i64 ((a0_1.getD t49.toNat (0, 0, 0)).2.1)), .v (.int .i64 ((a0_1.getD t49.toNat (0, 0, 0)).2.2))]] ?_
                  clear hp0
                  obtain rfl := Option.some.inj h
                  refine LoopQ.next ?_
                  exact Red.selA [0, 1, 2] Red.auto
              · replace h := bite_f h hc101
                refine awp_exit ?_
                (try simp only [Thn, InBlk, ↓reduceIte, Nat.reduceEqDiff])
                obtain rfl := Option.some.inj h
                refine LoopQ.out rfl ?_
                exact Red.selA [0, 1] Red.auto
            · clear hx
              rcases x105 with (⟨⟩ | ⟨⟩)
              · try dsimp only [Sum.elim_inl, Sum.elim_inr] at h
                try dsimp only [Sum.elim_inl, Sum.elim_inr]
                (try simp only [Thn, InBlk, ↓reduceIte, Nat.reduceEqDiff])
                (try simp only [Thn, InBlk, ↓reduceIte, Nat.reduceEqDiff])
                (try simp only [Thn, InBlk, ↓reduceIte, Nat.reduceEqDiff])
                refine hK86 _ _ ?_
                clear hK86
                refine awp_reg ftCOk [(4, .v (.bool true))] [.row false (.trips a0_1), .row false (.ints .i64 a1)] ?_
                refine awp_ret ?_
                (try simp only [Thn, InBlk, ↓reduceIte, Nat.reduceEqDiff])
                obtain rfl := Option.some.inj h
                refine ⟨by simp, _, [0, 1], (by simp only [go_sem, Nat.reduceBEq, Nat.reduceLT, Nat.reduceAdd, Nat.reduceLeDiff, Nat.reduceSub, Nat.reduceEqDiff, Int.reduceToNat, reduceCtorEq, ↓reduceIte]; exact rfl), ?_, ?_, ?_, ?_⟩
                · first | exact trivial | exact ⟨trivial, trivial⟩ | exact ⟨trivial, trivial, trivial⟩ | exact ⟨trivial, trivial, trivial, trivial⟩ | (simp only [allP, and_true, true_and]; done) | (simp only [allP, and_true, true_and]; omega)
                · simp [selOk, pos]
                · simp
                · first | exact ⟨rfl, rfl⟩ | (simp only [go_sem, Nat.reduceBEq, Nat.reduceLT, Nat.reduceAdd, Nat.reduceLeDiff, Nat.reduceSub, Nat.reduceEqDiff, Int.reduceToNat, reduceCtorEq, ↓reduceIte]; done) | (simp [go_sem, Nat.reduceBEq, Nat.reduceLT, Nat.reduceAdd, Nat.reduceLeDiff, Nat.reduceSub, Nat.reduceEqDiff, Int.reduceToNat, reduceCtorEq, ↓reduceIte]; done) | (simp only [go_sem, Nat.reduceBEq, Nat.reduceLT, Nat.reduceAdd, Nat.reduceLeDiff, Nat.reduceSub, Nat.reduceEqDiff, Int.reduceToNat, reduceCtorEq, ↓reduceIte]; exact ⟨rfl, rfl⟩) | (simp_all [go_sem, Nat.reduceBEq, Nat.reduceLT, Nat.reduceAdd, Nat.reduceLeDiff, Nat.reduceSub, Nat.reduceEqDiff, Int.reduceToNat, reduceCtorEq, ↓reduceIte]; done)
              · try dsimp only [Sum.elim_inl, Sum.elim_inr] at h
                try dsimp only [Sum.elim_inl, Sum.elim_inr]
                (try simp only [Thn, InBlk, ↓reduceIte, Nat.reduceEqDiff])
                obtain rfl := Option.some.inj h
                refine ⟨by simp, _, [0, 1], (by simp only [go_sem, Nat.reduceBEq, Nat.reduceLT, Nat.reduceAdd, Nat.reduceLeDiff, Nat.reduceSub, Nat.reduceEqDiff, Int.reduceToNat, reduceCtorEq, ↓reduceIte]; exact rfl), ?_, ?_, ?_, ?_⟩
                · first | exact trivial | exact ⟨trivial, trivial⟩ | exact ⟨trivial, trivial, trivial⟩ | exact ⟨trivial, trivial, trivial, trivial⟩ | (simp only [allP, and_true, true_and]; done) | (simp only [allP, and_true, true_and]; omega)
                · simp [selOk, pos]
                · simp
                · first | exact ⟨rfl, rfl⟩ | (simp only [go_sem, Nat.reduceBEq, Nat.reduceLT, Nat.reduceAdd, Nat.reduceLeDiff, Nat.reduceSub, Nat.reduceEqDiff, Int.reduceToNat, reduceCtorEq, ↓reduceIte]; done) | (simp [go_sem, Nat.reduceBEq, Nat.reduceLT, Nat.reduceAdd, Nat.reduceLeDiff, Nat.reduceSub, Nat.reduceEqDiff, Int.reduceToNat, reduceCtorEq, ↓reduceIte]; done) | (simp only [go_sem, Nat.reduceBEq, Nat.reduceLT, Nat.reduceAdd, Nat.reduceLeDiff, Nat.reduceSub, Nat.reduceEqDiff, Int.reduceToNat, reduceCtorEq, ↓reduceIte]; exact ⟨rfl, rfl⟩) | (simp_all [go_sem, Nat.reduceBEq, Nat.reduceLT, Nat.reduceAdd, Nat.reduceLeDiff, Nat.reduceSub, Nat.reduceEqDiff, Int.reduceToNat, reduceCtorEq, ↓reduceIte]; done)
          · try dsimp only [Sum.elim_inl, Sum.elim_inr] at h
            try dsimp only [Sum.elim_inl, Sum.elim_inr]
            (try simp only [Thn, InBlk, ↓reduceIte, Nat.reduceEqDiff])
            obtain rfl := Option.some.inj h
            refine ⟨by simp, _, [0, 1], (by simp only [go_sem, Nat.reduceBEq, Nat.reduceLT, Nat.reduceAdd, Nat.reduceLeDiff, Nat.reduceSub, Nat.reduceEqDiff, Int.reduceToNat, reduceCtorEq, ↓reduceIte]; exact rfl), ?_, ?_, ?_, ?_⟩
            · first | exact trivial | exact ⟨trivial, trivial⟩ | exact ⟨trivial, trivial, trivial⟩ | exact ⟨trivial, trivial, trivial, trivial⟩ | (simp only [allP, and_true, true_and]; done) | (simp only [allP, and_true, true_and]; omega)
            · simp [selOk, pos]
            · simp
            · first | exact ⟨rfl, rfl⟩ | (simp only [go_sem, Nat.reduceBEq, Nat.reduceLT, Nat.reduceAdd, Nat.reduceLeDiff, Nat.reduceSub, Nat.reduceEqDiff, Int.reduceToNat, reduceCtorEq, ↓reduceIte]; done) | (simp [go_sem, Nat.reduceBEq, Nat.reduceLT, Nat.reduceAdd, Nat.reduceLeDiff, Nat.reduceSub, Nat.reduceEqDiff, Int.reduceToNat, reduceCtorEq, ↓reduceIte]; done) | (simp only [go_sem, Nat.reduceBEq, Nat.reduceLT, Nat.reduceAdd, Nat.reduceLeDiff, Nat.reduceSub, Nat.reduceEqDiff, Int.reduceToNat, reduceCtorEq, ↓reduceIte]; exact ⟨rfl, rfl⟩) | (simp_all [go_sem, Nat.reduceBEq, Nat.reduceLT, Nat.reduceAdd, Nat.reduceLeDiff, Nat.reduceSub, Nat.reduceEqDiff, Int.reduceToNat, reduceCtorEq, ↓reduceIte]; done)
end Go.Proofs.Ytlpkjcmiohppcaa

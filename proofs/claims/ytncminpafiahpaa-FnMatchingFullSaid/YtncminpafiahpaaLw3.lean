/- The code computes the functions that were taken out of it. -/
import Derived.Test.YtncminpafiahpaaLw2
set_option maxRecDepth 100000
set_option maxHeartbeats 4000000
set_option linter.unusedSimpArgs false
set_option linter.unusedVariables false
namespace Go.Proofs.Ytncminpafiahpaa
open Go Go.Av
attribute [local irreducible] wpA OpK awp
attribute [local go_sem] frs_nil frs_cons pw8_32 pw16_32 pw24_32 pw27_32 eqAgg eqAggV buildQ placesOf buildCells List.toList_toArray vcQg gfind gfree gput un3_agg unI_int unB_bool unK_int guardU skipV resVs resV vcD_nil vcD_cons vcT_fin vcT_free vcT_one vcT_two opS vcD1 roH roOb ftNone ftAdd oneOrTup AV.detup AV.ren AV.ren2 AV.ren1 pos selH AObj.ren fitAll fit fit1 fit1s matchAll matchOb exIds AObj.excl Env.killp pastH setAll upId AObj.past AObj.back AV.killp AV.killp1 AV.killp2 Nat.sub_self Nat.lt_irrefl Bool.or_self vcOps vcOp vcQs vcQ dstOk quiet eff pcall calleeF plain valsOf ev ofConst argEnv List.lookup Nat.add_eq decide_true decide_false Env.put binV wrapTo unV convV loadQ indexQ callQ builtinQ rd rdI globC AObj.globC partAV isAggD isArrayD addrAdd boxE storeE storeCE makeE makeNE buildNE nestZero Cont.child Cont.setChild buildSliceE buildFold appendE appendNE nestApp appendV promoteH sliceE boundAV subObj asCells Value.oneCell' contZero Cont.sets Cont.app Cont.sub Cont.len Cont.esz Cont.cell Cont.cells Cont.flat AV.det AV.det1 guardV AObj.unview AObj.kill Env.kill AV.kill AV.kill1 AV.kill2 fits64 Option.getD_some Option.getD_none Option.map_some Option.map_none Option.bind_some List.map_cons List.map_nil List.getElem?_cons_zero List.getElem?_cons_succ List.getElem?_nil true_and and_true List.getElem?_toArray List.cons_append List.nil_append List.length_cons List.length_nil List.set_cons_zero List.set_cons_succ List.take_succ_cons List.take_zero List.drop_succ_cons List.drop_zero List.drop_nil List.take_nil List.contains_cons List.contains_nil List.elem_cons List.elem_nil Bool.not_true Bool.not_false Bool.false_eq_true Bool.or_false Bool.or_true Bool.and_true Bool.and_false Bool.true_and Bool.false_and List.all_cons List.all_nil List.size_toArray Nat.lt_add_one Nat.zero_lt_succ Nat.one_ne_zero Nat.zero_ne_one and_self List.replicate_succ List.replicate_zero Int.toNat_natCast Int.toNat_zero Value.cells false_implies true_implies forall_const Thn InBlk Nat.zero_add Nat.add_zero Int.zero_add Ele Env.ren Option.some.injEq AV.v.injEq AV.sl.injEq AV.pp.injEq AV.ep.injEq AV.agg.injEq List.cons.injEq Value.int.injEq Value.bool.injEq Value.string.injEq true_or or_true or_false false_or tsz0 tby0 tz0 Try.underlying0 tsz1 tby1 tz1 Try.underlying1 tsz2 tby2 tz2 Try.underlying2 tsz3 tby3 tz3 Try.underlying3 tsz4 tby4 tz4 Try.underlying4 tsz5 tby5 tz5 Try.underlying5 tsz6 tby6 tz6 Try.underlying6 tsz7 tby7 tz7 Try.underlying7 fo7_0 fo7_1 fo7_2 fo7_3 tsz8 tby8 tz8 Try.underlying8 fo8_0 fo8_1 fo8_2 fo8_3 tsz9 tby9 Try.underlying9 tsz10 tby10 Try.underlying10 tsz12 tby12 tz12 Try.underlying12 tsz16 tby16 tz16 Try.underlying16 tsz17 tby17 tz17 Try.underlying17 tsz20 tby20 tz20 Try.underlying20 tsz21 tby21 tz21 Try.underlying21 tsz22 tby22 tz22 Try.underlying22 tsz23 tby23 tz23 Try.underlying23 fo23_0 fo23_1 tsz24 tby24 tz24 Try.underlying24 fo24_0 fo24_1 tsz26 tby26 tz26 Try.underlying26 tsz28 tby28 tz28 Try.underlying28 tsz29 tby29 tz29 Try.underlying29 fo29_0 fo29_1 tsz30 tby30 tz30 Try.underlying30 fo30_0 fo30_1 tsz32 tby32 tz32 Try.underlying32 tsz37 tby37 tz37 Try.underlying37 tsz38 tby38 tz38 Try.underlying38 tsz39 tby39 tz39 Try.underlying39 fo39_0 fo39_1 fo39_2 fo39_3 fo39_4 tsz40 tby40 tz40 Try.underlying40 fo40_0 fo40_1 fo40_2 fo40_3 fo40_4 tsz44 tby44 tz44 Try.underlying44 tsz48 tby48 tz48 Try.underlying48 tsz49 tby49 tz49 Try.underlying49 fo49_0 fo49_1 fo49_2 fo49_3 fo49_4 tsz50 tby50 tz50 Try.underlying50 fo50_0 fo50_1 fo50_2 fo50_3 fo50_4 tsz56 tby56 tz56 Try.underlying56 tsz68 tby68 tz68 Try.underlying68 peq68 fo68_0 fo68_1 fo68_2 tsz69 tby69 tz69 Try.underlying69 peq69 fo69_0 fo69_1 fo69_2 tsz70 tby70 tz70 Try.underlying70 tsz75 tby75 tz75 Try.underlying75 tsz80 tby80 tz80 Try.underlying80 tsz81 tby81 tz81 Try.underlying81 tsz88 tby88 tz88 Try.underlying88 tsz93 tby93 tz93 Try.underlying93 tsz97 tby97 tz97 Try.underlying97 peq97 fo97_0 fo97_1 tsz98 tby98 tz98 Try.underlying98 peq98 fo98_0 fo98_1 tsz114 tby114 tz114 Try.underlying114 tsz116 tby116 tz116 Try.underlying116 tsz117 tby117 tz117 Try.underlying117 tsz119 tby119 tz119 Try.underlying119 peq119 fo119_0 fo119_1 fo119_2 tsz123 tby123 tz123 Try.underlying123 fo123_0 fo123_1 tsz124 tby124 tz124 Try.underlying124 fo124_0 fo124_1 tsz129 tby129 tz129 Try.underlying129 peq129 fo129_0 fo129_1 tsz142 tby142 tz142 Try.underlying142 tsz148 tby148 tz148 Try.underlying148 tsz149 tby149 tz149 Try.underlying149 tsz150 tby150 tz150 Try.underlying150 tsz152 tby152 tz152 Try.underlying152 tsz153 tby153 tz153 Try.underlying153 tsz154 tby154 tz154 Try.underlying154 tsz155 tby155 tz155 Try.underlying155 tsz156 tby156 tz156 Try.underlying156 tsz157 tby157 tz157 Try.underlying157 tsz158 tby158 tz158 Try.underlying158 fo158_0 fo158_1 fo158_2 fo158_3 fo158_4 fo158_5 fo158_6 fo158_7 fo158_8 fo158_9 fo158_10 tsz159 tby159 tz159 Try.underlying159 fo159_0 fo159_1 fo159_2 fo159_3 fo159_4 fo159_5 fo159_6 fo159_7 fo159_8 fo159_9 fo159_10 tsz160 tby160 tz160 Try.underlying160 l1InG l4BeforeG isNaNG cmpIntG cmpEndsG mat1G ftC
theorem k_laws_FnMatchingFull (a0 : List Int) {r : Bool} (h : laws_FnMatchingFull a0 = some r) :
    FnA Try.prog 13 [.sl 0] [.row false (.ints .u8 a0)] [] (fun x H => x = .v (.bool r) ∧ H = [.row false (.ints .u8 a0)]) := by
  unfold laws_FnMatchingFull at h
  refine FnA.of (N := 66) (pin := [0]) (rs := [.tmp 2]) Try.func13 rfl en13 rfl rfl (by simp) (by simp; try omega) ?_
  refine awp_reg ftCOk [(0, .sl 0)] [.row false (.ints .u8 a0)] ?_
  refine awp_seq fun K2 hK2 => ?_
  refine awp_reg ftCOk [(0, .sl 0), (12, .v (.bool (decide (1048576 < (a0.length : Int)))))] [.row false (.ints .u8 a0)] ?_
  refine awp_cond (t := 12) rfl (fun hc3 => ?_) (fun hc3 => ?_)
  · replace h := bite_t h hc3
    refine awp_reg ftCOk [(2, .v (.bool true))] [.row false (.ints .u8 a0)] ?_
    refine awp_ret ?_
    (try simp only [Thn, InBlk, ↓reduceIte, Nat.reduceEqDiff])
    obtain rfl := Option.some.inj h
    refine ⟨by simp, _, [0], (by simp only [go_sem, Nat.reduceBEq, Nat.reduceLT, Nat.reduceAdd, Nat.reduceLeDiff, Nat.reduceSub, Nat.reduceEqDiff, Int.reduceToNat, reduceCtorEq, ↓reduceIte]; exact rfl), ?_, ?_, ?_, ?_⟩
    · first | exact trivial | exact ⟨trivial, trivial⟩ | exact ⟨trivial, trivial, trivial⟩ | exact ⟨trivial, trivial, trivial, trivial⟩ | (simp only [allP, and_true, true_and]; done) | (simp only [allP, and_true, true_and]; omega)
    · simp [selOk, pos]
    · simp
    · first | exact ⟨rfl, rfl⟩ | (simp only [go_sem, Nat.reduceBEq, Nat.reduceLT, Nat.reduceAdd, Nat.reduceLeDiff, Nat.reduceSub, Nat.reduceEqDiff, Int.reduceToNat, reduceCtorEq, ↓reduceIte]; done) | (simp [go_sem, Nat.reduceBEq, Nat.reduceLT, Nat.reduceAdd, Nat.reduceLeDiff, Nat.reduceSub, Nat.reduceEqDiff, Int.reduceToNat, reduceCtorEq, ↓reduceIte]; done) | (simp only [go_sem, Nat.reduceBEq, Nat.reduceLT, Nat.reduceAdd, Nat.reduceLeDiff, Nat.reduceSub, Nat.reduceEqDiff, Int.reduceToNat, reduceCtorEq, ↓reduceIte]; exact ⟨rfl, rfl⟩) | (simp_all [go_sem, Nat.reduceBEq, Nat.reduceLT, Nat.reduceAdd, Nat.reduceLeDiff, Nat.reduceSub, Nat.reduceEqDiff, Int.reduceToNat, reduceCtorEq, ↓reduceIte]; done)
  · replace h := bite_f h hc3
    refine awp_skip ?_
    (try simp only [Thn, InBlk, ↓reduceIte, Nat.reduceEqDiff])
    refine hK2 _ _ ?_
    clear hK2
    replace h := bind_some h
    obtain ⟨⟨y, y_1, y_2⟩, hr0, h⟩ := h
    try dsimp only at h
    refine awp_to [(3, .pp 3 0), (4, .sl 2)] [.row false (.ints .u8 a0), .row true (.trips y_1), .row true (.ints .i64 y_2), .box [.v (.int .i64 y), .sl 1]] ?_ ?_
    · clear h
      intro K hK
      refine awp_region ftCOk ?_
      simp (maxSteps := 4000000) only [go_sem, Nat.reduceBEq, Nat.reduceLT, Nat.reduceAdd, Nat.reduceLeDiff, Nat.reduceSub, Nat.reduceEqDiff, Int.reduceToNat, reduceCtorEq, ↓reduceIte]
      repeat' (first | refine And.intro ?_ ?_ | intro hg)
      all_goals (try simp (disch := omega) only [wrap_fits])
      all_goals first
        | (refine hK _ _ ?_; exact Red.auto)
        | exact trivial
        | assumption
        | omega
        | exact wrap_fits (by omega) (by omega)
        | (refine wpA_callA (k_spec_DrawMatchingFull a0 (h := hr0)) [0] [] ?_
           rintro x Hc' ⟨rfl, rfl⟩ hlen
           refine vcOps_sound ftCOk ?_
           simp (maxSteps := 4000000) only [go_sem, Nat.reduceBEq, Nat.reduceLT, Nat.reduceAdd, Nat.reduceLeDiff, Nat.reduceSub, Nat.reduceEqDiff, Int.reduceToNat, reduceCtorEq, ↓reduceIte]
           repeat' (first | refine And.intro ?_ ?_ | intro hg)
           all_goals (try simp (disch := omega) only [wrap_fits])
           all_goals first
             | (refine hK _ _ ?_; exact Red.auto)
             | exact trivial
             | assumption
             | omega
             | exact wrap_fits (by omega) (by omega)
             | (simp_all; done)
             | (simp_all; omega))
        | (simp_all; done)
        | (simp_all; omega)
    · clear hr0
      replace h := bind_some h
      obtain ⟨y_3, hr0, h⟩ := h
      try dsimp only at h
      refine awp_to [(3, .pp 3 0), (4, .sl 2), (5, .v (.bool y_3))] [.row false (.ints .u8 a0), .row true (.trips y_1), .row true (.ints .i64 y_2), .box [.v (.int .i64 y), .sl 1]] ?_ ?_
      · clear h
        intro K hK
        refine awp_region ftCOk ?_
        simp (maxSteps := 4000000) only [go_sem, Nat.reduceBEq, Nat.reduceLT, Nat.reduceAdd, Nat.reduceLeDiff, Nat.reduceSub, Nat.reduceEqDiff, Int.reduceToNat, reduceCtorEq, ↓reduceIte]
        repeat' (first | refine And.intro ?_ ?_ | intro hg)
        all_goals (try simp (disch := omega) only [wrap_fits])
        all_goals first
          | (refine hK _ _ ?_; exact Red.auto)
          | exact trivial
          | assumption
          | omega
          | exact wrap_fits (by omega) (by omega)
          | (refine wpA_callA (k_impl_MatchingFull y y_1 y_2 (h := hr0)) [1, 2] [] ?_
             rintro x Hc' ⟨rfl, rfl⟩ hlen
             refine vcOps_sound ftCOk ?_
             simp (maxSteps := 4000000) only [go_sem, Nat.reduceBEq, Nat.reduceLT, Nat.reduceAdd, Nat.reduceLeDiff, Nat.reduceSub, Nat.reduceEqDiff, Int.reduceToNat, reduceCtorEq, ↓reduceIte]
             repeat' (first | refine And.intro ?_ ?_ | intro hg)
             all_goals (try simp (disch := omega) only [wrap_fits])
             all_goals first
               | (refine hK _ _ ?_; exact Red.auto)
               | exact trivial
               | assumption
               | omega
               | exact wrap_fits (by omega) (by omega)
               | (simp_all; done)
               | (simp_all; omega))
          | (simp_all; done)
          | (simp_all; omega)
      · clear hr0
        refine awp_seq fun K5 hK5 => ?_
        replace h := bind_some h
        obtain ⟨y_4, hr0, h⟩ := h
        try dsimp only at h
        refine awp_to [(3, .pp 3 0), (4, .sl 2), (5, .v (.bool y_3)), (25, .v (.bool (!(y_3 == y_4))))] [.row false (.ints .u8 a0), .row true (.trips y_1), .row true (.ints .i64 y_2), .box [.v (.int .i64 y), .sl 1]] ?_ ?_
        · clear h
          intro K hK
          refine awp_region ftCOk ?_
          simp (maxSteps := 4000000) only [go_sem, Nat.reduceBEq, Nat.reduceLT, Nat.reduceAdd, Nat.reduceLeDiff, Nat.reduceSub, Nat.reduceEqDiff, Int.reduceToNat, reduceCtorEq, ↓reduceIte]
          repeat' (first | refine And.intro ?_ ?_ | intro hg)
          all_goals (try simp (disch := omega) only [wrap_fits])
          all_goals first
            | (refine hK _ _ ?_; exact Red.auto)
            | exact trivial
            | assumption
            | omega
            | exact wrap_fits (by omega) (by omega)
            | (refine wpA_callA (k_spec_MatchingFull y y_1 y_2 (h := hr0)) [1, 2] [] ?_
               rintro x Hc' ⟨rfl, rfl⟩ hlen
               refine vcOps_sound ftCOk ?_
               simp (maxSteps := 4000000) only [go_sem, Nat.reduceBEq, Nat.reduceLT, Nat.reduceAdd, Nat.reduceLeDiff, Nat.reduceSub, Nat.reduceEqDiff, Int.reduceToNat, reduceCtorEq, ↓reduceIte]
               repeat' (first | refine And.intro ?_ ?_ | intro hg)
               all_goals (try simp (disch := omega) only [wrap_fits])
               all_goals first
                 | (refine hK _ _ ?_; exact Red.auto)
                 | exact trivial
                 | assumption
                 | omega
                 | exact wrap_fits (by omega) (by omega)
                 | (simp_all; done)
                 | (simp_all; omega))
            | (simp_all; done)
            | (simp_all; omega)
        · clear hr0
          refine awp_cond (t := 25) rfl (fun hc6 => ?_) (fun hc6 => ?_)
          · replace h := bite_t h hc6
            refine awp_reg ftCOk [(2, .v (.bool false))] [.row false (.ints .u8 a0), .row true (.trips y_1), .row true (.ints .i64 y_2), .box [.v (.int .i64 y), .sl 1]] ?_
            refine awp_ret ?_
            (try simp only [Thn, InBlk, ↓reduceIte, Nat.reduceEqDiff])
            obtain rfl := Option.some.inj h
            refine ⟨by simp, _, [0], (by simp only [go_sem, Nat.reduceBEq, Nat.reduceLT, Nat.reduceAdd, Nat.reduceLeDiff, Nat.reduceSub, Nat.reduceEqDiff, Int.reduceToNat, reduceCtorEq, ↓reduceIte]; exact rfl), ?_, ?_, ?_, ?_⟩
            · first | exact trivial | exact ⟨trivial, trivial⟩ | exact ⟨trivial, trivial, trivial⟩ | exact ⟨trivial, trivial, trivial, trivial⟩ | (simp only [allP, and_true, true_and]; done) | (simp only [allP, and_true, true_and]; omega)
            · simp [selOk, pos]
            · simp
            · first | exact ⟨rfl, rfl⟩ | (simp only [go_sem, Nat.reduceBEq, Nat.reduceLT, Nat.reduceAdd, Nat.reduceLeDiff, Nat.reduceSub, Nat.reduceEqDiff, Int.reduceToNat, reduceCtorEq, ↓reduceIte]; done) | (simp [go_sem, Nat.reduceBEq, Nat.reduceLT, Nat.reduceAdd, Nat.reduceLeDiff, Nat.reduceSub, Nat.reduceEqDiff, Int.reduceToNat, reduceCtorEq, ↓reduceIte]; done) | (simp only [go_sem, Nat.reduceBEq, Nat.reduceLT, Nat.reduceAdd, Nat.reduceLeDiff, Nat.reduceSub, Nat.reduceEqDiff, Int.reduceToNat, reduceCtorEq, ↓reduceIte]; exact ⟨rfl, rfl⟩) | (simp_all [go_sem, Nat.reduceBEq, Nat.reduceLT, Nat.reduceAdd, Nat.reduceLeDiff, Nat.reduceSub, Nat.reduceEqDiff, Int.reduceToNat, reduceCtorEq, ↓reduceIte]; done)
          · replace h := bite_f h hc6
            refine awp_skip ?_
            (try simp only [Thn, InBlk, ↓reduceIte, Nat.reduceEqDiff])
            refine hK5 _ _ ?_
            clear hK5
            refine awp_seq fun K8 hK8 => ?_
            refine awp_reg ftCOk [(3, .pp 3 0), (4, .sl 2), (27, .v (.bool (!y_3)))] [.row false (.ints .u8 a0), .row true (.trips y_1), .row true (.ints .i64 y_2), .box [.v (.int .i64 y), .sl 1]] ?_
            refine awp_cond (t := 27) rfl (fun hc9 => ?_) (fun hc9 => ?_)
            · replace h := bite_t h hc9
              replace h := bind_some h
              obtain ⟨y_5, hr0, h⟩ := h
              try dsimp only at h
              refine awp_to [(2, .v (.bool y_5))] [.row false (.ints .u8 a0), .row true (.trips y_1), .row true (.ints .i64 y_2), .box [.v (.int .i64 y), .sl 1]] ?_ ?_
              · clear h
                intro K hK
                refine awp_region ftCOk ?_
                simp (maxSteps := 4000000) only [go_sem, Nat.reduceBEq, Nat.reduceLT, Nat.reduceAdd, Nat.reduceLeDiff, Nat.reduceSub, Nat.reduceEqDiff, Int.reduceToNat, reduceCtorEq, ↓reduceIte]
                repeat' (first | refine And.intro ?_ ?_ | intro hg)
                all_goals (try simp (disch := omega) only [wrap_fits])
                all_goals first
                  | (refine hK _ _ ?_; exact Red.auto)
                  | exact trivial
                  | assumption
                  | omega
                  | exact wrap_fits (by omega) (by omega)
                  | (refine wpA_callA (k_laws_alive  (h := hr0)) [] [] ?_
                     rintro x Hc' ⟨rfl, rfl⟩ hlen
                     refine vcOps_sound ftCOk ?_
                     simp (maxSteps := 4000000) only [go_sem, Nat.reduceBEq, Nat.reduceLT, Nat.reduceAdd, Nat.reduceLeDiff, Nat.reduceSub, Nat.reduceEqDiff, Int.reduceToNat, reduceCtorEq, ↓reduceIte]
                     repeat' (first | refine And.intro ?_ ?_ | intro hg)
                     all_goals (try simp (disch := omega) only [wrap_fits])
                     all_goals first
                       | (refine hK _ _ ?_; exact Red.auto)
                       | exact trivial
                       | assumption
                       | omega
                       | exact wrap_fits (by omega) (by omega)
                       | (simp_all; done)
                       | (simp_all; omega))
                  | (simp_all; done)
                  | (simp_all; omega)
              · clear hr0
                refine awp_ret ?_
                (try simp only [Thn, InBlk, ↓reduceIte, Nat.reduceEqDiff])
                obtain rfl := Option.some.inj h
                refine ⟨by simp, _, [0], (by simp only [go_sem, Nat.reduceBEq, Nat.reduceLT, Nat.reduceAdd, Nat.reduceLeDiff, Nat.reduceSub, Nat.reduceEqDiff, Int.reduceToNat, reduceCtorEq, ↓reduceIte]; exact rfl), ?_, ?_, ?_, ?_⟩
                · first | exact trivial | exact ⟨trivial, trivial⟩ | exact ⟨trivial, trivial, trivial⟩ | exact ⟨trivial, trivial, trivial, trivial⟩ | (simp only [allP, and_true, true_and]; done) | (simp only [allP, and_true, true_and]; omega)
                · simp [selOk, pos]
                · simp
                · first | exact ⟨rfl, rfl⟩ | (simp only [go_sem, Nat.reduceBEq, Nat.reduceLT, Nat.reduceAdd, Nat.reduceLeDiff, Nat.reduceSub, Nat.reduceEqDiff, Int.reduceToNat, reduceCtorEq, ↓reduceIte]; done) | (simp [go_sem, Nat.reduceBEq, Nat.reduceLT, Nat.reduceAdd, Nat.reduceLeDiff, Nat.reduceSub, Nat.reduceEqDiff, Int.reduceToNat, reduceCtorEq, ↓reduceIte]; done) | (simp only [go_sem, Nat.reduceBEq, Nat.reduceLT, Nat.reduceAdd, Nat.reduceLeDiff, Nat.reduceSub, Nat.reduceEqDiff, Int.reduceToNat, reduceCtorEq, ↓reduceIte]; exact ⟨rfl, rfl⟩) | (simp_all [go_sem, Nat.reduceBEq, Nat.reduceLT, Nat.reduceAdd, Nat.reduceLeDiff, Nat.reduceSub, Nat.reduceEqDiff, Int.reduceToNat, reduceCtorEq, ↓reduceIte]; done)
            · replace h := bite_f h hc9
              refine awp_skip ?_
              (try simp only [Thn, InBlk, ↓reduceIte, Nat.reduceEqDiff])
              refine hK8 _ _ ?_
              clear hK8
              refine awp_reg ftCOk [(3, .pp 3 0), (4, .sl 2), (6, .v (.int .i64 0))] [.row false (.ints .u8 a0), .row true (.trips y_1), .row true (.ints .i64 y_2), .box [.v (.int .i64 y), .sl 1]] ?_
              refine awp_reg ftCOk [(3, .pp 3 0), (4, .sl 2), (6, .v (.int .i64 0)), (7, .v (.int .i64 0))] [.row false (.ints .u8 a0), .row true (.trips y_1), .row true (.ints .i64 y_2), .box [.v (.int .i64 y), .sl 1]] ?_
              replace h := bind_some h
              obtain ⟨y_6, hr0, h⟩ := h
              try dsimp only at h
              refine awp_to [(3, .pp 3 0), (4, .sl 2), (6, .v (.int .i64 0)), (7, .v (.int .i64 0)), (8, .sl 4)] [.row false (.ints .u8 a0), .row true (.trips y_1), .row true (.ints .i64 y_2), .box [.v (.int .i64 y), .sl 1], .row true (.ints .i64 y_6)] ?_ ?_
              · clear h
                intro K hK
                refine awp_region ftCOk ?_
                simp (maxSteps := 4000000) only [go_sem, Nat.reduceBEq, Nat.reduceLT, Nat.reduceAdd, Nat.reduceLeDiff, Nat.reduceSub, Nat.reduceEqDiff, Int.reduceToNat, reduceCtorEq, ↓reduceIte]
                repeat' (first | refine And.intro ?_ ?_ | intro hg)
                all_goals (try simp (disch := omega) only [wrap_fits])
                all_goals first
                  | (refine hK _ _ ?_; exact Red.auto)
                  | exact trivial
                  | assumption
                  | omega
                  | exact wrap_fits (by omega) (by omega)
                  | (refine wpA_callA (k_impl_MatchingOf y y_1 (h := hr0)) [1] [] ?_
                     rintro x Hc' ⟨rfl, rfl⟩ hlen
                     refine vcOps_sound ftCOk ?_
                     simp (maxSteps := 4000000) only [go_sem, Nat.reduceBEq, Nat.reduceLT, Nat.reduceAdd, Nat.reduceLeDiff, Nat.reduceSub, Nat.reduceEqDiff, Int.reduceToNat, reduceCtorEq, ↓reduceIte]
                     repeat' (first | refine And.intro ?_ ?_ | intro hg)
                     all_goals (try simp (disch := omega) only [wrap_fits])
                     all_goals first
                       | (refine hK _ _ ?_; exact Red.auto)
                       | exact trivial
                       | assumption
                       | omega
                       | exact wrap_fits (by omega) (by omega)
                       | (simp_all; done)
                       | (simp_all; omega))
                  | (simp_all; done)
                  | (simp_all; omega)
              · clear hr0
                refine awp_seq fun K38 hK38 => ?_
                refine awp_reg ftCOk [(3, .pp 3 0), (4, .sl 2), (6, .v (.int .i64 0)), (7, .v (.int .i64 0)), (8, .sl 4), (9, .v (.int .i64 0))] [.row false (.ints .u8 a0), .row true (.trips y_1), .row true (.ints .i64 y_2), .box [.v (.int .i64 y), .sl 1], .row true (.ints .i64 y_6)] ?_
                refine awp_block ?_
                replace h := bind_some h
                obtain ⟨x66, hx, h⟩ := h
                refine awp_loopL hx (fun ((t6, t7, t9) : Int × Int × Int) => [(3, .pp 1 0), (4, .sl 3), (6, .v (.int .i64 t6)), (7, .v (.int .i64 t7)), (8, .sl 4), (9, .v (.int .i64 t9))]) (fun ((t6, t7, t9) : Int × Int × Int) => [.row false (.ints .u8 a0), .box [.v (.int .i64 y), .sl 2], .row true (.trips y_1), .row true (.ints .i64 y_2), .row true (.ints .i64 y_6)]) (fun ((t6_1, t7_1) : Int × Int) => Exit.exit 0) (fun ((t6_1, t7_1) : Int × Int) => [(3, .pp 1 0), (4, .sl 3), (6, .v (.int .i64 t6_1)), (7, .v (.int .i64 t7_1))]) (fun ((t6_1, t7_1) : Int × Int) => [.row false (.ints .u8 a0), .box [.v (.int .i64 y), .sl 2], .row true (.trips y_1), .row true (.ints .i64 y_2)]) ?_ ?_ ?_ ?_
                · rintro ⟨t6_1, t7_1⟩ hy <;> cases hy
                · clear h hx
                  exact Red.selA [0, 3, 1, 2, 4] Red.auto
                · clear h hx
                  rintro ⟨t6, t7, t9⟩ r h
                  unfold laws_FnMatchingFull_b0 at h
                  try dsimp only at h
                  try dsimp only
                  refine awp_seq fun K58 hK58 => ?_
                  refine awp_reg ftCOk [(3, .pp 1 0), (4, .sl 3), (6, .v (.int .i64 t6)), (7, .v (.int .i64 t7)), (8, .sl 4), (9, .v (.int .i64 t9)), (40, .v (.bool ((decide (t9 < (y_2.length : Int))) && (decide (t9 < (y_6.length : Int))))))] [.row false (.ints .u8 a0), .box [.v (.int .i64 y), .sl 2], .row true (.trips y_1), .row true (.ints .i64 y_2), .row true (.ints .i64 y_6)] ?_
                  refine awp_cond (t := 40) rfl (fun hc59 => ?_) (fun hc59 => ?_)
                  · replace h := bite_t h hc59
                    refine awp_skip ?_
                    (try simp only [Thn, InBlk, ↓reduceIte, Nat.reduceEqDiff])
                    refine hK58 _ _ ?_
                    clear hK58
                    refine awp_join h (fun ((t6_2, t7_2) : Int × Int) => [(3, .pp 1 0), (4, .sl 3), (6, .v (.int .i64 t6_2)), (7, .v (.int .i64 t7_2)), (8, .sl 4), (9, .v (.int .i64 t9))]) (fun ((t6_2, t7_2) : Int × Int) => [.row false (.ints .u8 a0), .box [.v (.int .i64 y), .sl 2], .row true (.trips y_1), .row true (.ints .i64 y_2), .row true (.ints .i64 y_6)]) ?_ ?_
                    · clear h
                      intro k h
                      try dsimp only at h
                      refine awp_block ?_
                      refine awp_join h (fun (t6_3 : Int) => [(3, .pp 1 0), (4, .sl 3), (6, .v (.int .i64 t6_3)), (7, .v (.int .i64 t7)), (8, .sl 4), (9, .v (.int .i64 t9))]) (fun (t6_3 : Int) => [.row false (.ints .u8 a0), .box [.v (.int .i64 y), .sl 2], .row true (.trips y_1), .row true (.ints .i64 y_2), .row true (.ints .i64 y_6)]) ?_ ?_
                      · clear h
                        intro k_1 h
                        try dsimp only at h
                        replace h := chk_some h
                        obtain ⟨hp0, h⟩ := h
                        refine awp_reg ftCOk [(3, .pp 1 0), (4, .sl 3), (6, .v (.int .i64 t6)), (7, .v (.int .i64 t7)), (8, .sl 4), (9, .v (.int .i64 t9)), (47, .v (.bool (decide (0 ≤ (y_2.getD t9.toNat 0)))))] [.row false (.ints .u8 a0), .box [.v (.int .i64 y), .sl 2], .row true (.trips y_1), .row true (.ints .i64 y_2), .row true (.ints .i64 y_6)] ?_
                        clear hp0
                        refine awp_cond (t := 47) rfl (fun hc64 => ?_) (fun hc64 => ?_)
                        · replace h := bite_t h hc64
                          replace h := chk_some h
                          obtain ⟨hp0, h⟩ := h
                          refine awp_regE ftCOk [(3, .pp 1 0), (4, .sl 3), (6, .v (.int .i64 (t6 + 1))), (7, .v (.int .i64 t7)), (8, .sl 4), (9, .v (.int .i64 t9))] [.row false (.ints .u8 a0), .box [.v (.int .i64 y), .sl 2], .row true (.trips y_1), .row true (.ints .i64 y_2), .row true (.ints .i64 y_6)] ?_
                          clear hp0
                          (try simp only [Thn, InBlk, ↓reduceIte, Nat.reduceEqDiff])
                          refine ⟨_, h, ?_⟩
                          exact Red.auto
                        · replace h := bite_f h hc64
                          refine awp_skip ?_
                          (try simp only [Thn, InBlk, ↓reduceIte, Nat.reduceEqDiff])
                          refine ⟨_, h, ?_⟩
                          exact Red.auto
                      · clear h
                        rintro t6_3 h
                        try dsimp only at h
                        try dsimp only
                        replace h := chk_some h
                        obtain ⟨hp0, h⟩ := h
                        refine awp_reg ftCOk [(3, .pp 1 0), (4, .sl 3), (6, .v (.int .i64 t6_3)), (7, .v (.int .i64 t7)), (8, .sl 4), (9, .v (.int .i64 t9)), (54, .v (.bool (decide (0 ≤ (y_6.getD t9.toNat 0)))))] [.row false (.ints .u8 a0), .box [.v (.int .i64 y), .sl 2], .row true (.trips y_1), .row true (.ints .i64 y_2), .row true (.ints .i64 y_6)] ?_
                        clear hp0
                        refine awp_cond (t := 54) rfl (fun hc65 => ?_) (fun hc65 => ?_)
                        · replace h := bite_t h hc65
                          replace h := chk_some h
                          obtain ⟨hp0, h⟩ := h
                          refine awp_regE ftCOk [(3, .pp 1 0), (4, .sl 3), (6, .v (.int .i64 t6_3)), (7, .v (.int .i64 (t7 + 1))), (8, .sl 4), (9, .v (.int .i64 t9))] [.row false (.ints .u8 a0), .box [.v (.int .i64 y), .sl 2], .row true (.trips y_1), .row true (.ints .i64 y_2), .row true (.ints .i64 y_6)] ?_
                          clear hp0
                          (try simp only [Thn, InBlk, ↓reduceIte, Nat.reduceEqDiff])
                          (try simp only [Thn, InBlk, ↓reduceIte, Nat.reduceEqDiff])
                          refine ⟨_, h, ?_⟩
                          exact Red.auto
                        · replace h := bite_f h hc65
                          refine awp_skip ?_
                          (try simp only [Thn, InBlk, ↓reduceIte, Nat.reduceEqDiff])
                          (try simp only [Thn, InBlk, ↓reduceIte, Nat.reduceEqDiff])
                          refine ⟨_, h, ?_⟩
                          exact Red.auto
                    · clear h
                      rintro ⟨t6_2, t7_2⟩ h
                      try dsimp only at h
                      try dsimp only
                      replace h := chk_some h
                      obtain ⟨hp0, h⟩ := h
                      refine awp_regE ftCOk [(3, .pp 1 0), (4, .sl 3), (6, .v (.int .i64 t6_2)), (7, .v (.int .i64 t7_2)), (8, .sl 4), (9, .v (.int .i64 (t9 + 1)))] [.row false (.ints .u8 a0), .box [.v (.int .i64 y), .sl 2], .row true (.trips y_1), .row true (.ints .i64 y_2), .row true (.ints .i64 y_6)] ?_
                      clear hp0
                      obtain rfl := Option.some.inj h
                      refine LoopQ.next ?_
                      exact Red.auto
                  · replace h := bite_f h hc59
                    refine awp_exit ?_
                    (try simp only [Thn, InBlk, ↓reduceIte, Nat.reduceEqDiff])
                    obtain rfl := Option.some.inj h
                    refine LoopQ.out rfl ?_
                    exact Red.selA [0, 1, 2, 3] Red.auto
                · clear hx
                  rcases x66 with ⟨t6_1, t7_1⟩
                  · try dsimp only [Sum.elim_inl, Sum.elim_inr] at h
                    try dsimp only [Sum.elim_inl, Sum.elim_inr]
                    (try simp only [Thn, InBlk, ↓reduceIte, Nat.reduceEqDiff])
                    (try simp only [Thn, InBlk, ↓reduceIte, Nat.reduceEqDiff])
                    (try simp only [Thn, InBlk, ↓reduceIte, Nat.reduceEqDiff])
                    refine hK38 _ _ ?_
                    clear hK38
                    replace h := chk_some h
                    obtain ⟨hp0, h⟩ := h
                    replace h := bind_some h
                    obtain ⟨y_7, hr1, h⟩ := h
                    try dsimp only at h
                    refine awp_to [(2, .v (.bool ((decide (t7_1 ≤ (2 * t6_1))) && y_7)))] [.row false (.ints .u8 a0), .box [.v (.int .i64 y), .sl 2], .row true (.trips y_1), .row true (.ints .i64 y_2)] ?_ ?_
                    · clear h
                      intro K hK
                      refine awp_region ftCOk ?_
                      simp (maxSteps := 4000000) only [go_sem, Nat.reduceBEq, Nat.reduceLT, Nat.reduceAdd, Nat.reduceLeDiff, Nat.reduceSub, Nat.reduceEqDiff, Int.reduceToNat, reduceCtorEq, ↓reduceIte]
                      repeat' (first | refine And.intro ?_ ?_ | intro hg)
                      all_goals (try simp (disch := omega) only [wrap_fits])
                      all_goals first
                        | (refine hK _ _ ?_; exact Red.auto)
                        | exact trivial
                        | assumption
                        | omega
                        | exact wrap_fits (by omega) (by omega)
                        | (refine wpA_guard rfl rfl ?_
                           refine wpA_callA (k_impl_MatchingRight y y_1 y_2 (h := (bite_t hr1 (by first | assumption | (simp only [*, Bool.false_or, Bool.true_or, Bool.or_false, Bool.or_true, Bool.false_and, Bool.true_and, Bool.and_false, Bool.and_true, Bool.not_true, Bool.not_false, beq_self_eq_true]; done) | (simp_all; done))))) [2, 3] [] ?_
                           rintro x Hc' ⟨rfl, rfl⟩ hlen
                           refine vcOps_sound ftCOk ?_
                           simp (maxSteps := 4000000) only [go_sem, Nat.reduceBEq, Nat.reduceLT, Nat.reduceAdd, Nat.reduceLeDiff, Nat.reduceSub, Nat.reduceEqDiff, Int.reduceToNat, reduceCtorEq, ↓reduceIte]
                           repeat' (first | refine And.intro ?_ ?_ | intro hg)
                           all_goals (try simp (disch := omega) only [wrap_fits])
                           all_goals first
                             | (refine hK _ _ ?_; exact Red.auto)
                             | exact trivial
                             | assumption
                             | omega
                             | exact wrap_fits (by omega) (by omega)
                             | (simp_all; done)
                             | (simp_all; omega))
                        | (simp_all; done)
                        | (simp_all; omega)
                    · clear hp0 hr1
                      refine awp_ret ?_
                      (try simp only [Thn, InBlk, ↓reduceIte, Nat.reduceEqDiff])
                      obtain rfl := Option.some.inj h
                      refine ⟨by simp, _, [0], (by simp only [go_sem, Nat.reduceBEq, Nat.reduceLT, Nat.reduceAdd, Nat.reduceLeDiff, Nat.reduceSub, Nat.reduceEqDiff, Int.reduceToNat, reduceCtorEq, ↓reduceIte]; exact rfl), ?_, ?_, ?_, ?_⟩
                      · first | exact trivial | exact ⟨trivial, trivial⟩ | exact ⟨trivial, trivial, trivial⟩ | exact ⟨trivial, trivial, trivial, trivial⟩ | (simp only [allP, and_true, true_and]; done) | (simp only [allP, and_true, true_and]; omega)
                      · simp [selOk, pos]
                      · simp
                      · first | exact ⟨rfl, rfl⟩ | (simp only [go_sem, Nat.reduceBEq, Nat.reduceLT, Nat.reduceAdd, Nat.reduceLeDiff, Nat.reduceSub, Nat.reduceEqDiff, Int.reduceToNat, reduceCtorEq, ↓reduceIte]; done) | (simp [go_sem, Nat.reduceBEq, Nat.reduceLT, Nat.reduceAdd, Nat.reduceLeDiff, Nat.reduceSub, Nat.reduceEqDiff, Int.reduceToNat, reduceCtorEq, ↓reduceIte]; done) | (simp only [go_sem, Nat.reduceBEq, Nat.reduceLT, Nat.reduceAdd, Nat.reduceLeDiff, Nat.reduceSub, Nat.reduceEqDiff, Int.reduceToNat, reduceCtorEq, ↓reduceIte]; exact ⟨rfl, rfl⟩) | (simp_all [go_sem, Nat.reduceBEq, Nat.reduceLT, Nat.reduceAdd, Nat.reduceLeDiff, Nat.reduceSub, Nat.reduceEqDiff, Int.reduceToNat, reduceCtorEq, ↓reduceIte]; done)
end Go.Proofs.Ytncminpafiahpaa

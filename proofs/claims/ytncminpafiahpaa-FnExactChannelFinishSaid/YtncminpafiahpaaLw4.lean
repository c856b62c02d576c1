/- The code computes the functions that were taken out of it. -/
import Derived.Test.YtncminpafiahpaaLw3
set_option maxRecDepth 100000
set_option maxHeartbeats 4000000
set_option linter.unusedSimpArgs false
set_option linter.unusedVariables false
namespace Go.Proofs.Ytncminpafiahpaa
open Go Go.Av
attribute [local irreducible] wpA OpK awp
attribute [local go_sem] frs_nil frs_cons pw8_32 pw16_32 pw24_32 pw27_32 eqAgg eqAggV buildQ placesOf buildCells List.toList_toArray vcQg gfind gfree gput un3_agg unI_int unB_bool unK_int guardU skipV resVs resV vcD_nil vcD_cons vcT_fin vcT_free vcT_one vcT_two opS vcD1 roH roOb ftNone ftAdd oneOrTup AV.detup AV.ren AV.ren2 AV.ren1 pos selH AObj.ren fitAll fit fit1 fit1s matchAll matchOb exIds AObj.excl Env.killp pastH setAll upId AObj.past AObj.back AV.killp AV.killp1 AV.killp2 Nat.sub_self Nat.lt_irrefl Bool.or_self vcOps vcOp vcQs vcQ dstOk quiet eff pcall plain valsOf ev ofConst argEnv List.lookup Nat.add_eq decide_true decide_false Env.put binV wrapTo unV convV loadQ indexQ callQ builtinQ rd rdI globC AObj.globC partAV isAggD isArrayD addrAdd boxE storeE storeCE makeE makeNE buildNE nestZero Cont.child Cont.setChild buildSliceE buildFold appendE appendNE nestApp appendV promoteH sliceE boundAV subObj asCells Value.oneCell' contZero Cont.sets Cont.app Cont.sub Cont.len Cont.esz Cont.cell Cont.cells Cont.flat AV.det AV.det1 guardV AObj.unview AObj.kill Env.kill AV.kill AV.kill1 AV.kill2 fits64 Option.getD_some Option.getD_none Option.map_some Option.map_none Option.bind_some List.map_cons List.map_nil List.getElem?_cons_zero List.getElem?_cons_succ List.getElem?_nil true_and and_true List.getElem?_toArray List.cons_append List.nil_append List.length_cons List.length_nil List.set_cons_zero List.set_cons_succ List.take_succ_cons List.take_zero List.drop_succ_cons List.drop_zero List.drop_nil List.take_nil List.contains_cons List.contains_nil List.elem_cons List.elem_nil Bool.not_true Bool.not_false Bool.false_eq_true Bool.or_false Bool.or_true Bool.and_true Bool.and_false Bool.true_and Bool.false_and List.all_cons List.all_nil List.size_toArray Nat.lt_add_one Nat.zero_lt_succ Nat.one_ne_zero Nat.zero_ne_one and_self List.replicate_succ List.replicate_zero Int.toNat_natCast Int.toNat_zero Value.cells false_implies true_implies forall_const Thn InBlk Nat.zero_add Nat.add_zero Int.zero_add Ele Env.ren Option.some.injEq AV.v.injEq AV.sl.injEq AV.pp.injEq AV.ep.injEq AV.agg.injEq List.cons.injEq Value.int.injEq Value.bool.injEq Value.string.injEq true_or or_true or_false false_or tsz0 tby0 tz0 Try.underlying0 tsz1 tby1 tz1 Try.underlying1 tsz2 tby2 tz2 Try.underlying2 tsz3 tby3 tz3 Try.underlying3 tsz4 tby4 tz4 Try.underlying4 tsz5 tby5 tz5 Try.underlying5 tsz6 tby6 tz6 Try.underlying6 tsz7 tby7 tz7 Try.underlying7 fo7_0 fo7_1 fo7_2 fo7_3 tsz8 tby8 tz8 Try.underlying8 fo8_0 fo8_1 fo8_2 fo8_3 tsz9 tby9 Try.underlying9 tsz10 tby10 Try.underlying10 tsz12 tby12 tz12 Try.underlying12 tsz16 tby16 tz16 Try.underlying16 tsz17 tby17 tz17 Try.underlying17 tsz20 tby20 tz20 Try.underlying20 tsz21 tby21 tz21 Try.underlying21 tsz22 tby22 tz22 Try.underlying22 tsz23 tby23 tz23 Try.underlying23 fo23_0 fo23_1 tsz24 tby24 tz24 Try.underlying24 fo24_0 fo24_1 tsz26 tby26 tz26 Try.underlying26 tsz32 tby32 tz32 Try.underlying32 tsz38 tby38 tz38 Try.underlying38 tsz39 tby39 tz39 Try.underlying39 fo39_0 fo39_1 fo39_2 fo39_3 fo39_4 tsz40 tby40 tz40 Try.underlying40 fo40_0 fo40_1 fo40_2 fo40_3 fo40_4 tsz42 tby42 tz42 Try.underlying42 tsz44 tby44 tz44 Try.underlying44 tsz48 tby48 tz48 Try.underlying48 tsz49 tby49 tz49 Try.underlying49 fo49_0 fo49_1 fo49_2 fo49_3 fo49_4 tsz50 tby50 tz50 Try.underlying50 fo50_0 fo50_1 fo50_2 fo50_3 fo50_4 tsz52 tby52 tz52 Try.underlying52 tsz56 tby56 tz56 Try.underlying56 tsz68 tby68 tz68 Try.underlying68 peq68 fo68_0 fo68_1 fo68_2 tsz75 tby75 tz75 Try.underlying75 tsz80 tby80 tz80 Try.underlying80 tsz97 tby97 tz97 Try.underlying97 peq97 fo97_0 fo97_1 tsz98 tby98 tz98 Try.underlying98 peq98 fo98_0 fo98_1 tsz116 tby116 tz116 Try.underlying116 tsz119 tby119 tz119 Try.underlying119 peq119 fo119_0 fo119_1 fo119_2 tsz127 tby127 tz127 Try.underlying127 tsz129 tby129 tz129 Try.underlying129 peq129 fo129_0 fo129_1 tsz148 tby148 tz148 Try.underlying148 tsz149 tby149 tz149 Try.underlying149 tsz150 tby150 tz150 Try.underlying150 tsz152 tby152 tz152 Try.underlying152 tsz153 tby153 tz153 Try.underlying153 tsz154 tby154 tz154 Try.underlying154 tsz155 tby155 tz155 Try.underlying155 tsz156 tby156 tz156 Try.underlying156 tsz157 tby157 tz157 Try.underlying157 tsz158 tby158 tz158 Try.underlying158 fo158_0 fo158_1 fo158_2 fo158_3 fo158_4 fo158_5 fo158_6 fo158_7 fo158_8 fo158_9 fo158_10 tsz159 tby159 tz159 Try.underlying159 fo159_0 fo159_1 fo159_2 fo159_3 fo159_4 fo159_5 fo159_6 fo159_7 fo159_8 fo159_9 fo159_10 tsz160 tby160 tz160 Try.underlying160 l1InG ftC
theorem k_laws_FnExactChannelFinish (a0_0 : List Int) (a0_1 : Int) (a0_2 : List Int) (a0_3 : List (Int × Int)) (a0_4 : List Int) {r : Bool} (h : laws_FnExactChannelFinish a0_0 a0_1 a0_2 a0_3 a0_4 = some r) :
    FnA Try.prog 11 [.agg [.sl 0, .v (.int .i64 a0_1), .sl 1, .sl 2, .sl 3]] [.row false (.ints .i64 a0_0), .row false (.ints .i64 a0_2), .row false (.pairs a0_3), .row false (.ints .i64 a0_4)] [] (fun x H => x = .v (.bool r) ∧ H = [.row false (.ints .i64 a0_0), .row false (.ints .i64 a0_2), .row false (.pairs a0_3), .row false (.ints .i64 a0_4)]) := by
  unfold laws_FnExactChannelFinish at h
  refine FnA.of (N := 96) (pin := [0, 1, 2, 3]) (rs := [.tmp 2]) Try.func11 rfl en11 rfl rfl (by simp) (by simp; try omega) ?_
  refine awp_reg ftCOk [(1, .pp 4 0)] [.row false (.ints .i64 a0_0), .row false (.ints .i64 a0_2), .row false (.pairs a0_3), .row false (.ints .i64 a0_4), .box [.sl 0, .v (.int .i64 a0_1), .sl 1, .sl 2, .sl 3]] ?_
  refine awp_freeze 1 (by rfl) (by rfl) (by exact rfl) ?_
  refine awp_reg ftCOk [(1, .pp 4 0), (3, .v (.int .i64 1048576))] [.row false (.ints .i64 a0_0), .row false (.ints .i64 a0_2), .row false (.pairs a0_3), .row false (.ints .i64 a0_4), .rbox [.sl 0, .v (.int .i64 a0_1), .sl 1, .sl 2, .sl 3]] ?_
  replace h := bind_some h
  obtain ⟨y, hr0, h⟩ := h
  try dsimp only at h
  refine awp_to [(1, .pp 4 0), (3, .v (.int .i64 y))] [.row false (.ints .i64 a0_0), .row false (.ints .i64 a0_2), .row false (.pairs a0_3), .row false (.ints .i64 a0_4), .rbox [.sl 0, .v (.int .i64 a0_1), .sl 1, .sl 2, .sl 3]] ?_ ?_
  · clear h
    intro K hK
    refine awp_region ftCOk ?_
    simp (maxSteps := 4000000) only [go_sem, Nat.reduceBEq, Nat.reduceLT, Nat.reduceAdd, Nat.reduceLeDiff, Nat.reduceSub, Nat.reduceEqDiff, Int.reduceToNat, reduceCtorEq, ↓reduceIte]
    repeat' (first | refine And.intro ?_ ?_ | intro hg)
    all_goals (try simp (disch := omega) only [wrap_fits])
    all_goals first
      | (refine hK _ _ ?_; exact Red.auto)
      | exact trivial
      | assumption
      | omega
      | exact wrap_fits (by omega) (by omega)
      | (refine wpA_callA (k_laws_szChannel a0_0 a0_1 a0_2 a0_3 a0_4 1048576 (h := hr0)) [0, 1, 2, 3] [] ?_
         rintro x Hc' ⟨rfl, rfl⟩ hlen
         refine vcOps_sound ftCOk ?_
         simp (maxSteps := 4000000) only [go_sem, Nat.reduceBEq, Nat.reduceLT, Nat.reduceAdd, Nat.reduceLeDiff, Nat.reduceSub, Nat.reduceEqDiff, Int.reduceToNat, reduceCtorEq, ↓reduceIte]
         repeat' (first | refine And.intro ?_ ?_ | intro hg)
         all_goals (try simp (disch := omega) only [wrap_fits])
         all_goals first
           | (refine hK _ _ ?_; exact Red.auto)
           | exact trivial
           | assumption
           | omega
           | exact wrap_fits (by omega) (by omega)
           | (simp_all; done)
           | (simp_all; omega))
      | (simp_all; done)
      | (simp_all; omega)
  · clear hr0
    refine awp_seq fun K2 hK2 => ?_
    refine awp_reg ftCOk [(1, .pp 4 0), (18, .v (.bool (decide (y < 0))))] [.row false (.ints .i64 a0_0), .row false (.ints .i64 a0_2), .row false (.pairs a0_3), .row false (.ints .i64 a0_4), .rbox [.sl 0, .v (.int .i64 a0_1), .sl 1, .sl 2, .sl 3]] ?_
    refine awp_cond (t := 18) rfl (fun hc3 => ?_) (fun hc3 => ?_)
    · replace h := bite_t h hc3
      refine awp_reg ftCOk [(2, .v (.bool true))] [.row false (.ints .i64 a0_0), .row false (.ints .i64 a0_2), .row false (.pairs a0_3), .row false (.ints .i64 a0_4), .rbox [.sl 0, .v (.int .i64 a0_1), .sl 1, .sl 2, .sl 3]] ?_
      refine awp_ret ?_
      (try simp only [Thn, InBlk, ↓reduceIte, Nat.reduceEqDiff])
      obtain rfl := Option.some.inj h
      refine ⟨by simp, _, [0, 1, 2, 3], (by simp only [go_sem, Nat.reduceBEq, Nat.reduceLT, Nat.reduceAdd, Nat.reduceLeDiff, Nat.reduceSub, Nat.reduceEqDiff, Int.reduceToNat, reduceCtorEq, ↓reduceIte]; exact rfl), ?_, ?_, ?_, ?_⟩
      · first | exact trivial | exact ⟨trivial, trivial⟩ | exact ⟨trivial, trivial, trivial⟩ | exact ⟨trivial, trivial, trivial, trivial⟩ | (simp only [allP, and_true, true_and]; done) | (simp only [allP, and_true, true_and]; omega)
      · simp [selOk, pos]
      · simp
      · first | exact ⟨rfl, rfl⟩ | (simp only [go_sem, Nat.reduceBEq, Nat.reduceLT, Nat.reduceAdd, Nat.reduceLeDiff, Nat.reduceSub, Nat.reduceEqDiff, Int.reduceToNat, reduceCtorEq, ↓reduceIte]; done) | (simp [go_sem, Nat.reduceBEq, Nat.reduceLT, Nat.reduceAdd, Nat.reduceLeDiff, Nat.reduceSub, Nat.reduceEqDiff, Int.reduceToNat, reduceCtorEq, ↓reduceIte]; done) | (simp only [go_sem, Nat.reduceBEq, Nat.reduceLT, Nat.reduceAdd, Nat.reduceLeDiff, Nat.reduceSub, Nat.reduceEqDiff, Int.reduceToNat, reduceCtorEq, ↓reduceIte]; exact ⟨rfl, rfl⟩) | (simp_all [go_sem, Nat.reduceBEq, Nat.reduceLT, Nat.reduceAdd, Nat.reduceLeDiff, Nat.reduceSub, Nat.reduceEqDiff, Int.reduceToNat, reduceCtorEq, ↓reduceIte]; done)
    · replace h := bite_f h hc3
      refine awp_skip ?_
      (try simp only [Thn, InBlk, ↓reduceIte, Nat.reduceEqDiff])
      refine hK2 _ _ ?_
      clear hK2
      replace h := bind_some h
      obtain ⟨⟨y_1, y_2, y_3, y_4, y_5⟩, hr0, h⟩ := h
      try dsimp only at h
      replace h := bind_some h
      obtain ⟨⟨y_6, y_7, y_8, y_9, y_10, y_11⟩, hr1, h⟩ := h
      try dsimp only at h
      refine awp_to [(1, .pp 4 0), (4, .pp 13 0), (5, .v (.int .i64 y_11))] [.row false (.ints .i64 a0_0), .row false (.ints .i64 a0_2), .row false (.pairs a0_3), .row false (.ints .i64 a0_4), .rbox [.sl 0, .v (.int .i64 a0_1), .sl 1, .sl 2, .sl 3], .row true (.ints .i64 y_1), .row true (.ints .i64 y_3), .row true (.pairs y_4), .row true (.ints .i64 y_5), .row true (.ints .i64 y_6), .row true (.ints .i64 y_8), .row true (.pairs y_9), .row true (.ints .i64 y_10), .box [.sl 9, .v (.int .i64 y_7), .sl 10, .sl 11, .sl 12]] ?_ ?_
      · clear h
        intro K hK
        refine awp_region ftCOk ?_
        simp (maxSteps := 4000000) only [go_sem, Nat.reduceBEq, Nat.reduceLT, Nat.reduceAdd, Nat.reduceLeDiff, Nat.reduceSub, Nat.reduceEqDiff, Int.reduceToNat, reduceCtorEq, ↓reduceIte]
        repeat' (first | refine And.intro ?_ ?_ | intro hg)
        all_goals (try simp (disch := omega) only [wrap_fits])
        all_goals first
          | (refine hK _ _ ?_; exact Red.auto)
          | exact trivial
          | assumption
          | omega
          | exact wrap_fits (by omega) (by omega)
          | (refine wpA_callA (k_laws_toChannel a0_0 a0_1 a0_2 a0_3 a0_4 (h := hr0)) [0, 1, 2, 3] [] ?_
             rintro x Hc' ⟨rfl, rfl⟩ hlen
             refine vcOps_sound ftCOk ?_
             simp (maxSteps := 4000000) only [go_sem, Nat.reduceBEq, Nat.reduceLT, Nat.reduceAdd, Nat.reduceLeDiff, Nat.reduceSub, Nat.reduceEqDiff, Int.reduceToNat, reduceCtorEq, ↓reduceIte]
             repeat' (first | refine And.intro ?_ ?_ | intro hg)
             all_goals (try simp (disch := omega) only [wrap_fits])
             all_goals first
               | (refine hK _ _ ?_; exact Red.auto)
               | exact trivial
               | assumption
               | omega
               | exact wrap_fits (by omega) (by omega)
               | (refine wpA_callA (k_spec_ChannelFinish y_1 y_2 y_3 y_4 y_5 (h := hr1)) [5, 6, 7, 8] [] ?_
                  rintro x Hc' ⟨rfl, rfl⟩ hlen
                  refine vcOps_sound ftCOk ?_
                  simp (maxSteps := 4000000) only [go_sem, Nat.reduceBEq, Nat.reduceLT, Nat.reduceAdd, Nat.reduceLeDiff, Nat.reduceSub, Nat.reduceEqDiff, Int.reduceToNat, reduceCtorEq, ↓reduceIte]
                  repeat' (first | refine And.intro ?_ ?_ | intro hg)
                  all_goals (try simp (disch := omega) only [wrap_fits])
                  all_goals first
                    | (refine hK _ _ ?_; exact Red.auto)
                    | exact trivial
                    | assumption
                    | omega
                    | exact wrap_fits (by omega) (by omega)
                    | (simp_all; done)
                    | (simp_all; omega))
               | (simp_all; done)
               | (simp_all; omega))
          | (simp_all; done)
          | (simp_all; omega)
      · clear hr0 hr1
        replace h := bind_some h
        obtain ⟨⟨y_12, y_13, y_14, y_15, y_16⟩, hr0, h⟩ := h
        try dsimp only at h
        refine awp_to [(1, .pp 4 0), (4, .pp 13 0), (5, .v (.int .i64 y_11)), (6, .pp 18 0)] [.row false (.ints .i64 a0_0), .row false (.ints .i64 a0_2), .row false (.pairs a0_3), .row false (.ints .i64 a0_4), .rbox [.sl 0, .v (.int .i64 a0_1), .sl 1, .sl 2, .sl 3], .row true (.ints .i64 y_1), .row true (.ints .i64 y_3), .row true (.pairs y_4), .row true (.ints .i64 y_5), .row true (.ints .i64 y_6), .row true (.ints .i64 y_8), .row true (.pairs y_9), .row true (.ints .i64 y_10), .box [.sl 9, .v (.int .i64 y_7), .sl 10, .sl 11, .sl 12], .row true (.ints .i64 y_12), .row true (.ints .i64 y_14), .row true (.pairs y_15), .row true (.ints .i64 y_16), .box [.sl 14, .v (.int .i64 y_13), .sl 15, .sl 16, .sl 17]] ?_ ?_
        · clear h
          intro K hK
          refine awp_region ftCOk ?_
          simp (maxSteps := 4000000) only [go_sem, Nat.reduceBEq, Nat.reduceLT, Nat.reduceAdd, Nat.reduceLeDiff, Nat.reduceSub, Nat.reduceEqDiff, Int.reduceToNat, reduceCtorEq, ↓reduceIte]
          repeat' (first | refine And.intro ?_ ?_ | intro hg)
          all_goals (try simp (disch := omega) only [wrap_fits])
          all_goals first
            | (refine hK _ _ ?_; exact Red.auto)
            | exact trivial
            | assumption
            | omega
            | exact wrap_fits (by omega) (by omega)
            | (refine wpA_callA (k_laws_toChannel a0_0 a0_1 a0_2 a0_3 a0_4 (h := hr0)) [0, 1, 2, 3] [] ?_
               rintro x Hc' ⟨rfl, rfl⟩ hlen
               refine vcOps_sound ftCOk ?_
               simp (maxSteps := 4000000) only [go_sem, Nat.reduceBEq, Nat.reduceLT, Nat.reduceAdd, Nat.reduceLeDiff, Nat.reduceSub, Nat.reduceEqDiff, Int.reduceToNat, reduceCtorEq, ↓reduceIte]
               repeat' (first | refine And.intro ?_ ?_ | intro hg)
               all_goals (try simp (disch := omega) only [wrap_fits])
               all_goals first
                 | (refine hK _ _ ?_; exact Red.auto)
                 | exact trivial
                 | assumption
                 | omega
                 | exact wrap_fits (by omega) (by omega)
                 | (simp_all; done)
                 | (simp_all; omega))
            | (simp_all; done)
            | (simp_all; omega)
        · clear hr0
          replace h := bind_some h
          obtain ⟨⟨y_17, y_18, y_19, y_20, y_21, y_22⟩, hr0, h⟩ := h
          try dsimp only at h
          refine awp_to [(1, .pp 4 0), (4, .pp 13 0), (5, .v (.int .i64 y_11)), (6, .pp 18 0), (7, .pp 23 0), (8, .v (.int .i64 y_22))] [.row false (.ints .i64 a0_0), .row false (.ints .i64 a0_2), .row false (.pairs a0_3), .row false (.ints .i64 a0_4), .rbox [.sl 0, .v (.int .i64 a0_1), .sl 1, .sl 2, .sl 3], .row true (.ints .i64 y_1), .row true (.ints .i64 y_3), .row true (.pairs y_4), .row true (.ints .i64 y_5), .row true (.ints .i64 y_6), .row true (.ints .i64 y_8), .row true (.pairs y_9), .row true (.ints .i64 y_10), .box [.sl 9, .v (.int .i64 y_7), .sl 10, .sl 11, .sl 12], .row true (.ints .i64 y_12), .row true (.ints .i64 y_14), .row true (.pairs y_15), .row true (.ints .i64 y_16), .box [.sl 14, .v (.int .i64 y_13), .sl 15, .sl 16, .sl 17], .row true (.ints .i64 y_17), .row true (.ints .i64 y_19), .row true (.pairs y_20), .row true (.ints .i64 y_21), .box [.sl 19, .v (.int .i64 y_18), .sl 20, .sl 21, .sl 22]] ?_ ?_
          · clear h
            intro K hK
            refine awp_region ftCOk ?_
            simp (maxSteps := 4000000) only [go_sem, Nat.reduceBEq, Nat.reduceLT, Nat.reduceAdd, Nat.reduceLeDiff, Nat.reduceSub, Nat.reduceEqDiff, Int.reduceToNat, reduceCtorEq, ↓reduceIte]
            repeat' (first | refine And.intro ?_ ?_ | intro hg)
            all_goals (try simp (disch := omega) only [wrap_fits])
            all_goals first
              | (refine hK _ _ ?_; exact Red.auto)
              | exact trivial
              | assumption
              | omega
              | exact wrap_fits (by omega) (by omega)
              | (refine wpA_callA (k_impl_ChannelFinish y_12 y_13 y_14 y_15 y_16 (h := hr0)) [14, 15, 16, 17] [] ?_
                 rintro x Hc' ⟨rfl, rfl⟩ hlen
                 refine vcOps_sound ftCOk ?_
                 simp (maxSteps := 4000000) only [go_sem, Nat.reduceBEq, Nat.reduceLT, Nat.reduceAdd, Nat.reduceLeDiff, Nat.reduceSub, Nat.reduceEqDiff, Int.reduceToNat, reduceCtorEq, ↓reduceIte]
                 repeat' (first | refine And.intro ?_ ?_ | intro hg)
                 all_goals (try simp (disch := omega) only [wrap_fits])
                 all_goals first
                   | (refine hK _ _ ?_; exact Red.auto)
                   | exact trivial
                   | assumption
                   | omega
                   | exact wrap_fits (by omega) (by omega)
                   | (simp_all; done)
                   | (simp_all; omega))
              | (simp_all; done)
              | (simp_all; omega)
          · clear hr0
            refine awp_seq fun K5 hK5 => ?_
            replace h := bind_some h
            obtain ⟨y_23, hr0, h⟩ := h
            try dsimp only at h
            refine awp_to [(1, .pp 4 0), (4, .pp 13 0), (5, .v (.int .i64 y_11)), (6, .pp 18 0), (7, .pp 23 0), (8, .v (.int .i64 y_22)), (40, .v (.bool ((!y_23) || (y_22 != y_11))))] [.row false (.ints .i64 a0_0), .row false (.ints .i64 a0_2), .row false (.pairs a0_3), .row false (.ints .i64 a0_4), .rbox [.sl 0, .v (.int .i64 a0_1), .sl 1, .sl 2, .sl 3], .row true (.ints .i64 y_1), .row true (.ints .i64 y_3), .row true (.pairs y_4), .row true (.ints .i64 y_5), .row true (.ints .i64 y_6), .row true (.ints .i64 y_8), .row true (.pairs y_9), .row true (.ints .i64 y_10), .box [.sl 9, .v (.int .i64 y_7), .sl 10, .sl 11, .sl 12], .row true (.ints .i64 y_12), .row true (.ints .i64 y_14), .row true (.pairs y_15), .row true (.ints .i64 y_16), .box [.sl 14, .v (.int .i64 y_13), .sl 15, .sl 16, .sl 17], .row true (.ints .i64 y_17), .row true (.ints .i64 y_19), .row true (.pairs y_20), .row true (.ints .i64 y_21), .box [.sl 19, .v (.int .i64 y_18), .sl 20, .sl 21, .sl 22]] ?_ ?_
            · clear h
              intro K hK
              refine awp_region ftCOk ?_
              simp (maxSteps := 4000000) only [go_sem, Nat.reduceBEq, Nat.reduceLT, Nat.reduceAdd, Nat.reduceLeDiff, Nat.reduceSub, Nat.reduceEqDiff, Int.reduceToNat, reduceCtorEq, ↓reduceIte]
              repeat' (first | refine And.intro ?_ ?_ | intro hg)
              all_goals (try simp (disch := omega) only [wrap_fits])
              all_goals first
                | (refine hK _ _ ?_; exact Red.auto)
                | exact trivial
                | assumption
                | omega
                | exact wrap_fits (by omega) (by omega)
                | (refine wpA_callA (k_laws_eqChannel y_17 y_18 y_19 y_20 y_21 y_6 y_7 y_8 y_9 y_10 (h := hr0)) [19, 20, 21, 22, 9, 10, 11, 12] [] ?_
                   rintro x Hc' ⟨rfl, rfl⟩ hlen
                   refine vcOps_sound ftCOk ?_
                   simp (maxSteps := 4000000) only [go_sem, Nat.reduceBEq, Nat.reduceLT, Nat.reduceAdd, Nat.reduceLeDiff, Nat.reduceSub, Nat.reduceEqDiff, Int.reduceToNat, reduceCtorEq, ↓reduceIte]
                   repeat' (first | refine And.intro ?_ ?_ | intro hg)
                   all_goals (try simp (disch := omega) only [wrap_fits])
                   all_goals first
                     | (refine hK _ _ ?_; exact Red.auto)
                     | exact trivial
                     | assumption
                     | omega
                     | exact wrap_fits (by omega) (by omega)
                     | (simp_all; done)
                     | (simp_all; omega))
                | (simp_all; done)
                | (simp_all; omega)
            · clear hr0
              refine awp_cond (t := 40) rfl (fun hc6 => ?_) (fun hc6 => ?_)
              · replace h := bite_t h hc6
                refine awp_reg ftCOk [(2, .v (.bool false))] [.row false (.ints .i64 a0_0), .row false (.ints .i64 a0_2), .row false (.pairs a0_3), .row false (.ints .i64 a0_4), .rbox [.sl 0, .v (.int .i64 a0_1), .sl 1, .sl 2, .sl 3], .row true (.ints .i64 y_1), .row true (.ints .i64 y_3), .row true (.pairs y_4), .row true (.ints .i64 y_5), .row true (.ints .i64 y_6), .row true (.ints .i64 y_8), .row true (.pairs y_9), .row true (.ints .i64 y_10), .box [.sl 9, .v (.int .i64 y_7), .sl 10, .sl 11, .sl 12], .row true (.ints .i64 y_12), .row true (.ints .i64 y_14), .row true (.pairs y_15), .row true (.ints .i64 y_16), .box [.sl 14, .v (.int .i64 y_13), .sl 15, .sl 16, .sl 17], .row true (.ints .i64 y_17), .row true (.ints .i64 y_19), .row true (.pairs y_20), .row true (.ints .i64 y_21), .box [.sl 19, .v (.int .i64 y_18), .sl 20, .sl 21, .sl 22]] ?_
                refine awp_ret ?_
                (try simp only [Thn, InBlk, ↓reduceIte, Nat.reduceEqDiff])
                obtain rfl := Option.some.inj h
                refine ⟨by simp, _, [0, 1, 2, 3], (by simp only [go_sem, Nat.reduceBEq, Nat.reduceLT, Nat.reduceAdd, Nat.reduceLeDiff, Nat.reduceSub, Nat.reduceEqDiff, Int.reduceToNat, reduceCtorEq, ↓reduceIte]; exact rfl), ?_, ?_, ?_, ?_⟩
                · first | exact trivial | exact ⟨trivial, trivial⟩ | exact ⟨trivial, trivial, trivial⟩ | exact ⟨trivial, trivial, trivial, trivial⟩ | (simp only [allP, and_true, true_and]; done) | (simp only [allP, and_true, true_and]; omega)
                · simp [selOk, pos]
                · simp
                · first | exact ⟨rfl, rfl⟩ | (simp only [go_sem, Nat.reduceBEq, Nat.reduceLT, Nat.reduceAdd, Nat.reduceLeDiff, Nat.reduceSub, Nat.reduceEqDiff, Int.reduceToNat, reduceCtorEq, ↓reduceIte]; done) | (simp [go_sem, Nat.reduceBEq, Nat.reduceLT, Nat.reduceAdd, Nat.reduceLeDiff, Nat.reduceSub, Nat.reduceEqDiff, Int.reduceToNat, reduceCtorEq, ↓reduceIte]; done) | (simp only [go_sem, Nat.reduceBEq, Nat.reduceLT, Nat.reduceAdd, Nat.reduceLeDiff, Nat.reduceSub, Nat.reduceEqDiff, Int.reduceToNat, reduceCtorEq, ↓reduceIte]; exact ⟨rfl, rfl⟩) | (simp_all [go_sem, Nat.reduceBEq, Nat.reduceLT, Nat.reduceAdd, Nat.reduceLeDiff, Nat.reduceSub, Nat.reduceEqDiff, Int.reduceToNat, reduceCtorEq, ↓reduceIte]; done)
              · replace h := bite_f h hc6
                refine awp_skip ?_
                (try simp only [Thn, InBlk, ↓reduceIte, Nat.reduceEqDiff])
                refine hK5 _ _ ?_
                clear hK5
                refine awp_seq fun K8 hK8 => ?_
                replace h := bind_some h
                obtain ⟨⟨y_24, y_25, y_26, y_27, y_28⟩, hr0, h⟩ := h
                try dsimp only at h
                replace h := bind_some h
                obtain ⟨y_29, hr1, h⟩ := h
                try dsimp only at h
                refine awp_to [(1, .pp 4 0), (4, .pp 13 0), (5, .v (.int .i64 y_11)), (6, .pp 18 0), (7, .pp 23 0), (8, .v (.int .i64 y_22)), (45, .v (.bool (!y_29)))] [.row false (.ints .i64 a0_0), .row false (.ints .i64 a0_2), .row false (.pairs a0_3), .row false (.ints .i64 a0_4), .rbox [.sl 0, .v (.int .i64 a0_1), .sl 1, .sl 2, .sl 3], .row true (.ints .i64 y_1), .row true (.ints .i64 y_3), .row true (.pairs y_4), .row true (.ints .i64 y_5), .row true (.ints .i64 y_6), .row true (.ints .i64 y_8), .row true (.pairs y_9), .row true (.ints .i64 y_10), .box [.sl 9, .v (.int .i64 y_7), .sl 10, .sl 11, .sl 12], .row true (.ints .i64 y_12), .row true (.ints .i64 y_14), .row true (.pairs y_15), .row true (.ints .i64 y_16), .box [.sl 14, .v (.int .i64 y_13), .sl 15, .sl 16, .sl 17], .row true (.ints .i64 y_17), .row true (.ints .i64 y_19), .row true (.pairs y_20), .row true (.ints .i64 y_21), .box [.sl 19, .v (.int .i64 y_18), .sl 20, .sl 21, .sl 22], .row true (.ints .i64 y_24), .row true (.ints .i64 y_26), .row true (.pairs y_27), .row true (.ints .i64 y_28)] ?_ ?_
                · clear h
                  intro K hK
                  refine awp_drawT mixed ftCOk (.free 1 (.two 0 2 (.one 2 (.one 3 (.one 4 .fin))) (.one 0 (.one 3 (.one 4 .fin))))) (by kernel_rfl) (by simp) ?_
                  simp (maxSteps := 4000000) only [go_sem, Nat.reduceBEq, Nat.reduceLT, Nat.reduceAdd, Nat.reduceLeDiff, Nat.reduceSub, Nat.reduceEqDiff, Int.reduceToNat, reduceCtorEq, ↓reduceIte]
                  repeat' (first | refine And.intro ?_ ?_ | intro hg)
                  all_goals (try simp (disch := omega) only [wrap_fits])
                  all_goals first
                    | (refine hK _ _ ?_; exact Red.auto)
                    | exact trivial
                    | assumption
                    | omega
                    | exact wrap_fits (by omega) (by omega)
                    | (refine OpK_callA (k_laws_toChannel a0_0 a0_1 a0_2 a0_3 a0_4 (h := hr0)) [0, 1, 2, 3] [] ?_
                       rintro x Hc' ⟨rfl, rfl⟩ hlen
                       simp (maxSteps := 4000000) only [go_sem, Nat.reduceBEq, Nat.reduceLT, Nat.reduceAdd, Nat.reduceLeDiff, Nat.reduceSub, Nat.reduceEqDiff, Int.reduceToNat, reduceCtorEq, ↓reduceIte]
                       repeat' (first | refine And.intro ?_ ?_ | intro hg)
                       all_goals (try simp (disch := omega) only [wrap_fits])
                       all_goals first
                         | (refine hK _ _ ?_; exact Red.auto)
                         | exact trivial
                         | assumption
                         | omega
                         | exact wrap_fits (by omega) (by omega)
                         | (refine OpK_callA (k_laws_eqChannel y_12 y_13 y_14 y_15 y_16 y_24 y_25 y_26 y_27 y_28 (h := hr1)) [14, 15, 16, 17, 24, 25, 26, 27] [] ?_
                            rintro x Hc' ⟨rfl, rfl⟩ hlen
                            simp (maxSteps := 4000000) only [go_sem, Nat.reduceBEq, Nat.reduceLT, Nat.reduceAdd, Nat.reduceLeDiff, Nat.reduceSub, Nat.reduceEqDiff, Int.reduceToNat, reduceCtorEq, ↓reduceIte]
                            repeat' (first | refine And.intro ?_ ?_ | intro hg)
                            all_goals (try simp (disch := omega) only [wrap_fits])
                            all_goals first
                              | (refine hK _ _ ?_; exact Red.auto)
                              | exact trivial
                              | assumption
                              | omega
                              | exact wrap_fits (by omega) (by omega)
                              | (simp (maxSteps := 4000000) only [go_sem, Nat.reduceBEq, Nat.reduceLT, Nat.reduceAdd, Nat.reduceLeDiff, Nat.reduceSub, Nat.reduceEqDiff, Int.reduceToNat, reduceCtorEq, ↓reduceIte]
                                 repeat' (first | refine And.intro ?_ ?_ | intro hg)
                                 all_goals (try simp (disch := omega) only [wrap_fits])
                                 all_goals first | (refine hK _ _ ?_; exact Red.auto) | exact trivial | assumption | omega | exact wrap_fits (by omega) (by omega))
                              | (simp_all; done)
                              | (simp_all; omega))
                         | (simp_all; done)
                         | (simp_all; omega))
                    | (simp_all; done)
                    | (simp_all; omega)
                · clear hr0 hr1
                  refine awp_cond (t := 45) rfl (fun hc9 => ?_) (fun hc9 => ?_)
                  · replace h := bite_t h hc9
                    refine awp_reg ftCOk [(2, .v (.bool false))] [.row false (.ints .i64 a0_0), .row false (.ints .i64 a0_2), .row false (.pairs a0_3), .row false (.ints .i64 a0_4), .rbox [.sl 0, .v (.int .i64 a0_1), .sl 1, .sl 2, .sl 3], .row true (.ints .i64 y_1), .row true (.ints .i64 y_3), .row true (.pairs y_4), .row true (.ints .i64 y_5), .row true (.ints .i64 y_6), .row true (.ints .i64 y_8), .row true (.pairs y_9), .row true (.ints .i64 y_10), .box [.sl 9, .v (.int .i64 y_7), .sl 10, .sl 11, .sl 12], .row true (.ints .i64 y_12), .row true (.ints .i64 y_14), .row true (.pairs y_15), .row true (.ints .i64 y_16), .box [.sl 14, .v (.int .i64 y_13), .sl 15, .sl 16, .sl 17], .row true (.ints .i64 y_17), .row true (.ints .i64 y_19), .row true (.pairs y_20), .row true (.ints .i64 y_21), .box [.sl 19, .v (.int .i64 y_18), .sl 20, .sl 21, .sl 22], .row true (.ints .i64 y_24), .row true (.ints .i64 y_26), .row true (.pairs y_27), .row true (.ints .i64 y_28)] ?_
                    refine awp_ret ?_
                    (try simp only [Thn, InBlk, ↓reduceIte, Nat.reduceEqDiff])
                    obtain rfl := Option.some.inj h
                    refine ⟨by simp, _, [0, 1, 2, 3], (by simp only [go_sem, Nat.reduceBEq, Nat.reduceLT, Nat.reduceAdd, Nat.reduceLeDiff, Nat.reduceSub, Nat.reduceEqDiff, Int.reduceToNat, reduceCtorEq, ↓reduceIte]; exact rfl), ?_, ?_, ?_, ?_⟩
                    · first | exact trivial | exact ⟨trivial, trivial⟩ | exact ⟨trivial, trivial, trivial⟩ | exact ⟨trivial, trivial, trivial, trivial⟩ | (simp only [allP, and_true, true_and]; done) | (simp only [allP, and_true, true_and]; omega)
                    · simp [selOk, pos]
                    · simp
                    · first | exact ⟨rfl, rfl⟩ | (simp only [go_sem, Nat.reduceBEq, Nat.reduceLT, Nat.reduceAdd, Nat.reduceLeDiff, Nat.reduceSub, Nat.reduceEqDiff, Int.reduceToNat, reduceCtorEq, ↓reduceIte]; done) | (simp [go_sem, Nat.reduceBEq, Nat.reduceLT, Nat.reduceAdd, Nat.reduceLeDiff, Nat.reduceSub, Nat.reduceEqDiff, Int.reduceToNat, reduceCtorEq, ↓reduceIte]; done) | (simp only [go_sem, Nat.reduceBEq, Nat.reduceLT, Nat.reduceAdd, Nat.reduceLeDiff, Nat.reduceSub, Nat.reduceEqDiff, Int.reduceToNat, reduceCtorEq, ↓reduceIte]; exact ⟨rfl, rfl⟩) | (simp_all [go_sem, Nat.reduceBEq, Nat.reduceLT, Nat.reduceAdd, Nat.reduceLeDiff, Nat.reduceSub, Nat.reduceEqDiff, Int.reduceToNat, reduceCtorEq, ↓reduceIte]; done)
                  · replace h := bite_f h hc9
                    refine awp_skip ?_
                    (try simp only [Thn, InBlk, ↓reduceIte, Nat.reduceEqDiff])
                    refine hK8 _ _ ?_
                    clear hK8
                    refine awp_reg ftCOk [(1, .pp 4 0), (4, .pp 13 0), (5, .v (.int .i64 y_11)), (6, .pp 18 0), (7, .pp 23 0), (8, .v (.int .i64 y_22)), (9, .v (.int .i64 1))] [.row false (.ints .i64 a0_0), .row false (.ints .i64 a0_2), .row false (.pairs a0_3), .row false (.ints .i64 a0_4), .rbox [.sl 0, .v (.int .i64 a0_1), .sl 1, .sl 2, .sl 3], .row true (.ints .i64 y_1), .row true (.ints .i64 y_3), .row true (.pairs y_4), .row true (.ints .i64 y_5), .row true (.ints .i64 y_6), .row true (.ints .i64 y_8), .row true (.pairs y_9), .row true (.ints .i64 y_10), .box [.sl 9, .v (.int .i64 y_7), .sl 10, .sl 11, .sl 12], .row true (.ints .i64 y_12), .row true (.ints .i64 y_14), .row true (.pairs y_15), .row true (.ints .i64 y_16), .box [.sl 14, .v (.int .i64 y_13), .sl 15, .sl 16, .sl 17], .row true (.ints .i64 y_17), .row true (.ints .i64 y_19), .row true (.pairs y_20), .row true (.ints .i64 y_21), .box [.sl 19, .v (.int .i64 y_18), .sl 20, .sl 21, .sl 22], .row true (.ints .i64 y_24), .row true (.ints .i64 y_26), .row true (.pairs y_27), .row true (.ints .i64 y_28)] ?_
                    replace h := bind_some h
                    obtain ⟨⟨y_30, y_31, y_32, y_33, y_34⟩, hr0, h⟩ := h
                    try dsimp only at h
                    refine awp_to [(1, .pp 4 0), (4, .pp 13 0), (5, .v (.int .i64 y_11)), (7, .pp 23 0), (8, .v (.int .i64 y_22)), (9, .v (.int .i64 y_30))] [.row false (.ints .i64 a0_0), .row false (.ints .i64 a0_2), .row false (.pairs a0_3), .row false (.ints .i64 a0_4), .rbox [.sl 0, .v (.int .i64 a0_1), .sl 1, .sl 2, .sl 3], .row true (.ints .i64 y_1), .row true (.ints .i64 y_3), .row true (.pairs y_4), .row true (.ints .i64 y_5), .row true (.ints .i64 y_6), .row true (.ints .i64 y_8), .row true (.pairs y_9), .row true (.ints .i64 y_10), .box [.sl 9, .v (.int .i64 y_7), .sl 10, .sl 11, .sl 12], .row true (.ints .i64 y_31), .row true (.ints .i64 y_32), .row true (.pairs y_33), .row true (.ints .i64 y_34), .box [.sl 14, .v (.int .i64 y_13), .sl 15, .sl 16, .sl 17], .row true (.ints .i64 y_17), .row true (.ints .i64 y_19), .row true (.pairs y_20), .row true (.ints .i64 y_21), .box [.sl 19, .v (.int .i64 y_18), .sl 20, .sl 21, .sl 22], .row true (.ints .i64 y_24), .row true (.ints .i64 y_26), .row true (.pairs y_27), .row true (.ints .i64 y_28)] ?_ ?_
                    · clear h
                      intro K hK
                      refine awp_region ftCOk ?_
                      simp (maxSteps := 4000000) only [go_sem, Nat.reduceBEq, Nat.reduceLT, Nat.reduceAdd, Nat.reduceLeDiff, Nat.reduceSub, Nat.reduceEqDiff, Int.reduceToNat, reduceCtorEq, ↓reduceIte]
                      repeat' (first | refine And.intro ?_ ?_ | intro hg)
                      all_goals (try simp (disch := omega) only [wrap_fits])
                      all_goals first
                        | (refine hK _ _ ?_; exact Red.auto)
                        | exact trivial
                        | assumption
                        | omega
                        | exact wrap_fits (by omega) (by omega)
                        | (refine wpA_callA (k_laws_markChannel y_12 y_13 y_14 y_15 y_16 1 (h := hr0)) [14, 15, 16, 17] [] ?_
                           rintro x Hc' ⟨rfl, rfl⟩ hlen
                           refine vcOps_sound ftCOk ?_
                           simp (maxSteps := 4000000) only [go_sem, Nat.reduceBEq, Nat.reduceLT, Nat.reduceAdd, Nat.reduceLeDiff, Nat.reduceSub, Nat.reduceEqDiff, Int.reduceToNat, reduceCtorEq, ↓reduceIte]
                           repeat' (first | refine And.intro ?_ ?_ | intro hg)
                           all_goals (try simp (disch := omega) only [wrap_fits])
                           all_goals first
                             | (refine hK _ _ ?_; exact Red.auto)
                             | exact trivial
                             | assumption
                             | omega
                             | exact wrap_fits (by omega) (by omega)
                             | (simp_all; done)
                             | (simp_all; omega))
                        | (simp_all; done)
                        | (simp_all; omega)
                    · clear hr0
                      refine awp_seq fun K11 hK11 => ?_
                      replace h := bind_some h
                      obtain ⟨y_35, hr0, h⟩ := h
                      try dsimp only at h
                      refine awp_to [(1, .pp 4 0), (4, .pp 13 0), (5, .v (.int .i64 y_11)), (7, .pp 23 0), (61, .v (.bool (((decide (y_30 < 0)) || (!y_35)) || (y_22 != y_11))))] [.row false (.ints .i64 a0_0), .row false (.ints .i64 a0_2), .row false (.pairs a0_3), .row false (.ints .i64 a0_4), .rbox [.sl 0, .v (.int .i64 a0_1), .sl 1, .sl 2, .sl 3], .row true (.ints .i64 y_1), .row true (.ints .i64 y_3), .row true (.pairs y_4), .row true (.ints .i64 y_5), .row true (.ints .i64 y_6), .row true (.ints .i64 y_8), .row true (.pairs y_9), .row true (.ints .i64 y_10), .box [.sl 9, .v (.int .i64 y_7), .sl 10, .sl 11, .sl 12], .row true (.ints .i64 y_31), .row true (.ints .i64 y_32), .row true (.pairs y_33), .row true (.ints .i64 y_34), .box [.sl 14, .v (.int .i64 y_13), .sl 15, .sl 16, .sl 17], .row true (.ints .i64 y_17), .row true (.ints .i64 y_19), .row true (.pairs y_20), .row true (.ints .i64 y_21), .box [.sl 19, .v (.int .i64 y_18), .sl 20, .sl 21, .sl 22], .row true (.ints .i64 y_24), .row true (.ints .i64 y_26), .row true (.pairs y_27), .row true (.ints .i64 y_28)] ?_ ?_
                      · clear h
                        intro K hK
                        refine awp_regionA ?_
                        refine wpA_cutAt 8 [(1, .pp 4 0), (4, .pp 13 0), (5, .v (.int .i64 y_11)), (7, .pp 23 0), (8, .v (.int .i64 y_22)), (56, .v (.bool ((decide (y_30 < 0)) || (!y_35))))] [.row false (.ints .i64 a0_0), .row false (.ints .i64 a0_2), .row false (.pairs a0_3), .row false (.ints .i64 a0_4), .rbox [.sl 0, .v (.int .i64 a0_1), .sl 1, .sl 2, .sl 3], .row true (.ints .i64 y_1), .row true (.ints .i64 y_3), .row true (.pairs y_4), .row true (.ints .i64 y_5), .row true (.ints .i64 y_6), .row true (.ints .i64 y_8), .row true (.pairs y_9), .row true (.ints .i64 y_10), .box [.sl 9, .v (.int .i64 y_7), .sl 10, .sl 11, .sl 12], .row true (.ints .i64 y_31), .row true (.ints .i64 y_32), .row true (.pairs y_33), .row true (.ints .i64 y_34), .box [.sl 14, .v (.int .i64 y_13), .sl 15, .sl 16, .sl 17], .row true (.ints .i64 y_17), .row true (.ints .i64 y_19), .row true (.pairs y_20), .row true (.ints .i64 y_21), .box [.sl 19, .v (.int .i64 y_18), .sl 20, .sl 21, .sl 22], .row true (.ints .i64 y_24), .row true (.ints .i64 y_26), .row true (.pairs y_27), .row true (.ints .i64 y_28)] ?_ ?_
                        · clear hK K
                          intro K hK
                          refine vcOps_sound ftCOk ?_
                          simp (maxSteps := 4000000) only [go_sem, Nat.reduceBEq, Nat.reduceLT, Nat.reduceAdd, Nat.reduceLeDiff, Nat.reduceSub, Nat.reduceEqDiff, Int.reduceToNat, reduceCtorEq, ↓reduceIte]
                          repeat' (first | refine And.intro ?_ ?_ | intro hg)
                          all_goals (try simp (disch := omega) only [wrap_fits])
                          all_goals first
                            | (refine hK _ _ ?_; exact Red.auto)
                            | exact trivial
                            | assumption
                            | omega
                            | exact wrap_fits (by omega) (by omega)
                            | (refine wpA_guard rfl rfl ?_
                               refine wpA_callA (k_laws_eqChannel y_17 y_18 y_19 y_20 y_21 y_6 y_7 y_8 y_9 y_10 (h := (bite_t hr0 (by rw [Bool.not_eq_true']; exact (by first | assumption | (simp only [*, Bool.false_or, Bool.true_or, Bool.or_false, Bool.or_true, Bool.false_and, Bool.true_and, Bool.and_false, Bool.and_true, Bool.not_true, Bool.not_false, beq_self_eq_true]; done) | (simp_all; done)))))) [19, 20, 21, 22, 9, 10, 11, 12] [] ?_
                               rintro x Hc' ⟨rfl, rfl⟩ hlen
                               refine vcOps_sound ftCOk ?_
                               simp (maxSteps := 4000000) only [go_sem, Nat.reduceBEq, Nat.reduceLT, Nat.reduceAdd, Nat.reduceLeDiff, Nat.reduceSub, Nat.reduceEqDiff, Int.reduceToNat, reduceCtorEq, ↓reduceIte]
                               repeat' (first | refine And.intro ?_ ?_ | intro hg)
                               all_goals (try simp (disch := omega) only [wrap_fits])
                               all_goals first
                                 | (refine hK _ _ ?_; exact Red.auto)
                                 | exact trivial
                                 | assumption
                                 | omega
                                 | exact wrap_fits (by omega) (by omega)
                                 | (simp_all; done)
                                 | (simp_all; omega))
                            | (simp_all; done)
                            | (simp_all; omega)
                        refine vcOps_sound ftCOk ?_
                        simp (maxSteps := 4000000) only [go_sem, Nat.reduceBEq, Nat.reduceLT, Nat.reduceAdd, Nat.reduceLeDiff, Nat.reduceSub, Nat.reduceEqDiff, Int.reduceToNat, reduceCtorEq, ↓reduceIte]
                        repeat' (first | refine And.intro ?_ ?_ | intro hg)
                        all_goals (try simp (disch := omega) only [wrap_fits])
                        all_goals first
                          | (refine hK _ _ ?_; exact Red.auto)
                          | exact trivial
                          | assumption
                          | omega
                          | exact wrap_fits (by omega) (by omega)
                          | (simp_all; done)
                          | (simp_all; omega)
                      · clear hr0
                        refine awp_cond (t := 61) rfl (fun hc12 => ?_) (fun hc12 => ?_)
                        · replace h := bite_t h hc12
                          refine awp_reg ftCOk [(2, .v (.bool false))] [.row false (.ints .i64 a0_0), .row false (.ints .i64 a0_2), .row false (.pairs a0_3), .row false (.ints .i64 a0_4), .rbox [.sl 0, .v (.int .i64 a0_1), .sl 1, .sl 2, .sl 3], .row true (.ints .i64 y_1), .row true (.ints .i64 y_3), .row true (.pairs y_4), .row true (.ints .i64 y_5), .row true (.ints .i64 y_6), .row true (.ints .i64 y_8), .row true (.pairs y_9), .row true (.ints .i64 y_10), .box [.sl 9, .v (.int .i64 y_7), .sl 10, .sl 11, .sl 12], .row true (.ints .i64 y_31), .row true (.ints .i64 y_32), .row true (.pairs y_33), .row true (.ints .i64 y_34), .box [.sl 14, .v (.int .i64 y_13), .sl 15, .sl 16, .sl 17], .row true (.ints .i64 y_17), .row true (.ints .i64 y_19), .row true (.pairs y_20), .row true (.ints .i64 y_21), .box [.sl 19, .v (.int .i64 y_18), .sl 20, .sl 21, .sl 22], .row true (.ints .i64 y_24), .row true (.ints .i64 y_26), .row true (.pairs y_27), .row true (.ints .i64 y_28)] ?_
                          refine awp_ret ?_
                          (try simp only [Thn, InBlk, ↓reduceIte, Nat.reduceEqDiff])
                          obtain rfl := Option.some.inj h
                          refine ⟨by simp, _, [0, 1, 2, 3], (by simp only [go_sem, Nat.reduceBEq, Nat.reduceLT, Nat.reduceAdd, Nat.reduceLeDiff, Nat.reduceSub, Nat.reduceEqDiff, Int.reduceToNat, reduceCtorEq, ↓reduceIte]; exact rfl), ?_, ?_, ?_, ?_⟩
                          · first | exact trivial | exact ⟨trivial, trivial⟩ | exact ⟨trivial, trivial, trivial⟩ | exact ⟨trivial, trivial, trivial, trivial⟩ | (simp only [allP, and_true, true_and]; done) | (simp only [allP, and_true, true_and]; omega)
                          · simp [selOk, pos]
                          · simp
                          · first | exact ⟨rfl, rfl⟩ | (simp only [go_sem, Nat.reduceBEq, Nat.reduceLT, Nat.reduceAdd, Nat.reduceLeDiff, Nat.reduceSub, Nat.reduceEqDiff, Int.reduceToNat, reduceCtorEq, ↓reduceIte]; done) | (simp [go_sem, Nat.reduceBEq, Nat.reduceLT, Nat.reduceAdd, Nat.reduceLeDiff, Nat.reduceSub, Nat.reduceEqDiff, Int.reduceToNat, reduceCtorEq, ↓reduceIte]; done) | (simp only [go_sem, Nat.reduceBEq, Nat.reduceLT, Nat.reduceAdd, Nat.reduceLeDiff, Nat.reduceSub, Nat.reduceEqDiff, Int.reduceToNat, reduceCtorEq, ↓reduceIte]; exact ⟨rfl, rfl⟩) | (simp_all [go_sem, Nat.reduceBEq, Nat.reduceLT, Nat.reduceAdd, Nat.reduceLeDiff, Nat.reduceSub, Nat.reduceEqDiff, Int.reduceToNat, reduceCtorEq, ↓reduceIte]; done)
                        · replace h := bite_f h hc12
                          refine awp_skip ?_
                          (try simp only [Thn, InBlk, ↓reduceIte, Nat.reduceEqDiff])
                          refine hK11 _ _ ?_
                          clear hK11
                          refine awp_reg ftCOk [(1, .pp 4 0), (4, .pp 13 0), (5, .v (.int .i64 y_11)), (7, .pp 23 0), (10, .v (.int .i64 1))] [.row false (.ints .i64 a0_0), .row false (.ints .i64 a0_2), .row false (.pairs a0_3), .row false (.ints .i64 a0_4), .rbox [.sl 0, .v (.int .i64 a0_1), .sl 1, .sl 2, .sl 3], .row true (.ints .i64 y_1), .row true (.ints .i64 y_3), .row true (.pairs y_4), .row true (.ints .i64 y_5), .row true (.ints .i64 y_6), .row true (.ints .i64 y_8), .row true (.pairs y_9), .row true (.ints .i64 y_10), .box [.sl 9, .v (.int .i64 y_7), .sl 10, .sl 11, .sl 12], .row true (.ints .i64 y_31), .row true (.ints .i64 y_32), .row true (.pairs y_33), .row true (.ints .i64 y_34), .box [.sl 14, .v (.int .i64 y_13), .sl 15, .sl 16, .sl 17], .row true (.ints .i64 y_17), .row true (.ints .i64 y_19), .row true (.pairs y_20), .row true (.ints .i64 y_21), .box [.sl 19, .v (.int .i64 y_18), .sl 20, .sl 21, .sl 22], .row true (.ints .i64 y_24), .row true (.ints .i64 y_26), .row true (.pairs y_27), .row true (.ints .i64 y_28)] ?_
                          replace h := bind_some h
                          obtain ⟨⟨y_36, y_37, y_38, y_39, y_40⟩, hr0, h⟩ := h
                          try dsimp only at h
                          refine awp_to [(1, .pp 4 0), (4, .pp 13 0), (5, .v (.int .i64 y_11)), (7, .pp 23 0), (10, .v (.int .i64 y_36))] [.row false (.ints .i64 a0_0), .row false (.ints .i64 a0_2), .row false (.pairs a0_3), .row false (.ints .i64 a0_4), .rbox [.sl 0, .v (.int .i64 a0_1), .sl 1, .sl 2, .sl 3], .row true (.ints .i64 y_1), .row true (.ints .i64 y_3), .row true (.pairs y_4), .row true (.ints .i64 y_5), .row true (.ints .i64 y_6), .row true (.ints .i64 y_8), .row true (.pairs y_9), .row true (.ints .i64 y_10), .box [.sl 9, .v (.int .i64 y_7), .sl 10, .sl 11, .sl 12], .row true (.ints .i64 y_31), .row true (.ints .i64 y_32), .row true (.pairs y_33), .row true (.ints .i64 y_34), .box [.sl 14, .v (.int .i64 y_13), .sl 15, .sl 16, .sl 17], .row true (.ints .i64 y_37), .row true (.ints .i64 y_38), .row true (.pairs y_39), .row true (.ints .i64 y_40), .box [.sl 19, .v (.int .i64 y_18), .sl 20, .sl 21, .sl 22], .row true (.ints .i64 y_24), .row true (.ints .i64 y_26), .row true (.pairs y_27), .row true (.ints .i64 y_28)] ?_ ?_
                          · clear h
                            intro K hK
                            refine awp_region ftCOk ?_
                            simp (maxSteps := 4000000) only [go_sem, Nat.reduceBEq, Nat.reduceLT, Nat.reduceAdd, Nat.reduceLeDiff, Nat.reduceSub, Nat.reduceEqDiff, Int.reduceToNat, reduceCtorEq, ↓reduceIte]
                            repeat' (first | refine And.intro ?_ ?_ | intro hg)
                            all_goals (try simp (disch := omega) only [wrap_fits])
                            all_goals first
                              | (refine hK _ _ ?_; exact Red.auto)
                              | exact trivial
                              | assumption
                              | omega
                              | exact wrap_fits (by omega) (by omega)
                              | (refine wpA_callA (k_laws_markChannel y_17 y_18 y_19 y_20 y_21 1 (h := hr0)) [19, 20, 21, 22] [] ?_
                                 rintro x Hc' ⟨rfl, rfl⟩ hlen
                                 refine vcOps_sound ftCOk ?_
                                 simp (maxSteps := 4000000) only [go_sem, Nat.reduceBEq, Nat.reduceLT, Nat.reduceAdd, Nat.reduceLeDiff, Nat.reduceSub, Nat.reduceEqDiff, Int.reduceToNat, reduceCtorEq, ↓reduceIte]
                                 repeat' (first | refine And.intro ?_ ?_ | intro hg)
                                 all_goals (try simp (disch := omega) only [wrap_fits])
                                 all_goals first
                                   | (refine hK _ _ ?_; exact Red.auto)
                                   | exact trivial
                                   | assumption
                                   | omega
                                   | exact wrap_fits (by omega) (by omega)
                                   | (simp_all; done)
                                   | (simp_all; omega))
                              | (simp_all; done)
                              | (simp_all; omega)
                          · clear hr0
                            refine awp_reg ftCOk [(1, .pp 4 0), (4, .pp 13 0), (5, .v (.int .i64 y_11)), (7, .pp 23 0), (10, .v (.int .i64 y_36)), (11, .v (.int .i64 1))] [.row false (.ints .i64 a0_0), .row false (.ints .i64 a0_2), .row false (.pairs a0_3), .row false (.ints .i64 a0_4), .rbox [.sl 0, .v (.int .i64 a0_1), .sl 1, .sl 2, .sl 3], .row true (.ints .i64 y_1), .row true (.ints .i64 y_3), .row true (.pairs y_4), .row true (.ints .i64 y_5), .row true (.ints .i64 y_6), .row true (.ints .i64 y_8), .row true (.pairs y_9), .row true (.ints .i64 y_10), .box [.sl 9, .v (.int .i64 y_7), .sl 10, .sl 11, .sl 12], .row true (.ints .i64 y_31), .row true (.ints .i64 y_32), .row true (.pairs y_33), .row true (.ints .i64 y_34), .box [.sl 14, .v (.int .i64 y_13), .sl 15, .sl 16, .sl 17], .row true (.ints .i64 y_37), .row true (.ints .i64 y_38), .row true (.pairs y_39), .row true (.ints .i64 y_40), .box [.sl 19, .v (.int .i64 y_18), .sl 20, .sl 21, .sl 22], .row true (.ints .i64 y_24), .row true (.ints .i64 y_26), .row true (.pairs y_27), .row true (.ints .i64 y_28)] ?_
                            replace h := bind_some h
                            obtain ⟨y_41, hr0, h⟩ := h
                            try dsimp only at h
                            refine awp_to [(1, .pp 4 0), (4, .pp 13 0), (5, .v (.int .i64 y_11)), (7, .pp 23 0), (10, .v (.int .i64 y_36)), (11, .v (.int .i64 y_41))] [.row false (.ints .i64 a0_0), .row false (.ints .i64 a0_2), .row false (.pairs a0_3), .row false (.ints .i64 a0_4), .rbox [.sl 0, .v (.int .i64 a0_1), .sl 1, .sl 2, .sl 3], .row true (.ints .i64 y_1), .row true (.ints .i64 y_3), .row true (.pairs y_4), .row true (.ints .i64 y_5), .row true (.ints .i64 y_6), .row true (.ints .i64 y_8), .row true (.pairs y_9), .row true (.ints .i64 y_10), .box [.sl 9, .v (.int .i64 y_7), .sl 10, .sl 11, .sl 12], .row true (.ints .i64 y_31), .row true (.ints .i64 y_32), .row true (.pairs y_33), .row true (.ints .i64 y_34), .box [.sl 14, .v (.int .i64 y_13), .sl 15, .sl 16, .sl 17], .row true (.ints .i64 y_37), .row true (.ints .i64 y_38), .row true (.pairs y_39), .row true (.ints .i64 y_40), .box [.sl 19, .v (.int .i64 y_18), .sl 20, .sl 21, .sl 22], .row true (.ints .i64 y_24), .row true (.ints .i64 y_26), .row true (.pairs y_27), .row true (.ints .i64 y_28)] ?_ ?_
                            · clear h
                              intro K hK
                              refine awp_region ftCOk ?_
                              simp (maxSteps := 4000000) only [go_sem, Nat.reduceBEq, Nat.reduceLT, Nat.reduceAdd, Nat.reduceLeDiff, Nat.reduceSub, Nat.reduceEqDiff, Int.reduceToNat, reduceCtorEq, ↓reduceIte]
                              repeat' (first | refine And.intro ?_ ?_ | intro hg)
                              all_goals (try simp (disch := omega) only [wrap_fits])
                              all_goals first
                                | (refine hK _ _ ?_; exact Red.auto)
                                | exact trivial
                                | assumption
                                | omega
                                | exact wrap_fits (by omega) (by omega)
                                | (refine wpA_callA (k_laws_heldChannel y_37 y_18 y_38 y_39 y_40 1 (h := hr0)) [19, 20, 21, 22] [] ?_
                                   rintro x Hc' ⟨rfl, rfl⟩ hlen
                                   refine vcOps_sound ftCOk ?_
                                   simp (maxSteps := 4000000) only [go_sem, Nat.reduceBEq, Nat.reduceLT, Nat.reduceAdd, Nat.reduceLeDiff, Nat.reduceSub, Nat.reduceEqDiff, Int.reduceToNat, reduceCtorEq, ↓reduceIte]
                                   repeat' (first | refine And.intro ?_ ?_ | intro hg)
                                   all_goals (try simp (disch := omega) only [wrap_fits])
                                   all_goals first
                                     | (refine hK _ _ ?_; exact Red.auto)
                                     | exact trivial
                                     | assumption
                                     | omega
                                     | exact wrap_fits (by omega) (by omega)
                                     | (simp_all; done)
                                     | (simp_all; omega))
                                | (simp_all; done)
                                | (simp_all; omega)
                            · clear hr0
                              refine awp_seq fun K14 hK14 => ?_
                              refine awp_reg ftCOk [(1, .pp 4 0), (4, .pp 13 0), (5, .v (.int .i64 y_11)), (7, .pp 23 0), (10, .v (.int .i64 y_36)), (11, .v (.int .i64 y_41)), (69, .v (.bool (decide (y_41 < 0))))] [.row false (.ints .i64 a0_0), .row false (.ints .i64 a0_2), .row false (.pairs a0_3), .row false (.ints .i64 a0_4), .rbox [.sl 0, .v (.int .i64 a0_1), .sl 1, .sl 2, .sl 3], .row true (.ints .i64 y_1), .row true (.ints .i64 y_3), .row true (.pairs y_4), .row true (.ints .i64 y_5), .row true (.ints .i64 y_6), .row true (.ints .i64 y_8), .row true (.pairs y_9), .row true (.ints .i64 y_10), .box [.sl 9, .v (.int .i64 y_7), .sl 10, .sl 11, .sl 12], .row true (.ints .i64 y_31), .row true (.ints .i64 y_32), .row true (.pairs y_33), .row true (.ints .i64 y_34), .box [.sl 14, .v (.int .i64 y_13), .sl 15, .sl 16, .sl 17], .row true (.ints .i64 y_37), .row true (.ints .i64 y_38), .row true (.pairs y_39), .row true (.ints .i64 y_40), .box [.sl 19, .v (.int .i64 y_18), .sl 20, .sl 21, .sl 22], .row true (.ints .i64 y_24), .row true (.ints .i64 y_26), .row true (.pairs y_27), .row true (.ints .i64 y_28)] ?_
                              refine awp_cond (t := 69) rfl (fun hc15 => ?_) (fun hc15 => ?_)
                              · replace h := bite_t h hc15
                                refine awp_reg ftCOk [(2, .v (.bool false))] [.row false (.ints .i64 a0_0), .row false (.ints .i64 a0_2), .row false (.pairs a0_3), .row false (.ints .i64 a0_4), .rbox [.sl 0, .v (.int .i64 a0_1), .sl 1, .sl 2, .sl 3], .row true (.ints .i64 y_1), .row true (.ints .i64 y_3), .row true (.pairs y_4), .row true (.ints .i64 y_5), .row true (.ints .i64 y_6), .row true (.ints .i64 y_8), .row true (.pairs y_9), .row true (.ints .i64 y_10), .box [.sl 9, .v (.int .i64 y_7), .sl 10, .sl 11, .sl 12], .row true (.ints .i64 y_31), .row true (.ints .i64 y_32), .row true (.pairs y_33), .row true (.ints .i64 y_34), .box [.sl 14, .v (.int .i64 y_13), .sl 15, .sl 16, .sl 17], .row true (.ints .i64 y_37), .row true (.ints .i64 y_38), .row true (.pairs y_39), .row true (.ints .i64 y_40), .box [.sl 19, .v (.int .i64 y_18), .sl 20, .sl 21, .sl 22], .row true (.ints .i64 y_24), .row true (.ints .i64 y_26), .row true (.pairs y_27), .row true (.ints .i64 y_28)] ?_
                                refine awp_ret ?_
                                (try simp only [Thn, InBlk, ↓reduceIte, Nat.reduceEqDiff])
                                obtain rfl := Option.some.inj h
                                refine ⟨by simp, _, [0, 1, 2, 3], (by simp only [go_sem, Nat.reduceBEq, Nat.reduceLT, Nat.reduceAdd, Nat.reduceLeDiff, Nat.reduceSub, Nat.reduceEqDiff, Int.reduceToNat, reduceCtorEq, ↓reduceIte]; exact rfl), ?_, ?_, ?_, ?_⟩
                                · first | exact trivial | exact ⟨trivial, trivial⟩ | exact ⟨trivial, trivial, trivial⟩ | exact ⟨trivial, trivial, trivial, trivial⟩ | (simp only [allP, and_true, true_and]; done) | (simp only [allP, and_true, true_and]; omega)
                                · simp [selOk, pos]
                                · simp
                                · first | exact ⟨rfl, rfl⟩ | (simp only [go_sem, Nat.reduceBEq, Nat.reduceLT, Nat.reduceAdd, Nat.reduceLeDiff, Nat.reduceSub, Nat.reduceEqDiff, Int.reduceToNat, reduceCtorEq, ↓reduceIte]; done) | (simp [go_sem, Nat.reduceBEq, Nat.reduceLT, Nat.reduceAdd, Nat.reduceLeDiff, Nat.reduceSub, Nat.reduceEqDiff, Int.reduceToNat, reduceCtorEq, ↓reduceIte]; done) | (simp only [go_sem, Nat.reduceBEq, Nat.reduceLT, Nat.reduceAdd, Nat.reduceLeDiff, Nat.reduceSub, Nat.reduceEqDiff, Int.reduceToNat, reduceCtorEq, ↓reduceIte]; exact ⟨rfl, rfl⟩) | (simp_all [go_sem, Nat.reduceBEq, Nat.reduceLT, Nat.reduceAdd, Nat.reduceLeDiff, Nat.reduceSub, Nat.reduceEqDiff, Int.reduceToNat, reduceCtorEq, ↓reduceIte]; done)
                              · replace h := bite_f h hc15
                                refine awp_skip ?_
                                (try simp only [Thn, InBlk, ↓reduceIte, Nat.reduceEqDiff])
                                refine hK14 _ _ ?_
                                clear hK14
                                refine awp_seq fun K17 hK17 => ?_
                                refine awp_reg ftCOk [(1, .pp 4 0), (4, .pp 13 0), (5, .v (.int .i64 y_11)), (7, .pp 23 0), (10, .v (.int .i64 y_36)), (72, .v (.bool (y_41 != y_36)))] [.row false (.ints .i64 a0_0), .row false (.ints .i64 a0_2), .row false (.pairs a0_3), .row false (.ints .i64 a0_4), .rbox [.sl 0, .v (.int .i64 a0_1), .sl 1, .sl 2, .sl 3], .row true (.ints .i64 y_1), .row true (.ints .i64 y_3), .row true (.pairs y_4), .row true (.ints .i64 y_5), .row true (.ints .i64 y_6), .row true (.ints .i64 y_8), .row true (.pairs y_9), .row true (.ints .i64 y_10), .box [.sl 9, .v (.int .i64 y_7), .sl 10, .sl 11, .sl 12], .row true (.ints .i64 y_31), .row true (.ints .i64 y_32), .row true (.pairs y_33), .row true (.ints .i64 y_34), .box [.sl 14, .v (.int .i64 y_13), .sl 15, .sl 16, .sl 17], .row true (.ints .i64 y_37), .row true (.ints .i64 y_38), .row true (.pairs y_39), .row true (.ints .i64 y_40), .box [.sl 19, .v (.int .i64 y_18), .sl 20, .sl 21, .sl 22], .row true (.ints .i64 y_24), .row true (.ints .i64 y_26), .row true (.pairs y_27), .row true (.ints .i64 y_28)] ?_
                                refine awp_cond (t := 72) rfl (fun hc18 => ?_) (fun hc18 => ?_)
                                · replace h := bite_t h hc18
                                  refine awp_reg ftCOk [(2, .v (.bool false))] [.row false (.ints .i64 a0_0), .row false (.ints .i64 a0_2), .row false (.pairs a0_3), .row false (.ints .i64 a0_4), .rbox [.sl 0, .v (.int .i64 a0_1), .sl 1, .sl 2, .sl 3], .row true (.ints .i64 y_1), .row true (.ints .i64 y_3), .row true (.pairs y_4), .row true (.ints .i64 y_5), .row true (.ints .i64 y_6), .row true (.ints .i64 y_8), .row true (.pairs y_9), .row true (.ints .i64 y_10), .box [.sl 9, .v (.int .i64 y_7), .sl 10, .sl 11, .sl 12], .row true (.ints .i64 y_31), .row true (.ints .i64 y_32), .row true (.pairs y_33), .row true (.ints .i64 y_34), .box [.sl 14, .v (.int .i64 y_13), .sl 15, .sl 16, .sl 17], .row true (.ints .i64 y_37), .row true (.ints .i64 y_38), .row true (.pairs y_39), .row true (.ints .i64 y_40), .box [.sl 19, .v (.int .i64 y_18), .sl 20, .sl 21, .sl 22], .row true (.ints .i64 y_24), .row true (.ints .i64 y_26), .row true (.pairs y_27), .row true (.ints .i64 y_28)] ?_
                                  refine awp_ret ?_
                                  (try simp only [Thn, InBlk, ↓reduceIte, Nat.reduceEqDiff])
                                  obtain rfl := Option.some.inj h
                                  refine ⟨by simp, _, [0, 1, 2, 3], (by simp only [go_sem, Nat.reduceBEq, Nat.reduceLT, Nat.reduceAdd, Nat.reduceLeDiff, Nat.reduceSub, Nat.reduceEqDiff, Int.reduceToNat, reduceCtorEq, ↓reduceIte]; exact rfl), ?_, ?_, ?_, ?_⟩
                                  · first | exact trivial | exact ⟨trivial, trivial⟩ | exact ⟨trivial, trivial, trivial⟩ | exact ⟨trivial, trivial, trivial, trivial⟩ | (simp only [allP, and_true, true_and]; done) | (simp only [allP, and_true, true_and]; omega)
                                  · simp [selOk, pos]
                                  · simp
                                  · first | exact ⟨rfl, rfl⟩ | (simp only [go_sem, Nat.reduceBEq, Nat.reduceLT, Nat.reduceAdd, Nat.reduceLeDiff, Nat.reduceSub, Nat.reduceEqDiff, Int.reduceToNat, reduceCtorEq, ↓reduceIte]; done) | (simp [go_sem, Nat.reduceBEq, Nat.reduceLT, Nat.reduceAdd, Nat.reduceLeDiff, Nat.reduceSub, Nat.reduceEqDiff, Int.reduceToNat, reduceCtorEq, ↓reduceIte]; done) | (simp only [go_sem, Nat.reduceBEq, Nat.reduceLT, Nat.reduceAdd, Nat.reduceLeDiff, Nat.reduceSub, Nat.reduceEqDiff, Int.reduceToNat, reduceCtorEq, ↓reduceIte]; exact ⟨rfl, rfl⟩) | (simp_all [go_sem, Nat.reduceBEq, Nat.reduceLT, Nat.reduceAdd, Nat.reduceLeDiff, Nat.reduceSub, Nat.reduceEqDiff, Int.reduceToNat, reduceCtorEq, ↓reduceIte]; done)
                                · replace h := bite_f h hc18
                                  refine awp_skip ?_
                                  (try simp only [Thn, InBlk, ↓reduceIte, Nat.reduceEqDiff])
                                  refine hK17 _ _ ?_
                                  clear hK17
                                  replace h := bind_some h
                                  obtain ⟨⟨y_42, y_43, y_44, y_45, y_46⟩, hr0, h⟩ := h
                                  try dsimp only at h
                                  replace h := bind_some h
                                  obtain ⟨⟨y_47, y_48, y_49, y_50, y_51, y_52⟩, hr1, h⟩ := h
                                  try dsimp only at h
                                  refine awp_to [(4, .pp 13 0), (5, .v (.int .i64 y_11)), (7, .pp 23 0), (10, .v (.int .i64 y_36)), (12, .pp 36 0), (13, .v (.int .i64 y_52))] [.row false (.ints .i64 a0_0), .row false (.ints .i64 a0_2), .row false (.pairs a0_3), .row false (.ints .i64 a0_4), .rbox [.sl 0, .v (.int .i64 a0_1), .sl 1, .sl 2, .sl 3], .row true (.ints .i64 y_1), .row true (.ints .i64 y_3), .row true (.pairs y_4), .row true (.ints .i64 y_5), .row true (.ints .i64 y_6), .row true (.ints .i64 y_8), .row true (.pairs y_9), .row true (.ints .i64 y_10), .box [.sl 9, .v (.int .i64 y_7), .sl 10, .sl 11, .sl 12], .row true (.ints .i64 y_31), .row true (.ints .i64 y_32), .row true (.pairs y_33), .row true (.ints .i64 y_34), .box [.sl 14, .v (.int .i64 y_13), .sl 15, .sl 16, .sl 17], .row true (.ints .i64 y_37), .row true (.ints .i64 y_38), .row true (.pairs y_39), .row true (.ints .i64 y_40), .box [.sl 19, .v (.int .i64 y_18), .sl 20, .sl 21, .sl 22], .row true (.ints .i64 y_24), .row true (.ints .i64 y_26), .row true (.pairs y_27), .row true (.ints .i64 y_28), .row true (.ints .i64 y_42), .row true (.ints .i64 y_44), .row true (.pairs y_45), .row true (.ints .i64 y_46), .row true (.ints .i64 y_47), .row true (.ints .i64 y_49), .row true (.pairs y_50), .row true (.ints .i64 y_51), .box [.sl 32, .v (.int .i64 y_48), .sl 33, .sl 34, .sl 35]] ?_ ?_
                                  · clear h
                                    intro K hK
                                    refine awp_region ftCOk ?_
                                    simp (maxSteps := 4000000) only [go_sem, Nat.reduceBEq, Nat.reduceLT, Nat.reduceAdd, Nat.reduceLeDiff, Nat.reduceSub, Nat.reduceEqDiff, Int.reduceToNat, reduceCtorEq, ↓reduceIte]
                                    repeat' (first | refine And.intro ?_ ?_ | intro hg)
                                    all_goals (try simp (disch := omega) only [wrap_fits])
                                    all_goals first
                                      | (refine hK _ _ ?_; exact Red.auto)
                                      | exact trivial
                                      | assumption
                                      | omega
                                      | exact wrap_fits (by omega) (by omega)
                                      | (refine wpA_callA (k_laws_toChannel a0_0 a0_1 a0_2 a0_3 a0_4 (h := hr0)) [0, 1, 2, 3] [] ?_
                                         rintro x Hc' ⟨rfl, rfl⟩ hlen
                                         refine vcOps_sound ftCOk ?_
                                         simp (maxSteps := 4000000) only [go_sem, Nat.reduceBEq, Nat.reduceLT, Nat.reduceAdd, Nat.reduceLeDiff, Nat.reduceSub, Nat.reduceEqDiff, Int.reduceToNat, reduceCtorEq, ↓reduceIte]
                                         repeat' (first | refine And.intro ?_ ?_ | intro hg)
                                         all_goals (try simp (disch := omega) only [wrap_fits])
                                         all_goals first
                                           | (refine hK _ _ ?_; exact Red.auto)
                                           | exact trivial
                                           | assumption
                                           | omega
                                           | exact wrap_fits (by omega) (by omega)
                                           | (refine wpA_callA (k_impl_ChannelFinish y_42 y_43 y_44 y_45 y_46 (h := hr1)) [28, 29, 30, 31] [] ?_
                                              rintro x Hc' ⟨rfl, rfl⟩ hlen
                                              refine vcOps_sound ftCOk ?_
                                              simp (maxSteps := 4000000) only [go_sem, Nat.reduceBEq, Nat.reduceLT, Nat.reduceAdd, Nat.reduceLeDiff, Nat.reduceSub, Nat.reduceEqDiff, Int.reduceToNat, reduceCtorEq, ↓reduceIte]
                                              repeat' (first | refine And.intro ?_ ?_ | intro hg)
                                              all_goals (try simp (disch := omega) only [wrap_fits])
                                              all_goals first
                                                | (refine hK _ _ ?_; exact Red.auto)
                                                | exact trivial
                                                | assumption
                                                | omega
                                                | exact wrap_fits (by omega) (by omega)
                                                | (simp_all; done)
                                                | (simp_all; omega))
                                           | (simp_all; done)
                                           | (simp_all; omega))
                                      | (simp_all; done)
                                      | (simp_all; omega)
                                  · clear hr0 hr1
                                    refine awp_seq fun K20 hK20 => ?_
                                    replace h := bind_some h
                                    obtain ⟨y_53, hr0, h⟩ := h
                                    try dsimp only at h
                                    refine awp_to [(7, .pp 23 0), (10, .v (.int .i64 y_36)), (87, .v (.bool ((!y_53) || (y_52 != y_11))))] [.row false (.ints .i64 a0_0), .row false (.ints .i64 a0_2), .row false (.pairs a0_3), .row false (.ints .i64 a0_4), .rbox [.sl 0, .v (.int .i64 a0_1), .sl 1, .sl 2, .sl 3], .row true (.ints .i64 y_1), .row true (.ints .i64 y_3), .row true (.pairs y_4), .row true (.ints .i64 y_5), .row true (.ints .i64 y_6), .row true (.ints .i64 y_8), .row true (.pairs y_9), .row true (.ints .i64 y_10), .box [.sl 9, .v (.int .i64 y_7), .sl 10, .sl 11, .sl 12], .row true (.ints .i64 y_31), .row true (.ints .i64 y_32), .row true (.pairs y_33), .row true (.ints .i64 y_34), .box [.sl 14, .v (.int .i64 y_13), .sl 15, .sl 16, .sl 17], .row true (.ints .i64 y_37), .row true (.ints .i64 y_38), .row true (.pairs y_39), .row true (.ints .i64 y_40), .box [.sl 19, .v (.int .i64 y_18), .sl 20, .sl 21, .sl 22], .row true (.ints .i64 y_24), .row true (.ints .i64 y_26), .row true (.pairs y_27), .row true (.ints .i64 y_28), .row true (.ints .i64 y_42), .row true (.ints .i64 y_44), .row true (.pairs y_45), .row true (.ints .i64 y_46), .row true (.ints .i64 y_47), .row true (.ints .i64 y_49), .row true (.pairs y_50), .row true (.ints .i64 y_51), .box [.sl 32, .v (.int .i64 y_48), .sl 33, .sl 34, .sl 35]] ?_ ?_
                                    · clear h
                                      intro K hK
                                      refine awp_region ftCOk ?_
                                      simp (maxSteps := 4000000) only [go_sem, Nat.reduceBEq, Nat.reduceLT, Nat.reduceAdd, Nat.reduceLeDiff, Nat.reduceSub, Nat.reduceEqDiff, Int.reduceToNat, reduceCtorEq, ↓reduceIte]
                                      repeat' (first | refine And.intro ?_ ?_ | intro hg)
                                      all_goals (try simp (disch := omega) only [wrap_fits])
                                      all_goals first
                                        | (refine hK _ _ ?_; exact Red.auto)
                                        | exact trivial
                                        | assumption
                                        | omega
                                        | exact wrap_fits (by omega) (by omega)
                                        | (refine wpA_callA (k_laws_eqChannel y_47 y_48 y_49 y_50 y_51 y_6 y_7 y_8 y_9 y_10 (h := hr0)) [32, 33, 34, 35, 9, 10, 11, 12] [] ?_
                                           rintro x Hc' ⟨rfl, rfl⟩ hlen
                                           refine vcOps_sound ftCOk ?_
                                           simp (maxSteps := 4000000) only [go_sem, Nat.reduceBEq, Nat.reduceLT, Nat.reduceAdd, Nat.reduceLeDiff, Nat.reduceSub, Nat.reduceEqDiff, Int.reduceToNat, reduceCtorEq, ↓reduceIte]
                                           repeat' (first | refine And.intro ?_ ?_ | intro hg)
                                           all_goals (try simp (disch := omega) only [wrap_fits])
                                           all_goals first
                                             | (refine hK _ _ ?_; exact Red.auto)
                                             | exact trivial
                                             | assumption
                                             | omega
                                             | exact wrap_fits (by omega) (by omega)
                                             | (simp_all; done)
                                             | (simp_all; omega))
                                        | (simp_all; done)
                                        | (simp_all; omega)
                                    · clear hr0
                                      refine awp_cond (t := 87) rfl (fun hc21 => ?_) (fun hc21 => ?_)
                                      · replace h := bite_t h hc21
                                        refine awp_reg ftCOk [(2, .v (.bool false))] [.row false (.ints .i64 a0_0), .row false (.ints .i64 a0_2), .row false (.pairs a0_3), .row false (.ints .i64 a0_4), .rbox [.sl 0, .v (.int .i64 a0_1), .sl 1, .sl 2, .sl 3], .row true (.ints .i64 y_1), .row true (.ints .i64 y_3), .row true (.pairs y_4), .row true (.ints .i64 y_5), .row true (.ints .i64 y_6), .row true (.ints .i64 y_8), .row true (.pairs y_9), .row true (.ints .i64 y_10), .box [.sl 9, .v (.int .i64 y_7), .sl 10, .sl 11, .sl 12], .row true (.ints .i64 y_31), .row true (.ints .i64 y_32), .row true (.pairs y_33), .row true (.ints .i64 y_34), .box [.sl 14, .v (.int .i64 y_13), .sl 15, .sl 16, .sl 17], .row true (.ints .i64 y_37), .row true (.ints .i64 y_38), .row true (.pairs y_39), .row true (.ints .i64 y_40), .box [.sl 19, .v (.int .i64 y_18), .sl 20, .sl 21, .sl 22], .row true (.ints .i64 y_24), .row true (.ints .i64 y_26), .row true (.pairs y_27), .row true (.ints .i64 y_28), .row true (.ints .i64 y_42), .row true (.ints .i64 y_44), .row true (.pairs y_45), .row true (.ints .i64 y_46), .row true (.ints .i64 y_47), .row true (.ints .i64 y_49), .row true (.pairs y_50), .row true (.ints .i64 y_51), .box [.sl 32, .v (.int .i64 y_48), .sl 33, .sl 34, .sl 35]] ?_
                                        refine awp_ret ?_
                                        (try simp only [Thn, InBlk, ↓reduceIte, Nat.reduceEqDiff])
                                        obtain rfl := Option.some.inj h
                                        refine ⟨by simp, _, [0, 1, 2, 3], (by simp only [go_sem, Nat.reduceBEq, Nat.reduceLT, Nat.reduceAdd, Nat.reduceLeDiff, Nat.reduceSub, Nat.reduceEqDiff, Int.reduceToNat, reduceCtorEq, ↓reduceIte]; exact rfl), ?_, ?_, ?_, ?_⟩
                                        · first | exact trivial | exact ⟨trivial, trivial⟩ | exact ⟨trivial, trivial, trivial⟩ | exact ⟨trivial, trivial, trivial, trivial⟩ | (simp only [allP, and_true, true_and]; done) | (simp only [allP, and_true, true_and]; omega)
                                        · simp [selOk, pos]
                                        · simp
                                        · first | exact ⟨rfl, rfl⟩ | (simp only [go_sem, Nat.reduceBEq, Nat.reduceLT, Nat.reduceAdd, Nat.reduceLeDiff, Nat.reduceSub, Nat.reduceEqDiff, Int.reduceToNat, reduceCtorEq, ↓reduceIte]; done) | (simp [go_sem, Nat.reduceBEq, Nat.reduceLT, Nat.reduceAdd, Nat.reduceLeDiff, Nat.reduceSub, Nat.reduceEqDiff, Int.reduceToNat, reduceCtorEq, ↓reduceIte]; done) | (simp only [go_sem, Nat.reduceBEq, Nat.reduceLT, Nat.reduceAdd, Nat.reduceLeDiff, Nat.reduceSub, Nat.reduceEqDiff, Int.reduceToNat, reduceCtorEq, ↓reduceIte]; exact ⟨rfl, rfl⟩) | (simp_all [go_sem, Nat.reduceBEq, Nat.reduceLT, Nat.reduceAdd, Nat.reduceLeDiff, Nat.reduceSub, Nat.reduceEqDiff, Int.reduceToNat, reduceCtorEq, ↓reduceIte]; done)
                                      · replace h := bite_f h hc21
                                        refine awp_skip ?_
                                        (try simp only [Thn, InBlk, ↓reduceIte, Nat.reduceEqDiff])
                                        refine hK20 _ _ ?_
                                        clear hK20
                                        refine awp_reg ftCOk [(7, .pp 23 0), (10, .v (.int .i64 y_36)), (11, .v (.int .i64 1))] [.row false (.ints .i64 a0_0), .row false (.ints .i64 a0_2), .row false (.pairs a0_3), .row false (.ints .i64 a0_4), .rbox [.sl 0, .v (.int .i64 a0_1), .sl 1, .sl 2, .sl 3], .row true (.ints .i64 y_1), .row true (.ints .i64 y_3), .row true (.pairs y_4), .row true (.ints .i64 y_5), .row true (.ints .i64 y_6), .row true (.ints .i64 y_8), .row true (.pairs y_9), .row true (.ints .i64 y_10), .box [.sl 9, .v (.int .i64 y_7), .sl 10, .sl 11, .sl 12], .row true (.ints .i64 y_31), .row true (.ints .i64 y_32), .row true (.pairs y_33), .row true (.ints .i64 y_34), .box [.sl 14, .v (.int .i64 y_13), .sl 15, .sl 16, .sl 17], .row true (.ints .i64 y_37), .row true (.ints .i64 y_38), .row true (.pairs y_39), .row true (.ints .i64 y_40), .box [.sl 19, .v (.int .i64 y_18), .sl 20, .sl 21, .sl 22], .row true (.ints .i64 y_24), .row true (.ints .i64 y_26), .row true (.pairs y_27), .row true (.ints .i64 y_28), .row true (.ints .i64 y_42), .row true (.ints .i64 y_44), .row true (.pairs y_45), .row true (.ints .i64 y_46), .row true (.ints .i64 y_47), .row true (.ints .i64 y_49), .row true (.pairs y_50), .row true (.ints .i64 y_51), .box [.sl 32, .v (.int .i64 y_48), .sl 33, .sl 34, .sl 35]] ?_
                                        replace h := bind_some h
                                        obtain ⟨y_54, hr0, h⟩ := h
                                        try dsimp only at h
                                        refine awp_to [(10, .v (.int .i64 y_36)), (11, .v (.int .i64 y_54))] [.row false (.ints .i64 a0_0), .row false (.ints .i64 a0_2), .row false (.pairs a0_3), .row false (.ints .i64 a0_4), .rbox [.sl 0, .v (.int .i64 a0_1), .sl 1, .sl 2, .sl 3], .row true (.ints .i64 y_1), .row true (.ints .i64 y_3), .row true (.pairs y_4), .row true (.ints .i64 y_5), .row true (.ints .i64 y_6), .row true (.ints .i64 y_8), .row true (.pairs y_9), .row true (.ints .i64 y_10), .box [.sl 9, .v (.int .i64 y_7), .sl 10, .sl 11, .sl 12], .row true (.ints .i64 y_31), .row true (.ints .i64 y_32), .row true (.pairs y_33), .row true (.ints .i64 y_34), .box [.sl 14, .v (.int .i64 y_13), .sl 15, .sl 16, .sl 17], .row true (.ints .i64 y_37), .row true (.ints .i64 y_38), .row true (.pairs y_39), .row true (.ints .i64 y_40), .box [.sl 19, .v (.int .i64 y_18), .sl 20, .sl 21, .sl 22], .row true (.ints .i64 y_24), .row true (.ints .i64 y_26), .row true (.pairs y_27), .row true (.ints .i64 y_28), .row true (.ints .i64 y_42), .row true (.ints .i64 y_44), .row true (.pairs y_45), .row true (.ints .i64 y_46), .row true (.ints .i64 y_47), .row true (.ints .i64 y_49), .row true (.pairs y_50), .row true (.ints .i64 y_51), .box [.sl 32, .v (.int .i64 y_48), .sl 33, .sl 34, .sl 35]] ?_ ?_
                                        · clear h
                                          intro K hK
                                          refine awp_region ftCOk ?_
                                          simp (maxSteps := 4000000) only [go_sem, Nat.reduceBEq, Nat.reduceLT, Nat.reduceAdd, Nat.reduceLeDiff, Nat.reduceSub, Nat.reduceEqDiff, Int.reduceToNat, reduceCtorEq, ↓reduceIte]
                                          repeat' (first | refine And.intro ?_ ?_ | intro hg)
                                          all_goals (try simp (disch := omega) only [wrap_fits])
                                          all_goals first
                                            | (refine hK _ _ ?_; exact Red.auto)
                                            | exact trivial
                                            | assumption
                                            | omega
                                            | exact wrap_fits (by omega) (by omega)
                                            | (refine wpA_callA (k_laws_heldChannel y_37 y_18 y_38 y_39 y_40 1 (h := hr0)) [19, 20, 21, 22] [] ?_
                                               rintro x Hc' ⟨rfl, rfl⟩ hlen
                                               refine vcOps_sound ftCOk ?_
                                               simp (maxSteps := 4000000) only [go_sem, Nat.reduceBEq, Nat.reduceLT, Nat.reduceAdd, Nat.reduceLeDiff, Nat.reduceSub, Nat.reduceEqDiff, Int.reduceToNat, reduceCtorEq, ↓reduceIte]
                                               repeat' (first | refine And.intro ?_ ?_ | intro hg)
                                               all_goals (try simp (disch := omega) only [wrap_fits])
                                               all_goals first
                                                 | (refine hK _ _ ?_; exact Red.auto)
                                                 | exact trivial
                                                 | assumption
                                                 | omega
                                                 | exact wrap_fits (by omega) (by omega)
                                                 | (simp_all; done)
                                                 | (simp_all; omega))
                                            | (simp_all; done)
                                            | (simp_all; omega)
                                        · clear hr0
                                          refine awp_seq fun K23 hK23 => ?_
                                          refine awp_reg ftCOk [(10, .v (.int .i64 y_36)), (11, .v (.int .i64 y_54)), (92, .v (.bool (decide (y_54 < 0))))] [.row false (.ints .i64 a0_0), .row false (.ints .i64 a0_2), .row false (.pairs a0_3), .row false (.ints .i64 a0_4), .rbox [.sl 0, .v (.int .i64 a0_1), .sl 1, .sl 2, .sl 3], .row true (.ints .i64 y_1), .row true (.ints .i64 y_3), .row true (.pairs y_4), .row true (.ints .i64 y_5), .row true (.ints .i64 y_6), .row true (.ints .i64 y_8), .row true (.pairs y_9), .row true (.ints .i64 y_10), .box [.sl 9, .v (.int .i64 y_7), .sl 10, .sl 11, .sl 12], .row true (.ints .i64 y_31), .row true (.ints .i64 y_32), .row true (.pairs y_33), .row true (.ints .i64 y_34), .box [.sl 14, .v (.int .i64 y_13), .sl 15, .sl 16, .sl 17], .row true (.ints .i64 y_37), .row true (.ints .i64 y_38), .row true (.pairs y_39), .row true (.ints .i64 y_40), .box [.sl 19, .v (.int .i64 y_18), .sl 20, .sl 21, .sl 22], .row true (.ints .i64 y_24), .row true (.ints .i64 y_26), .row true (.pairs y_27), .row true (.ints .i64 y_28), .row true (.ints .i64 y_42), .row true (.ints .i64 y_44), .row true (.pairs y_45), .row true (.ints .i64 y_46), .row true (.ints .i64 y_47), .row true (.ints .i64 y_49), .row true (.pairs y_50), .row true (.ints .i64 y_51), .box [.sl 32, .v (.int .i64 y_48), .sl 33, .sl 34, .sl 35]] ?_
                                          refine awp_cond (t := 92) rfl (fun hc24 => ?_) (fun hc24 => ?_)
                                          · replace h := bite_t h hc24
                                            refine awp_reg ftCOk [(2, .v (.bool false))] [.row false (.ints .i64 a0_0), .row false (.ints .i64 a0_2), .row false (.pairs a0_3), .row false (.ints .i64 a0_4), .rbox [.sl 0, .v (.int .i64 a0_1), .sl 1, .sl 2, .sl 3], .row true (.ints .i64 y_1), .row true (.ints .i64 y_3), .row true (.pairs y_4), .row true (.ints .i64 y_5), .row true (.ints .i64 y_6), .row true (.ints .i64 y_8), .row true (.pairs y_9), .row true (.ints .i64 y_10), .box [.sl 9, .v (.int .i64 y_7), .sl 10, .sl 11, .sl 12], .row true (.ints .i64 y_31), .row true (.ints .i64 y_32), .row true (.pairs y_33), .row true (.ints .i64 y_34), .box [.sl 14, .v (.int .i64 y_13), .sl 15, .sl 16, .sl 17], .row true (.ints .i64 y_37), .row true (.ints .i64 y_38), .row true (.pairs y_39), .row true (.ints .i64 y_40), .box [.sl 19, .v (.int .i64 y_18), .sl 20, .sl 21, .sl 22], .row true (.ints .i64 y_24), .row true (.ints .i64 y_26), .row true (.pairs y_27), .row true (.ints .i64 y_28), .row true (.ints .i64 y_42), .row true (.ints .i64 y_44), .row true (.pairs y_45), .row true (.ints .i64 y_46), .row true (.ints .i64 y_47), .row true (.ints .i64 y_49), .row true (.pairs y_50), .row true (.ints .i64 y_51), .box [.sl 32, .v (.int .i64 y_48), .sl 33, .sl 34, .sl 35]] ?_
                                            refine awp_ret ?_
                                            (try simp only [Thn, InBlk, ↓reduceIte, Nat.reduceEqDiff])
                                            obtain rfl := Option.some.inj h
                                            refine ⟨by simp, _, [0, 1, 2, 3], (by simp only [go_sem, Nat.reduceBEq, Nat.reduceLT, Nat.reduceAdd, Nat.reduceLeDiff, Nat.reduceSub, Nat.reduceEqDiff, Int.reduceToNat, reduceCtorEq, ↓reduceIte]; exact rfl), ?_, ?_, ?_, ?_⟩
                                            · first | exact trivial | exact ⟨trivial, trivial⟩ | exact ⟨trivial, trivial, trivial⟩ | exact ⟨trivial, trivial, trivial, trivial⟩ | (simp only [allP, and_true, true_and]; done) | (simp only [allP, and_true, true_and]; omega)
                                            · simp [selOk, pos]
                                            · simp
                                            · first | exact ⟨rfl, rfl⟩ | (simp only [go_sem, Nat.reduceBEq, Nat.reduceLT, Nat.reduceAdd, Nat.reduceLeDiff, Nat.reduceSub, Nat.reduceEqDiff, Int.reduceToNat, reduceCtorEq, ↓reduceIte]; done) | (simp [go_sem, Nat.reduceBEq, Nat.reduceLT, Nat.reduceAdd, Nat.reduceLeDiff, Nat.reduceSub, Nat.reduceEqDiff, Int.reduceToNat, reduceCtorEq, ↓reduceIte]; done) | (simp only [go_sem, Nat.reduceBEq, Nat.reduceLT, Nat.reduceAdd, Nat.reduceLeDiff, Nat.reduceSub, Nat.reduceEqDiff, Int.reduceToNat, reduceCtorEq, ↓reduceIte]; exact ⟨rfl, rfl⟩) | (simp_all [go_sem, Nat.reduceBEq, Nat.reduceLT, Nat.reduceAdd, Nat.reduceLeDiff, Nat.reduceSub, Nat.reduceEqDiff, Int.reduceToNat, reduceCtorEq, ↓reduceIte]; done)
                                          · replace h := bite_f h hc24
                                            refine awp_skip ?_
                                            (try simp only [Thn, InBlk, ↓reduceIte, Nat.reduceEqDiff])
                                            refine hK23 _ _ ?_
                                            clear hK23
                                            refine awp_seq fun K26 hK26 => ?_
                                            refine awp_reg ftCOk [(95, .v (.bool (y_54 != y_36)))] [.row false (.ints .i64 a0_0), .row false (.ints .i64 a0_2), .row false (.pairs a0_3), .row false (.ints .i64 a0_4), .rbox [.sl 0, .v (.int .i64 a0_1), .sl 1, .sl 2, .sl 3], .row true (.ints .i64 y_1), .row true (.ints .i64 y_3), .row true (.pairs y_4), .row true (.ints .i64 y_5), .row true (.ints .i64 y_6), .row true (.ints .i64 y_8), .row true (.pairs y_9), .row true (.ints .i64 y_10), .box [.sl 9, .v (.int .i64 y_7), .sl 10, .sl 11, .sl 12], .row true (.ints .i64 y_31), .row true (.ints .i64 y_32), .row true (.pairs y_33), .row true (.ints .i64 y_34), .box [.sl 14, .v (.int .i64 y_13), .sl 15, .sl 16, .sl 17], .row true (.ints .i64 y_37), .row true (.ints .i64 y_38), .row true (.pairs y_39), .row true (.ints .i64 y_40), .box [.sl 19, .v (.int .i64 y_18), .sl 20, .sl 21, .sl 22], .row true (.ints .i64 y_24), .row true (.ints .i64 y_26), .row true (.pairs y_27), .row true (.ints .i64 y_28), .row true (.ints .i64 y_42), .row true (.ints .i64 y_44), .row true (.pairs y_45), .row true (.ints .i64 y_46), .row true (.ints .i64 y_47), .row true (.ints .i64 y_49), .row true (.pairs y_50), .row true (.ints .i64 y_51), .box [.sl 32, .v (.int .i64 y_48), .sl 33, .sl 34, .sl 35]] ?_
                                            refine awp_cond (t := 95) rfl (fun hc27 => ?_) (fun hc27 => ?_)
                                            · replace h := bite_t h hc27
                                              refine awp_reg ftCOk [(2, .v (.bool false))] [.row false (.ints .i64 a0_0), .row false (.ints .i64 a0_2), .row false (.pairs a0_3), .row false (.ints .i64 a0_4), .rbox [.sl 0, .v (.int .i64 a0_1), .sl 1, .sl 2, .sl 3], .row true (.ints .i64 y_1), .row true (.ints .i64 y_3), .row true (.pairs y_4), .row true (.ints .i64 y_5), .row true (.ints .i64 y_6), .row true (.ints .i64 y_8), .row true (.pairs y_9), .row true (.ints .i64 y_10), .box [.sl 9, .v (.int .i64 y_7), .sl 10, .sl 11, .sl 12], .row true (.ints .i64 y_31), .row true (.ints .i64 y_32), .row true (.pairs y_33), .row true (.ints .i64 y_34), .box [.sl 14, .v (.int .i64 y_13), .sl 15, .sl 16, .sl 17], .row true (.ints .i64 y_37), .row true (.ints .i64 y_38), .row true (.pairs y_39), .row true (.ints .i64 y_40), .box [.sl 19, .v (.int .i64 y_18), .sl 20, .sl 21, .sl 22], .row true (.ints .i64 y_24), .row true (.ints .i64 y_26), .row true (.pairs y_27), .row true (.ints .i64 y_28), .row true (.ints .i64 y_42), .row true (.ints .i64 y_44), .row true (.pairs y_45), .row true (.ints .i64 y_46), .row true (.ints .i64 y_47), .row true (.ints .i64 y_49), .row true (.pairs y_50), .row true (.ints .i64 y_51), .box [.sl 32, .v (.int .i64 y_48), .sl 33, .sl 34, .sl 35]] ?_
                                              refine awp_ret ?_
                                              (try simp only [Thn, InBlk, ↓reduceIte, Nat.reduceEqDiff])
                                              obtain rfl := Option.some.inj h
                                              refine ⟨by simp, _, [0, 1, 2, 3], (by simp only [go_sem, Nat.reduceBEq, Nat.reduceLT, Nat.reduceAdd, Nat.reduceLeDiff, Nat.reduceSub, Nat.reduceEqDiff, Int.reduceToNat, reduceCtorEq, ↓reduceIte]; exact rfl), ?_, ?_, ?_, ?_⟩
                                              · first | exact trivial | exact ⟨trivial, trivial⟩ | exact ⟨trivial, trivial, trivial⟩ | exact ⟨trivial, trivial, trivial, trivial⟩ | (simp only [allP, and_true, true_and]; done) | (simp only [allP, and_true, true_and]; omega)
                                              · simp [selOk, pos]
                                              · simp
                                              · first | exact ⟨rfl, rfl⟩ | (simp only [go_sem, Nat.reduceBEq, Nat.reduceLT, Nat.reduceAdd, Nat.reduceLeDiff, Nat.reduceSub, Nat.reduceEqDiff, Int.reduceToNat, reduceCtorEq, ↓reduceIte]; done) | (simp [go_sem, Nat.reduceBEq, Nat.reduceLT, Nat.reduceAdd, Nat.reduceLeDiff, Nat.reduceSub, Nat.reduceEqDiff, Int.reduceToNat, reduceCtorEq, ↓reduceIte]; done) | (simp only [go_sem, Nat.reduceBEq, Nat.reduceLT, Nat.reduceAdd, Nat.reduceLeDiff, Nat.reduceSub, Nat.reduceEqDiff, Int.reduceToNat, reduceCtorEq, ↓reduceIte]; exact ⟨rfl, rfl⟩) | (simp_all [go_sem, Nat.reduceBEq, Nat.reduceLT, Nat.reduceAdd, Nat.reduceLeDiff, Nat.reduceSub, Nat.reduceEqDiff, Int.reduceToNat, reduceCtorEq, ↓reduceIte]; done)
                                            · replace h := bite_f h hc27
                                              refine awp_skip ?_
                                              (try simp only [Thn, InBlk, ↓reduceIte, Nat.reduceEqDiff])
                                              refine hK26 _ _ ?_
                                              clear hK26
                                              refine awp_reg ftCOk [(2, .v (.bool true))] [.row false (.ints .i64 a0_0), .row false (.ints .i64 a0_2), .row false (.pairs a0_3), .row false (.ints .i64 a0_4), .rbox [.sl 0, .v (.int .i64 a0_1), .sl 1, .sl 2, .sl 3], .row true (.ints .i64 y_1), .row true (.ints .i64 y_3), .row true (.pairs y_4), .row true (.ints .i64 y_5), .row true (.ints .i64 y_6), .row true (.ints .i64 y_8), .row true (.pairs y_9), .row true (.ints .i64 y_10), .box [.sl 9, .v (.int .i64 y_7), .sl 10, .sl 11, .sl 12], .row true (.ints .i64 y_31), .row true (.ints .i64 y_32), .row true (.pairs y_33), .row true (.ints .i64 y_34), .box [.sl 14, .v (.int .i64 y_13), .sl 15, .sl 16, .sl 17], .row true (.ints .i64 y_37), .row true (.ints .i64 y_38), .row true (.pairs y_39), .row true (.ints .i64 y_40), .box [.sl 19, .v (.int .i64 y_18), .sl 20, .sl 21, .sl 22], .row true (.ints .i64 y_24), .row true (.ints .i64 y_26), .row true (.pairs y_27), .row true (.ints .i64 y_28), .row true (.ints .i64 y_42), .row true (.ints .i64 y_44), .row true (.pairs y_45), .row true (.ints .i64 y_46), .row true (.ints .i64 y_47), .row true (.ints .i64 y_49), .row true (.pairs y_50), .row true (.ints .i64 y_51), .box [.sl 32, .v (.int .i64 y_48), .sl 33, .sl 34, .sl 35]] ?_
                                              refine awp_ret ?_
                                              (try simp only [Thn, InBlk, ↓reduceIte, Nat.reduceEqDiff])
                                              obtain rfl := Option.some.inj h
                                              refine ⟨by simp, _, [0, 1, 2, 3], (by simp only [go_sem, Nat.reduceBEq, Nat.reduceLT, Nat.reduceAdd, Nat.reduceLeDiff, Nat.reduceSub, Nat.reduceEqDiff, Int.reduceToNat, reduceCtorEq, ↓reduceIte]; exact rfl), ?_, ?_, ?_, ?_⟩
                                              · first | exact trivial | exact ⟨trivial, trivial⟩ | exact ⟨trivial, trivial, trivial⟩ | exact ⟨trivial, trivial, trivial, trivial⟩ | (simp only [allP, and_true, true_and]; done) | (simp only [allP, and_true, true_and]; omega)
                                              · simp [selOk, pos]
                                              · simp
                                              · first | exact ⟨rfl, rfl⟩ | (simp only [go_sem, Nat.reduceBEq, Nat.reduceLT, Nat.reduceAdd, Nat.reduceLeDiff, Nat.reduceSub, Nat.reduceEqDiff, Int.reduceToNat, reduceCtorEq, ↓reduceIte]; done) | (simp [go_sem, Nat.reduceBEq, Nat.reduceLT, Nat.reduceAdd, Nat.reduceLeDiff, Nat.reduceSub, Nat.reduceEqDiff, Int.reduceToNat, reduceCtorEq, ↓reduceIte]; done) | (simp only [go_sem, Nat.reduceBEq, Nat.reduceLT, Nat.reduceAdd, Nat.reduceLeDiff, Nat.reduceSub, Nat.reduceEqDiff, Int.reduceToNat, reduceCtorEq, ↓reduceIte]; exact ⟨rfl, rfl⟩) | (simp_all [go_sem, Nat.reduceBEq, Nat.reduceLT, Nat.reduceAdd, Nat.reduceLeDiff, Nat.reduceSub, Nat.reduceEqDiff, Int.reduceToNat, reduceCtorEq, ↓reduceIte]; done)
end Go.Proofs.Ytncminpafiahpaa

/- The code computes the functions that were taken out of it. -/
import Derived.Test.YtncminpafiahpaaLw2
set_option maxRecDepth 100000
set_option maxHeartbeats 4000000
set_option linter.unusedSimpArgs false
set_option linter.unusedVariables false
namespace Go.Proofs.Ytncminpafiahpaa
open Go Go.Av
attribute [local irreducible] wpA OpK awp
attribute [local go_sem] frs_nil frs_cons pw8_32 pw16_32 pw24_32 pw27_32 eqAgg eqAggV buildQ placesOf buildCells List.toList_toArray vcQg gfind gfree gput un3_agg unI_int unB_bool unK_int guardU skipV resVs resV vcD_nil vcD_cons vcT_fin vcT_free vcT_one vcT_two opS vcD1 roH roOb ftNone ftAdd oneOrTup AV.detup AV.ren AV.ren2 AV.ren1 pos selH AObj.ren fitAll fit fit1 fit1s matchAll matchOb exIds AObj.excl Env.killp pastH setAll upId AObj.past AObj.back AV.killp AV.killp1 AV.killp2 Nat.sub_self Nat.lt_irrefl Bool.or_self vcOps vcOp vcQs vcQ dstOk quiet eff pcall plain valsOf ev ofConst argEnv List.lookup Nat.add_eq decide_true decide_false Env.put binV wrapTo unV convV loadQ indexQ callQ builtinQ rd rdI globC AObj.globC partAV isAggD isArrayD addrAdd boxE storeE storeCE makeE makeNE buildNE nestZero Cont.child Cont.setChild buildSliceE buildFold appendE appendNE nestApp appendV promoteH sliceE boundAV subObj asCells Value.oneCell' contZero Cont.sets Cont.app Cont.sub Cont.len Cont.esz Cont.cell Cont.cells Cont.flat AV.det AV.det1 guardV AObj.unview AObj.kill Env.kill AV.kill AV.kill1 AV.kill2 fits64 Option.getD_some Option.getD_none Option.map_some Option.map_none Option.bind_some List.map_cons List.map_nil List.getElem?_cons_zero List.getElem?_cons_succ List.getElem?_nil true_and and_true List.getElem?_toArray List.cons_append List.nil_append List.length_cons List.length_nil List.set_cons_zero List.set_cons_succ List.take_succ_cons List.take_zero List.drop_succ_cons List.drop_zero List.drop_nil List.take_nil List.contains_cons List.contains_nil List.elem_cons List.elem_nil Bool.not_true Bool.not_false Bool.false_eq_true Bool.or_false Bool.or_true Bool.and_true Bool.and_false Bool.true_and Bool.false_and List.all_cons List.all_nil List.size_toArray Nat.lt_add_one Nat.zero_lt_succ Nat.one_ne_zero Nat.zero_ne_one and_self List.replicate_succ List.replicate_zero Int.toNat_natCast Int.toNat_zero Value.cells false_implies true_implies forall_const Thn InBlk Nat.zero_add Nat.add_zero Int.zero_add Ele Env.ren Option.some.injEq AV.v.injEq AV.sl.injEq AV.pp.injEq AV.ep.injEq AV.agg.injEq List.cons.injEq Value.int.injEq Value.bool.injEq Value.string.injEq true_or or_true or_false false_or tsz0 tby0 tz0 Try.underlying0 tsz1 tby1 tz1 Try.underlying1 tsz2 tby2 tz2 Try.underlying2 tsz3 tby3 tz3 Try.underlying3 tsz4 tby4 tz4 Try.underlying4 tsz5 tby5 tz5 Try.underlying5 tsz6 tby6 tz6 Try.underlying6 tsz7 tby7 tz7 Try.underlying7 fo7_0 fo7_1 fo7_2 fo7_3 tsz8 tby8 tz8 Try.underlying8 fo8_0 fo8_1 fo8_2 fo8_3 tsz9 tby9 Try.underlying9 tsz10 tby10 Try.underlying10 tsz12 tby12 tz12 Try.underlying12 tsz16 tby16 tz16 Try.underlying16 tsz17 tby17 tz17 Try.underlying17 tsz20 tby20 tz20 Try.underlying20 tsz21 tby21 tz21 Try.underlying21 tsz22 tby22 tz22 Try.underlying22 tsz23 tby23 tz23 Try.underlying23 fo23_0 fo23_1 tsz24 tby24 tz24 Try.underlying24 fo24_0 fo24_1 tsz26 tby26 tz26 Try.underlying26 tsz32 tby32 tz32 Try.underlying32 tsz37 tby37 tz37 Try.underlying37 tsz38 tby38 tz38 Try.underlying38 tsz39 tby39 tz39 Try.underlying39 fo39_0 fo39_1 fo39_2 fo39_3 fo39_4 tsz40 tby40 tz40 Try.underlying40 fo40_0 fo40_1 fo40_2 fo40_3 fo40_4 tsz42 tby42 tz42 Try.underlying42 tsz44 tby44 tz44 Try.underlying44 tsz48 tby48 tz48 Try.underlying48 tsz49 tby49 tz49 Try.underlying49 fo49_0 fo49_1 fo49_2 fo49_3 fo49_4 tsz50 tby50 tz50 Try.underlying50 fo50_0 fo50_1 fo50_2 fo50_3 fo50_4 tsz52 tby52 tz52 Try.underlying52 tsz56 tby56 tz56 Try.underlying56 tsz68 tby68 tz68 Try.underlying68 peq68 fo68_0 fo68_1 fo68_2 tsz75 tby75 tz75 Try.underlying75 tsz80 tby80 tz80 Try.underlying80 tsz93 tby93 tz93 Try.underlying93 tsz97 tby97 tz97 Try.underlying97 peq97 fo97_0 fo97_1 tsz98 tby98 tz98 Try.underlying98 peq98 fo98_0 fo98_1 tsz116 tby116 tz116 Try.underlying116 tsz119 tby119 tz119 Try.underlying119 peq119 fo119_0 fo119_1 fo119_2 tsz123 tby123 tz123 Try.underlying123 fo123_0 fo123_1 tsz124 tby124 tz124 Try.underlying124 fo124_0 fo124_1 tsz127 tby127 tz127 Try.underlying127 tsz129 tby129 tz129 Try.underlying129 peq129 fo129_0 fo129_1 tsz148 tby148 tz148 Try.underlying148 tsz149 tby149 tz149 Try.underlying149 tsz150 tby150 tz150 Try.underlying150 tsz152 tby152 tz152 Try.underlying152 tsz153 tby153 tz153 Try.underlying153 tsz154 tby154 tz154 Try.underlying154 tsz155 tby155 tz155 Try.underlying155 tsz156 tby156 tz156 Try.underlying156 tsz157 tby157 tz157 Try.underlying157 tsz158 tby158 tz158 Try.underlying158 fo158_0 fo158_1 fo158_2 fo158_3 fo158_4 fo158_5 fo158_6 fo158_7 fo158_8 fo158_9 fo158_10 tsz159 tby159 tz159 Try.underlying159 fo159_0 fo159_1 fo159_2 fo159_3 fo159_4 fo159_5 fo159_6 fo159_7 fo159_8 fo159_9 fo159_10 tsz160 tby160 tz160 Try.underlying160 l1InG ftC
theorem k_impl_Channel_do (a0_0 : List Int) (a0_1 : Int) (a0_2 : List Int) (a0_3 : List (Int × Int)) (a0_4 : List Int) (a1 : Int) {r : Bool × Int × List Int × (List (Int × Int)) × List Int} (h : impl_Channel_do a0_0 a0_1 a0_2 a0_3 a0_4 a1 = some r) :
    FnA Try.prog 78 [.pp 0 0, .v (.int .i64 a1)] [.box [.sl 1, .v (.int .i64 a0_1), .sl 2, .sl 3, .sl 4], .row false (.ints .i64 a0_0), .row true (.ints .i64 a0_2), .row true (.pairs a0_3), .row true (.ints .i64 a0_4)] [] (fun x H => x = .v (.bool r.1) ∧ H = [.box [.sl 1, .v (.int .i64 r.2.1), .sl 5, .sl 6, .sl 7], .row false (.ints .i64 a0_0), .dead, .dead, .dead, .row true (.ints .i64 r.2.2.1), .row true (.pairs r.2.2.2.1), .row true (.ints .i64 r.2.2.2.2)]) := by
  unfold impl_Channel_do at h
  refine FnA.of (N := 28) (pin := [0, 1, 2, 3, 4]) (rs := [.tmp 4]) Try.func78 rfl en78 rfl rfl (by simp) (by simp; try omega) ?_
  refine awp_move 2 [(0, .pp 0 0), (1, .v (.int .i64 a1))] [.box [.sl 1, .v (.int .i64 a0_1), .sl 5, .sl 3, .sl 4], .row false (.ints .i64 a0_0), .dead, .row true (.pairs a0_3), .row true (.ints .i64 a0_4), .row true (.ints .i64 a0_2)] (by rfl) (by rfl) (by exact rfl) ?_
  refine awp_move 3 [(0, .pp 0 0), (1, .v (.int .i64 a1))] [.box [.sl 1, .v (.int .i64 a0_1), .sl 5, .sl 6, .sl 4], .row false (.ints .i64 a0_0), .dead, .dead, .row true (.ints .i64 a0_4), .row true (.ints .i64 a0_2), .row true (.pairs a0_3)] (by rfl) (by rfl) (by exact rfl) ?_
  refine awp_move 4 [(0, .pp 0 0), (1, .v (.int .i64 a1))] [.box [.sl 1, .v (.int .i64 a0_1), .sl 5, .sl 6, .sl 7], .row false (.ints .i64 a0_0), .dead, .dead, .dead, .row true (.ints .i64 a0_2), .row true (.pairs a0_3), .row true (.ints .i64 a0_4)] (by rfl) (by rfl) (by exact rfl) ?_
  refine awp_reg ftCOk [(0, .pp 0 0), (1, .v (.int .i64 a1))] [.box [.sl 1, .v (.int .i64 a0_1), .sl 5, .sl 6, .sl 7], .row false (.ints .i64 a0_0), .dead, .dead, .dead, .row true (.ints .i64 a0_2), .row true (.pairs a0_3), .row true (.ints .i64 a0_4)] ?_
  refine awp_seq fun K13 hK13 => ?_
  refine awp_reg ftCOk [(0, .pp 0 0), (1, .v (.int .i64 a1)), (5, .v (.int .i64 a1))] [.box [.sl 1, .v (.int .i64 a0_1), .sl 5, .sl 6, .sl 7], .row false (.ints .i64 a0_0), .dead, .dead, .dead, .row true (.ints .i64 a0_2), .row true (.pairs a0_3), .row true (.ints .i64 a0_4)] ?_
  refine awp_block ?_
  refine awp_reg ftCOk [(0, .pp 0 0), (1, .v (.int .i64 a1)), (5, .v (.int .i64 a1)), (6, .v (.bool (a1 == 0)))] [.box [.sl 1, .v (.int .i64 a0_1), .sl 5, .sl 6, .sl 7], .row false (.ints .i64 a0_0), .dead, .dead, .dead, .row true (.ints .i64 a0_2), .row true (.pairs a0_3), .row true (.ints .i64 a0_4)] ?_
  refine awp_cond (t := 6) rfl (fun hc14 => ?_) (fun hc14 => ?_)
  · replace h := bite_t h hc14
    replace h := bind_some h
    obtain ⟨⟨y, y_1⟩, hr0, h⟩ := h
    try dsimp only at h
    refine awp_to [(4, .v (.bool y))] [.box [.sl 1, .v (.int .i64 a0_1), .sl 5, .sl 8, .sl 7], .row false (.ints .i64 a0_0), .dead, .dead, .dead, .row true (.ints .i64 a0_2), .dead, .row true (.ints .i64 a0_4), .row true (.pairs y_1)] ?_ ?_
    · clear h
      intro K hK
      refine awp_region ftCOk ?_
      simp (maxSteps := 4000000) only [go_sem, Nat.reduceBEq, Nat.reduceLT, Nat.reduceAdd, Nat.reduceLeDiff, Nat.reduceSub, Nat.reduceEqDiff, Int.reduceToNat, reduceCtorEq, ↓reduceIte]
      repeat' (first | refine And.intro ?_ ?_ | intro hg)
      all_goals (try simp (disch := omega) only [wrap_fits])
      all_goals first
        | (refine hK _ _ ?_; exact Red.auto)
        | exact trivial
        | assumption
        | omega
        | exact wrap_fits (by omega) (by omega)
        | (refine wpA_callA (k_impl_Channel_send a0_0 a0_1 a0_2 a0_3 a0_4 (h := hr0)) [0, 1, 5, 6, 7] [] ?_
           rintro x Hc' ⟨rfl, rfl⟩ hlen
           refine vcOps_sound ftCOk ?_
           simp (maxSteps := 4000000) only [go_sem, Nat.reduceBEq, Nat.reduceLT, Nat.reduceAdd, Nat.reduceLeDiff, Nat.reduceSub, Nat.reduceEqDiff, Int.reduceToNat, reduceCtorEq, ↓reduceIte]
           repeat' (first | refine And.intro ?_ ?_ | intro hg)
           all_goals (try simp (disch := omega) only [wrap_fits])
           all_goals first
             | (refine hK _ _ ?_; exact Red.auto)
             | exact trivial
             | assumption
             | omega
             | exact wrap_fits (by omega) (by omega)
             | (simp_all; done)
             | (simp_all; omega))
        | (simp_all; done)
        | (simp_all; omega)
    · clear hr0
      refine awp_ret ?_
      (try simp only [Thn, InBlk, ↓reduceIte, Nat.reduceEqDiff])
      obtain rfl := Option.some.inj h
      refine ⟨by simp, _, [0, 1, 2, 3, 4, 5, 8, 7], (by simp only [go_sem, Nat.reduceBEq, Nat.reduceLT, Nat.reduceAdd, Nat.reduceLeDiff, Nat.reduceSub, Nat.reduceEqDiff, Int.reduceToNat, reduceCtorEq, ↓reduceIte]; exact rfl), ?_, ?_, ?_, ?_⟩
      · first | exact trivial | exact ⟨trivial, trivial⟩ | exact ⟨trivial, trivial, trivial⟩ | exact ⟨trivial, trivial, trivial, trivial⟩ | (simp only [allP, and_true, true_and]; done) | (simp only [allP, and_true, true_and]; omega)
      · simp [selOk, pos]
      · simp
      · first | exact ⟨rfl, rfl⟩ | (simp only [go_sem, Nat.reduceBEq, Nat.reduceLT, Nat.reduceAdd, Nat.reduceLeDiff, Nat.reduceSub, Nat.reduceEqDiff, Int.reduceToNat, reduceCtorEq, ↓reduceIte]; done) | (simp [go_sem, Nat.reduceBEq, Nat.reduceLT, Nat.reduceAdd, Nat.reduceLeDiff, Nat.reduceSub, Nat.reduceEqDiff, Int.reduceToNat, reduceCtorEq, ↓reduceIte]; done) | (simp only [go_sem, Nat.reduceBEq, Nat.reduceLT, Nat.reduceAdd, Nat.reduceLeDiff, Nat.reduceSub, Nat.reduceEqDiff, Int.reduceToNat, reduceCtorEq, ↓reduceIte]; exact ⟨rfl, rfl⟩) | (simp_all [go_sem, Nat.reduceBEq, Nat.reduceLT, Nat.reduceAdd, Nat.reduceLeDiff, Nat.reduceSub, Nat.reduceEqDiff, Int.reduceToNat, reduceCtorEq, ↓reduceIte]; done)
  · replace h := bite_f h hc14
    refine awp_join h (fun (t10 : Bool) => [(0, .pp 0 0), (1, .v (.int .i64 a1)), (5, .v (.int .i64 a1)), (10, .v (.bool t10))]) (fun (t10 : Bool) => [.box [.sl 1, .v (.int .i64 a0_1), .sl 5, .sl 6, .sl 7], .row false (.ints .i64 a0_0), .dead, .dead, .dead, .row true (.ints .i64 a0_2), .row true (.pairs a0_3), .row true (.ints .i64 a0_4)]) ?_ ?_
    · clear h
      intro k h
      try dsimp only at h
      refine awp_reg ftCOk [(0, .pp 0 0), (1, .v (.int .i64 a1)), (5, .v (.int .i64 a1)), (10, .v (.bool (a1 == 1)))] [.box [.sl 1, .v (.int .i64 a0_1), .sl 5, .sl 6, .sl 7], .row false (.ints .i64 a0_0), .dead, .dead, .dead, .row true (.ints .i64 a0_2), .row true (.pairs a0_3), .row true (.ints .i64 a0_4)] ?_
      refine awp_cond (t := 10) rfl (fun hc18 => ?_) (fun hc18 => ?_)
      · replace h := bite_t h hc18
        refine awp_skip ?_
        (try simp only [Thn, InBlk, ↓reduceIte, Nat.reduceEqDiff])
        refine ⟨_, h, ?_⟩
        exact Red.auto
      · replace h := bite_f h hc18
        refine awp_reg ftCOk [(0, .pp 0 0), (1, .v (.int .i64 a1)), (5, .v (.int .i64 a1)), (10, .v (.bool (a1 == 2)))] [.box [.sl 1, .v (.int .i64 a0_1), .sl 5, .sl 6, .sl 7], .row false (.ints .i64 a0_0), .dead, .dead, .dead, .row true (.ints .i64 a0_2), .row true (.pairs a0_3), .row true (.ints .i64 a0_4)] ?_
        refine awp_cond (t := 10) rfl (fun hc19 => ?_) (fun hc19 => ?_)
        · replace h := bite_t h hc19
          refine awp_skip ?_
          (try simp only [Thn, InBlk, ↓reduceIte, Nat.reduceEqDiff])
          refine ⟨_, h, ?_⟩
          exact Red.auto
        · replace h := bite_f h hc19
          refine awp_reg ftCOk [(0, .pp 0 0), (1, .v (.int .i64 a1)), (5, .v (.int .i64 a1)), (10, .v (.bool (a1 == 3)))] [.box [.sl 1, .v (.int .i64 a0_1), .sl 5, .sl 6, .sl 7], .row false (.ints .i64 a0_0), .dead, .dead, .dead, .row true (.ints .i64 a0_2), .row true (.pairs a0_3), .row true (.ints .i64 a0_4)] ?_
          refine awp_cond (t := 10) rfl (fun hc20 => ?_) (fun hc20 => ?_)
          · replace h := bite_t h hc20
            refine awp_skip ?_
            (try simp only [Thn, InBlk, ↓reduceIte, Nat.reduceEqDiff])
            refine ⟨_, h, ?_⟩
            exact Red.auto
          · replace h := bite_f h hc20
            refine awp_regE ftCOk [(0, .pp 0 0), (1, .v (.int .i64 a1)), (5, .v (.int .i64 a1)), (10, .v (.bool (a1 == 4)))] [.box [.sl 1, .v (.int .i64 a0_1), .sl 5, .sl 6, .sl 7], .row false (.ints .i64 a0_0), .dead, .dead, .dead, .row true (.ints .i64 a0_2), .row true (.pairs a0_3), .row true (.ints .i64 a0_4)] ?_
            (try simp only [Thn, InBlk, ↓reduceIte, Nat.reduceEqDiff])
            refine ⟨_, h, ?_⟩
            exact Red.auto
    · clear h
      rintro t10 h
      try dsimp only at h
      try dsimp only
      refine awp_cond (t := 10) rfl (fun hc21 => ?_) (fun hc21 => ?_)
      · replace h := bite_t h hc21
        replace h := bind_some h
        obtain ⟨⟨y_2, y_3, y_4⟩, hr0, h⟩ := h
        try dsimp only at h
        refine awp_to [(4, .v (.bool y_2))] [.box [.sl 1, .v (.int .i64 a0_1), .sl 8, .sl 9, .sl 7], .row false (.ints .i64 a0_0), .dead, .dead, .dead, .dead, .dead, .row true (.ints .i64 a0_4), .row true (.ints .i64 y_3), .row true (.pairs y_4)] ?_ ?_
        · clear h
          intro K hK
          refine awp_region ftCOk ?_
          simp (maxSteps := 4000000) only [go_sem, Nat.reduceBEq, Nat.reduceLT, Nat.reduceAdd, Nat.reduceLeDiff, Nat.reduceSub, Nat.reduceEqDiff, Int.reduceToNat, reduceCtorEq, ↓reduceIte]
          repeat' (first | refine And.intro ?_ ?_ | intro hg)
          all_goals (try simp (disch := omega) only [wrap_fits])
          all_goals first
            | (refine hK _ _ ?_; exact Red.auto)
            | exact trivial
            | assumption
            | omega
            | exact wrap_fits (by omega) (by omega)
            | (refine wpA_callA (k_impl_Channel_packetStep a0_0 a0_1 a0_2 a0_3 a0_4 a1 (h := hr0)) [0, 1, 5, 6, 7] [] ?_
               rintro x Hc' ⟨rfl, rfl⟩ hlen
               refine vcOps_sound ftCOk ?_
               simp (maxSteps := 4000000) only [go_sem, Nat.reduceBEq, Nat.reduceLT, Nat.reduceAdd, Nat.reduceLeDiff, Nat.reduceSub, Nat.reduceEqDiff, Int.reduceToNat, reduceCtorEq, ↓reduceIte]
               repeat' (first | refine And.intro ?_ ?_ | intro hg)
               all_goals (try simp (disch := omega) only [wrap_fits])
               all_goals first
                 | (refine hK _ _ ?_; exact Red.auto)
                 | exact trivial
                 | assumption
                 | omega
                 | exact wrap_fits (by omega) (by omega)
                 | (simp_all; done)
                 | (simp_all; omega))
            | (simp_all; done)
            | (simp_all; omega)
        · clear hr0
          refine awp_ret ?_
          (try simp only [Thn, InBlk, ↓reduceIte, Nat.reduceEqDiff])
          obtain rfl := Option.some.inj h
          refine ⟨by simp, _, [0, 1, 2, 3, 4, 8, 9, 7], (by simp only [go_sem, Nat.reduceBEq, Nat.reduceLT, Nat.reduceAdd, Nat.reduceLeDiff, Nat.reduceSub, Nat.reduceEqDiff, Int.reduceToNat, reduceCtorEq, ↓reduceIte]; exact rfl), ?_, ?_, ?_, ?_⟩
          · first | exact trivial | exact ⟨trivial, trivial⟩ | exact ⟨trivial, trivial, trivial⟩ | exact ⟨trivial, trivial, trivial, trivial⟩ | (simp only [allP, and_true, true_and]; done) | (simp only [allP, and_true, true_and]; omega)
          · simp [selOk, pos]
          · simp
          · first | exact ⟨rfl, rfl⟩ | (simp only [go_sem, Nat.reduceBEq, Nat.reduceLT, Nat.reduceAdd, Nat.reduceLeDiff, Nat.reduceSub, Nat.reduceEqDiff, Int.reduceToNat, reduceCtorEq, ↓reduceIte]; done) | (simp [go_sem, Nat.reduceBEq, Nat.reduceLT, Nat.reduceAdd, Nat.reduceLeDiff, Nat.reduceSub, Nat.reduceEqDiff, Int.reduceToNat, reduceCtorEq, ↓reduceIte]; done) | (simp only [go_sem, Nat.reduceBEq, Nat.reduceLT, Nat.reduceAdd, Nat.reduceLeDiff, Nat.reduceSub, Nat.reduceEqDiff, Int.reduceToNat, reduceCtorEq, ↓reduceIte]; exact ⟨rfl, rfl⟩) | (simp_all [go_sem, Nat.reduceBEq, Nat.reduceLT, Nat.reduceAdd, Nat.reduceLeDiff, Nat.reduceSub, Nat.reduceEqDiff, Int.reduceToNat, reduceCtorEq, ↓reduceIte]; done)
      · replace h := bite_f h hc21
        refine awp_reg ftCOk [(0, .pp 0 0), (1, .v (.int .i64 a1)), (5, .v (.int .i64 a1)), (18, .v (.bool (a1 == 5)))] [.box [.sl 1, .v (.int .i64 a0_1), .sl 5, .sl 6, .sl 7], .row false (.ints .i64 a0_0), .dead, .dead, .dead, .row true (.ints .i64 a0_2), .row true (.pairs a0_3), .row true (.ints .i64 a0_4)] ?_
        refine awp_cond (t := 18) rfl (fun hc22 => ?_) (fun hc22 => ?_)
        · replace h := bite_t h hc22
          replace h := bind_some h
          obtain ⟨⟨y_5, y_6⟩, hr0, h⟩ := h
          try dsimp only at h
          refine awp_to [(4, .v (.bool y_5))] [.box [.sl 1, .v (.int .i64 a0_1), .sl 5, .sl 6, .sl 8], .row false (.ints .i64 a0_0), .dead, .dead, .dead, .row true (.ints .i64 a0_2), .row true (.pairs a0_3), .dead, .row true (.ints .i64 y_6)] ?_ ?_
          · clear h
            intro K hK
            refine awp_region ftCOk ?_
            simp (maxSteps := 4000000) only [go_sem, Nat.reduceBEq, Nat.reduceLT, Nat.reduceAdd, Nat.reduceLeDiff, Nat.reduceSub, Nat.reduceEqDiff, Int.reduceToNat, reduceCtorEq, ↓reduceIte]
            repeat' (first | refine And.intro ?_ ?_ | intro hg)
            all_goals (try simp (disch := omega) only [wrap_fits])
            all_goals first
              | (refine hK _ _ ?_; exact Red.auto)
              | exact trivial
              | assumption
              | omega
              | exact wrap_fits (by omega) (by omega)
              | (refine wpA_callA (k_impl_Channel_receipt a0_0 a0_1 a0_2 a0_3 a0_4 (h := hr0)) [0, 1, 5, 6, 7] [] ?_
                 rintro x Hc' ⟨rfl, rfl⟩ hlen
                 refine vcOps_sound ftCOk ?_
                 simp (maxSteps := 4000000) only [go_sem, Nat.reduceBEq, Nat.reduceLT, Nat.reduceAdd, Nat.reduceLeDiff, Nat.reduceSub, Nat.reduceEqDiff, Int.reduceToNat, reduceCtorEq, ↓reduceIte]
                 repeat' (first | refine And.intro ?_ ?_ | intro hg)
                 all_goals (try simp (disch := omega) only [wrap_fits])
                 all_goals first
                   | (refine hK _ _ ?_; exact Red.auto)
                   | exact trivial
                   | assumption
                   | omega
                   | exact wrap_fits (by omega) (by omega)
                   | (simp_all; done)
                   | (simp_all; omega))
              | (simp_all; done)
              | (simp_all; omega)
          · clear hr0
            refine awp_ret ?_
            (try simp only [Thn, InBlk, ↓reduceIte, Nat.reduceEqDiff])
            obtain rfl := Option.some.inj h
            refine ⟨by simp, _, [0, 1, 2, 3, 4, 5, 6, 8], (by simp only [go_sem, Nat.reduceBEq, Nat.reduceLT, Nat.reduceAdd, Nat.reduceLeDiff, Nat.reduceSub, Nat.reduceEqDiff, Int.reduceToNat, reduceCtorEq, ↓reduceIte]; exact rfl), ?_, ?_, ?_, ?_⟩
            · first | exact trivial | exact ⟨trivial, trivial⟩ | exact ⟨trivial, trivial, trivial⟩ | exact ⟨trivial, trivial, trivial, trivial⟩ | (simp only [allP, and_true, true_and]; done) | (simp only [allP, and_true, true_and]; omega)
            · simp [selOk, pos]
            · simp
            · first | exact ⟨rfl, rfl⟩ | (simp only [go_sem, Nat.reduceBEq, Nat.reduceLT, Nat.reduceAdd, Nat.reduceLeDiff, Nat.reduceSub, Nat.reduceEqDiff, Int.reduceToNat, reduceCtorEq, ↓reduceIte]; done) | (simp [go_sem, Nat.reduceBEq, Nat.reduceLT, Nat.reduceAdd, Nat.reduceLeDiff, Nat.reduceSub, Nat.reduceEqDiff, Int.reduceToNat, reduceCtorEq, ↓reduceIte]; done) | (simp only [go_sem, Nat.reduceBEq, Nat.reduceLT, Nat.reduceAdd, Nat.reduceLeDiff, Nat.reduceSub, Nat.reduceEqDiff, Int.reduceToNat, reduceCtorEq, ↓reduceIte]; exact ⟨rfl, rfl⟩) | (simp_all [go_sem, Nat.reduceBEq, Nat.reduceLT, Nat.reduceAdd, Nat.reduceLeDiff, Nat.reduceSub, Nat.reduceEqDiff, Int.reduceToNat, reduceCtorEq, ↓reduceIte]; done)
        · replace h := bite_f h hc22
          refine awp_join h (fun (t22 : Bool) => [(0, .pp 0 0), (1, .v (.int .i64 a1)), (22, .v (.bool t22))]) (fun (t22 : Bool) => [.box [.sl 1, .v (.int .i64 a0_1), .sl 5, .sl 6, .sl 7], .row false (.ints .i64 a0_0), .dead, .dead, .dead, .row true (.ints .i64 a0_2), .row true (.pairs a0_3), .row true (.ints .i64 a0_4)]) ?_ ?_
          · clear h
            intro k_1 h
            try dsimp only at h
            refine awp_reg ftCOk [(0, .pp 0 0), (1, .v (.int .i64 a1)), (5, .v (.int .i64 a1)), (22, .v (.bool (a1 == 6)))] [.box [.sl 1, .v (.int .i64 a0_1), .sl 5, .sl 6, .sl 7], .row false (.ints .i64 a0_0), .dead, .dead, .dead, .row true (.ints .i64 a0_2), .row true (.pairs a0_3), .row true (.ints .i64 a0_4)] ?_
            refine awp_cond (t := 22) rfl (fun hc24 => ?_) (fun hc24 => ?_)
            · replace h := bite_t h hc24
              refine awp_skip ?_
              (try simp only [Thn, InBlk, ↓reduceIte, Nat.reduceEqDiff])
              refine ⟨_, h, ?_⟩
              exact Red.auto
            · replace h := bite_f h hc24
              refine awp_regE ftCOk [(0, .pp 0 0), (1, .v (.int .i64 a1)), (22, .v (.bool (a1 == 7)))] [.box [.sl 1, .v (.int .i64 a0_1), .sl 5, .sl 6, .sl 7], .row false (.ints .i64 a0_0), .dead, .dead, .dead, .row true (.ints .i64 a0_2), .row true (.pairs a0_3), .row true (.ints .i64 a0_4)] ?_
              (try simp only [Thn, InBlk, ↓reduceIte, Nat.reduceEqDiff])
              refine ⟨_, h, ?_⟩
              exact Red.auto
          · clear h
            rintro t22 h
            try dsimp only at h
            try dsimp only
            refine awp_cond (t := 22) rfl (fun hc25 => ?_) (fun hc25 => ?_)
            · replace h := bite_t h hc25
              replace h := bind_some h
              obtain ⟨⟨y_7, y_8, y_9⟩, hr0, h⟩ := h
              try dsimp only at h
              refine awp_to [(4, .v (.bool y_7))] [.box [.sl 1, .v (.int .i64 y_8), .sl 5, .sl 6, .sl 8], .row false (.ints .i64 a0_0), .dead, .dead, .dead, .row true (.ints .i64 a0_2), .row true (.pairs a0_3), .dead, .row true (.ints .i64 y_9)] ?_ ?_
              · clear h
                intro K hK
                refine awp_region ftCOk ?_
                simp (maxSteps := 4000000) only [go_sem, Nat.reduceBEq, Nat.reduceLT, Nat.reduceAdd, Nat.reduceLeDiff, Nat.reduceSub, Nat.reduceEqDiff, Int.reduceToNat, reduceCtorEq, ↓reduceIte]
                repeat' (first | refine And.intro ?_ ?_ | intro hg)
                all_goals (try simp (disch := omega) only [wrap_fits])
                all_goals first
                  | (refine hK _ _ ?_; exact Red.auto)
                  | exact trivial
                  | assumption
                  | omega
                  | exact wrap_fits (by omega) (by omega)
                  | (refine wpA_callA (k_impl_Channel_receiptStep a0_0 a0_1 a0_2 a0_3 a0_4 a1 (h := hr0)) [0, 1, 5, 6, 7] [] ?_
                     rintro x Hc' ⟨rfl, rfl⟩ hlen
                     refine vcOps_sound ftCOk ?_
                     simp (maxSteps := 4000000) only [go_sem, Nat.reduceBEq, Nat.reduceLT, Nat.reduceAdd, Nat.reduceLeDiff, Nat.reduceSub, Nat.reduceEqDiff, Int.reduceToNat, reduceCtorEq, ↓reduceIte]
                     repeat' (first | refine And.intro ?_ ?_ | intro hg)
                     all_goals (try simp (disch := omega) only [wrap_fits])
                     all_goals first
                       | (refine hK _ _ ?_; exact Red.auto)
                       | exact trivial
                       | assumption
                       | omega
                       | exact wrap_fits (by omega) (by omega)
                       | (simp_all; done)
                       | (simp_all; omega))
                  | (simp_all; done)
                  | (simp_all; omega)
              · clear hr0
                refine awp_ret ?_
                (try simp only [Thn, InBlk, ↓reduceIte, Nat.reduceEqDiff])
                obtain rfl := Option.some.inj h
                refine ⟨by simp, _, [0, 1, 2, 3, 4, 5, 6, 8], (by simp only [go_sem, Nat.reduceBEq, Nat.reduceLT, Nat.reduceAdd, Nat.reduceLeDiff, Nat.reduceSub, Nat.reduceEqDiff, Int.reduceToNat, reduceCtorEq, ↓reduceIte]; exact rfl), ?_, ?_, ?_, ?_⟩
                · first | exact trivial | exact ⟨trivial, trivial⟩ | exact ⟨trivial, trivial, trivial⟩ | exact ⟨trivial, trivial, trivial, trivial⟩ | (simp only [allP, and_true, true_and]; done) | (simp only [allP, and_true, true_and]; omega)
                · simp [selOk, pos]
                · simp
                · first | exact ⟨rfl, rfl⟩ | (simp only [go_sem, Nat.reduceBEq, Nat.reduceLT, Nat.reduceAdd, Nat.reduceLeDiff, Nat.reduceSub, Nat.reduceEqDiff, Int.reduceToNat, reduceCtorEq, ↓reduceIte]; done) | (simp [go_sem, Nat.reduceBEq, Nat.reduceLT, Nat.reduceAdd, Nat.reduceLeDiff, Nat.reduceSub, Nat.reduceEqDiff, Int.reduceToNat, reduceCtorEq, ↓reduceIte]; done) | (simp only [go_sem, Nat.reduceBEq, Nat.reduceLT, Nat.reduceAdd, Nat.reduceLeDiff, Nat.reduceSub, Nat.reduceEqDiff, Int.reduceToNat, reduceCtorEq, ↓reduceIte]; exact ⟨rfl, rfl⟩) | (simp_all [go_sem, Nat.reduceBEq, Nat.reduceLT, Nat.reduceAdd, Nat.reduceLeDiff, Nat.reduceSub, Nat.reduceEqDiff, Int.reduceToNat, reduceCtorEq, ↓reduceIte]; done)
            · replace h := bite_f h hc25
              refine awp_skip ?_
              (try simp only [Thn, InBlk, ↓reduceIte, Nat.reduceEqDiff])
              (try simp only [Thn, InBlk, ↓reduceIte, Nat.reduceEqDiff])
              refine hK13 _ _ ?_
              clear hK13
              refine awp_reg ftCOk [(4, .v (.bool false))] [.box [.sl 1, .v (.int .i64 a0_1), .sl 5, .sl 6, .sl 7], .row false (.ints .i64 a0_0), .dead, .dead, .dead, .row true (.ints .i64 a0_2), .row true (.pairs a0_3), .row true (.ints .i64 a0_4)] ?_
              refine awp_ret ?_
              (try simp only [Thn, InBlk, ↓reduceIte, Nat.reduceEqDiff])
              obtain rfl := Option.some.inj h
              refine ⟨by simp, _, [0, 1, 2, 3, 4, 5, 6, 7], (by simp only [go_sem, Nat.reduceBEq, Nat.reduceLT, Nat.reduceAdd, Nat.reduceLeDiff, Nat.reduceSub, Nat.reduceEqDiff, Int.reduceToNat, reduceCtorEq, ↓reduceIte]; exact rfl), ?_, ?_, ?_, ?_⟩
              · first | exact trivial | exact ⟨trivial, trivial⟩ | exact ⟨trivial, trivial, trivial⟩ | exact ⟨trivial, trivial, trivial, trivial⟩ | (simp only [allP, and_true, true_and]; done) | (simp only [allP, and_true, true_and]; omega)
              · simp [selOk, pos]
              · simp
              · first | exact ⟨rfl, rfl⟩ | (simp only [go_sem, Nat.reduceBEq, Nat.reduceLT, Nat.reduceAdd, Nat.reduceLeDiff, Nat.reduceSub, Nat.reduceEqDiff, Int.reduceToNat, reduceCtorEq, ↓reduceIte]; done) | (simp [go_sem, Nat.reduceBEq, Nat.reduceLT, Nat.reduceAdd, Nat.reduceLeDiff, Nat.reduceSub, Nat.reduceEqDiff, Int.reduceToNat, reduceCtorEq, ↓reduceIte]; done) | (simp only [go_sem, Nat.reduceBEq, Nat.reduceLT, Nat.reduceAdd, Nat.reduceLeDiff, Nat.reduceSub, Nat.reduceEqDiff, Int.reduceToNat, reduceCtorEq, ↓reduceIte]; exact ⟨rfl, rfl⟩) | (simp_all [go_sem, Nat.reduceBEq, Nat.reduceLT, Nat.reduceAdd, Nat.reduceLeDiff, Nat.reduceSub, Nat.reduceEqDiff, Int.reduceToNat, reduceCtorEq, ↓reduceIte]; done)
theorem k_impl_Channel_quiet (a0_0 : List Int) (a0_1 : Int) (a0_2 : List Int) (a0_3 : List (Int × Int)) (a0_4 : List Int) {r : Int × List Int × (List (Int × Int)) × List Int} (h : impl_Channel_quiet a0_0 a0_1 a0_2 a0_3 a0_4 = some r) :
    FnA Try.prog 76 [.pp 0 0] [.box [.sl 1, .v (.int .i64 a0_1), .sl 2, .sl 3, .sl 4], .row false (.ints .i64 a0_0), .row true (.ints .i64 a0_2), .row true (.pairs a0_3), .row true (.ints .i64 a0_4)] [] (fun x H => x = .tup [] ∧ H = [.box [.sl 1, .v (.int .i64 r.1), .sl 5, .sl 6, .sl 7], .row false (.ints .i64 a0_0), .dead, .dead, .dead, .row true (.ints .i64 r.2.1), .row true (.pairs r.2.2.1), .row true (.ints .i64 r.2.2.2)]) := by
  unfold impl_Channel_quiet at h
  refine FnA.of (N := 6) (pin := [0, 1, 2, 3, 4]) (rs := []) Try.func76 rfl en76 rfl rfl (by simp) (by simp; try omega) ?_
  refine awp_move 2 [(0, .pp 0 0)] [.box [.sl 1, .v (.int .i64 a0_1), .sl 5, .sl 3, .sl 4], .row false (.ints .i64 a0_0), .dead, .row true (.pairs a0_3), .row true (.ints .i64 a0_4), .row true (.ints .i64 a0_2)] (by rfl) (by rfl) (by exact rfl) ?_
  refine awp_move 3 [(0, .pp 0 0)] [.box [.sl 1, .v (.int .i64 a0_1), .sl 5, .sl 6, .sl 4], .row false (.ints .i64 a0_0), .dead, .dead, .row true (.ints .i64 a0_4), .row true (.ints .i64 a0_2), .row true (.pairs a0_3)] (by rfl) (by rfl) (by exact rfl) ?_
  refine awp_move 4 [(0, .pp 0 0)] [.box [.sl 1, .v (.int .i64 a0_1), .sl 5, .sl 6, .sl 7], .row false (.ints .i64 a0_0), .dead, .dead, .dead, .row true (.ints .i64 a0_2), .row true (.pairs a0_3), .row true (.ints .i64 a0_4)] (by rfl) (by rfl) (by exact rfl) ?_
  refine awp_seq fun K11 hK11 => ?_
  refine awp_block ?_
  replace h := bind_some h
  obtain ⟨x21, hx, h⟩ := h
  refine awp_loopL hx (fun ((p0_1, p0_2s, p0_3s, p0_4s) : Int × List Int × (List (Int × Int)) × List Int) => [(0, .pp 0 0)]) (fun ((p0_1, p0_2s, p0_3s, p0_4s) : Int × List Int × (List (Int × Int)) × List Int) => [.box [.sl 1, .v (.int .i64 p0_1), .sl 5, .sl 6, .sl 7], .row false (.ints .i64 a0_0), .dead, .dead, .dead, .row true (.ints .i64 p0_2s), .row true (.pairs p0_3s), .row true (.ints .i64 p0_4s)]) (fun ((p0_1_1, p0_2s_1, p0_3s_1, p0_4s_1) : Int × List Int × (List (Int × Int)) × List Int) => Exit.exit 0) (fun ((p0_1_1, p0_2s_1, p0_3s_1, p0_4s_1) : Int × List Int × (List (Int × Int)) × List Int) => [(0, .pp 0 0)]) (fun ((p0_1_1, p0_2s_1, p0_3s_1, p0_4s_1) : Int × List Int × (List (Int × Int)) × List Int) => [.box [.sl 1, .v (.int .i64 p0_1_1), .sl 5, .sl 6, .sl 7], .row false (.ints .i64 a0_0), .dead, .dead, .dead, .row true (.ints .i64 p0_2s_1), .row true (.pairs p0_3s_1), .row true (.ints .i64 p0_4s_1)]) ?_ ?_ ?_ ?_
  · rintro ⟨p0_1_1, p0_2s_1, p0_3s_1, p0_4s_1⟩ hy <;> cases hy
  · clear h hx
    exact Red.auto
  · clear h hx
    rintro ⟨p0_1, p0_2s, p0_3s, p0_4s⟩ r h
    unfold impl_Channel_quiet_b0 at h
    try dsimp only at h
    try dsimp only
    refine awp_seq fun K19 hK19 => ?_
    replace h := bind_some h
    obtain ⟨⟨y, y_1, y_2, y_3, y_4⟩, hr0, h⟩ := h
    try dsimp only at h
    refine awp_to [(0, .pp 0 0), (3, .v (.bool y))] [.box [.sl 1, .v (.int .i64 y_1), .sl 8, .sl 9, .sl 10], .row false (.ints .i64 a0_0), .dead, .dead, .dead, .dead, .dead, .dead, .row true (.ints .i64 y_2), .row true (.pairs y_3), .row true (.ints .i64 y_4)] ?_ ?_
    · clear h
      intro K hK
      refine awp_region ftCOk ?_
      simp (maxSteps := 4000000) only [go_sem, Nat.reduceBEq, Nat.reduceLT, Nat.reduceAdd, Nat.reduceLeDiff, Nat.reduceSub, Nat.reduceEqDiff, Int.reduceToNat, reduceCtorEq, ↓reduceIte]
      repeat' (first | refine And.intro ?_ ?_ | intro hg)
      all_goals (try simp (disch := omega) only [wrap_fits])
      all_goals first
        | (refine hK _ _ ?_; exact Red.auto)
        | exact trivial
        | assumption
        | omega
        | exact wrap_fits (by omega) (by omega)
        | (refine wpA_callA (k_impl_Channel_do a0_0 p0_1 p0_2s p0_3s p0_4s 1 (h := hr0)) [0, 1, 5, 6, 7] [] ?_
           rintro x Hc' ⟨rfl, rfl⟩ hlen
           refine vcOps_sound ftCOk ?_
           simp (maxSteps := 4000000) only [go_sem, Nat.reduceBEq, Nat.reduceLT, Nat.reduceAdd, Nat.reduceLeDiff, Nat.reduceSub, Nat.reduceEqDiff, Int.reduceToNat, reduceCtorEq, ↓reduceIte]
           repeat' (first | refine And.intro ?_ ?_ | intro hg)
           all_goals (try simp (disch := omega) only [wrap_fits])
           all_goals first
             | (refine hK _ _ ?_; exact Red.auto)
             | exact trivial
             | assumption
             | omega
             | exact wrap_fits (by omega) (by omega)
             | (simp_all; done)
             | (simp_all; omega))
        | (simp_all; done)
        | (simp_all; omega)
    · clear hr0
      refine awp_cond (t := 3) rfl (fun hc20 => ?_) (fun hc20 => ?_)
      · replace h := bite_t h hc20
        refine awp_skip ?_
        (try simp only [Thn, InBlk, ↓reduceIte, Nat.reduceEqDiff])
        refine hK19 _ _ ?_
        clear hK19
        refine awp_block ?_
        refine awp_skip ?_
        (try simp only [Thn, InBlk, ↓reduceIte, Nat.reduceEqDiff])
        obtain rfl := Option.some.inj h
        refine LoopQ.next ?_
        exact Red.selA [0, 1, 2, 3, 4, 8, 9, 10] Red.auto
      · replace h := bite_f h hc20
        refine awp_exit ?_
        (try simp only [Thn, InBlk, ↓reduceIte, Nat.reduceEqDiff])
        obtain rfl := Option.some.inj h
        refine LoopQ.out rfl ?_
        exact Red.selA [0, 1, 2, 3, 4, 8, 9, 10] Red.auto
  · clear hx
    rcases x21 with ⟨p0_1_1, p0_2s_1, p0_3s_1, p0_4s_1⟩
    · try dsimp only [Sum.elim_inl, Sum.elim_inr] at h
      try dsimp only [Sum.elim_inl, Sum.elim_inr]
      (try simp only [Thn, InBlk, ↓reduceIte, Nat.reduceEqDiff])
      (try simp only [Thn, InBlk, ↓reduceIte, Nat.reduceEqDiff])
      (try simp only [Thn, InBlk, ↓reduceIte, Nat.reduceEqDiff])
      refine hK11 _ _ ?_
      clear hK11
      refine awp_block ?_
      replace h := bind_some h
      obtain ⟨x31, hx, h⟩ := h
      refine awp_loopL hx (fun ((p0_1_2, p0_2s_2, p0_3s_2, p0_4s_2) : Int × List Int × (List (Int × Int)) × List Int) => [(0, .pp 0 0)]) (fun ((p0_1_2, p0_2s_2, p0_3s_2, p0_4s_2) : Int × List Int × (List (Int × Int)) × List Int) => [.box [.sl 1, .v (.int .i64 p0_1_2), .sl 5, .sl 6, .sl 7], .row false (.ints .i64 a0_0), .dead, .dead, .dead, .row true (.ints .i64 p0_2s_2), .row true (.pairs p0_3s_2), .row true (.ints .i64 p0_4s_2)]) (fun ((p0_1_3, p0_2s_3, p0_3s_3, p0_4s_3) : Int × List Int × (List (Int × Int)) × List Int) => Exit.exit 2) (fun ((p0_1_3, p0_2s_3, p0_3s_3, p0_4s_3) : Int × List Int × (List (Int × Int)) × List Int) => []) (fun ((p0_1_3, p0_2s_3, p0_3s_3, p0_4s_3) : Int × List Int × (List (Int × Int)) × List Int) => [.box [.sl 1, .v (.int .i64 p0_1_3), .sl 5, .sl 6, .sl 7], .row false (.ints .i64 a0_0), .dead, .dead, .dead, .row true (.ints .i64 p0_2s_3), .row true (.pairs p0_3s_3), .row true (.ints .i64 p0_4s_3)]) ?_ ?_ ?_ ?_
      · rintro ⟨p0_1_3, p0_2s_3, p0_3s_3, p0_4s_3⟩ hy <;> cases hy
      · clear h hx
        exact Red.auto
      · clear h hx
        rintro ⟨p0_1_2, p0_2s_2, p0_3s_2, p0_4s_2⟩ r h
        unfold impl_Channel_quiet_b1 at h
        try dsimp only at h
        try dsimp only
        refine awp_seq fun K29 hK29 => ?_
        replace h := bind_some h
        obtain ⟨⟨y_5, y_6, y_7, y_8, y_9⟩, hr0, h⟩ := h
        try dsimp only at h
        refine awp_to [(0, .pp 0 0), (5, .v (.bool y_5))] [.box [.sl 1, .v (.int .i64 y_6), .sl 8, .sl 9, .sl 10], .row false (.ints .i64 a0_0), .dead, .dead, .dead, .dead, .dead, .dead, .row true (.ints .i64 y_7), .row true (.pairs y_8), .row true (.ints .i64 y_9)] ?_ ?_
        · clear h
          intro K hK
          refine awp_region ftCOk ?_
          simp (maxSteps := 4000000) only [go_sem, Nat.reduceBEq, Nat.reduceLT, Nat.reduceAdd, Nat.reduceLeDiff, Nat.reduceSub, Nat.reduceEqDiff, Int.reduceToNat, reduceCtorEq, ↓reduceIte]
          repeat' (first | refine And.intro ?_ ?_ | intro hg)
          all_goals (try simp (disch := omega) only [wrap_fits])
          all_goals first
            | (refine hK _ _ ?_; exact Red.auto)
            | exact trivial
            | assumption
            | omega
            | exact wrap_fits (by omega) (by omega)
            | (refine wpA_callA (k_impl_Channel_do a0_0 p0_1_2 p0_2s_2 p0_3s_2 p0_4s_2 6 (h := hr0)) [0, 1, 5, 6, 7] [] ?_
               rintro x Hc' ⟨rfl, rfl⟩ hlen
               refine vcOps_sound ftCOk ?_
               simp (maxSteps := 4000000) only [go_sem, Nat.reduceBEq, Nat.reduceLT, Nat.reduceAdd, Nat.reduceLeDiff, Nat.reduceSub, Nat.reduceEqDiff, Int.reduceToNat, reduceCtorEq, ↓reduceIte]
               repeat' (first | refine And.intro ?_ ?_ | intro hg)
               all_goals (try simp (disch := omega) only [wrap_fits])
               all_goals first
                 | (refine hK _ _ ?_; exact Red.auto)
                 | exact trivial
                 | assumption
                 | omega
                 | exact wrap_fits (by omega) (by omega)
                 | (simp_all; done)
                 | (simp_all; omega))
            | (simp_all; done)
            | (simp_all; omega)
        · clear hr0
          refine awp_cond (t := 5) rfl (fun hc30 => ?_) (fun hc30 => ?_)
          · replace h := bite_t h hc30
            refine awp_skip ?_
            (try simp only [Thn, InBlk, ↓reduceIte, Nat.reduceEqDiff])
            refine hK29 _ _ ?_
            clear hK29
            refine awp_block ?_
            refine awp_skip ?_
            (try simp only [Thn, InBlk, ↓reduceIte, Nat.reduceEqDiff])
            obtain rfl := Option.some.inj h
            refine LoopQ.next ?_
            exact Red.selA [0, 1, 2, 3, 4, 8, 9, 10] Red.auto
          · replace h := bite_f h hc30
            refine awp_exit ?_
            (try simp only [Thn, InBlk, ↓reduceIte, Nat.reduceEqDiff])
            obtain rfl := Option.some.inj h
            refine LoopQ.out rfl ?_
            exact Red.selA [0, 1, 2, 3, 4, 8, 9, 10] Red.auto
      · clear hx
        rcases x31 with ⟨p0_1_3, p0_2s_3, p0_3s_3, p0_4s_3⟩
        · try dsimp only [Sum.elim_inl, Sum.elim_inr] at h
          try dsimp only [Sum.elim_inl, Sum.elim_inr]
          (try simp only [Thn, InBlk, ↓reduceIte, Nat.reduceEqDiff])
          (try simp only [Thn, InBlk, ↓reduceIte, Nat.reduceEqDiff])
          (try simp only [Thn, InBlk, ↓reduceIte, Nat.reduceEqDiff])
          obtain rfl := Option.some.inj h
          refine ⟨by simp, _, [0, 1, 2, 3, 4, 5, 6, 7], (by simp only [go_sem, Nat.reduceBEq, Nat.reduceLT, Nat.reduceAdd, Nat.reduceLeDiff, Nat.reduceSub, Nat.reduceEqDiff, Int.reduceToNat, reduceCtorEq, ↓reduceIte]; exact rfl), ?_, ?_, ?_, ?_⟩
          · first | exact trivial | exact ⟨trivial, trivial⟩ | exact ⟨trivial, trivial, trivial⟩ | exact ⟨trivial, trivial, trivial, trivial⟩ | (simp only [allP, and_true, true_and]; done) | (simp only [allP, and_true, true_and]; omega)
          · simp [selOk, pos]
          · simp
          · first | exact ⟨rfl, rfl⟩ | (simp only [go_sem, Nat.reduceBEq, Nat.reduceLT, Nat.reduceAdd, Nat.reduceLeDiff, Nat.reduceSub, Nat.reduceEqDiff, Int.reduceToNat, reduceCtorEq, ↓reduceIte]; done) | (simp [go_sem, Nat.reduceBEq, Nat.reduceLT, Nat.reduceAdd, Nat.reduceLeDiff, Nat.reduceSub, Nat.reduceEqDiff, Int.reduceToNat, reduceCtorEq, ↓reduceIte]; done) | (simp only [go_sem, Nat.reduceBEq, Nat.reduceLT, Nat.reduceAdd, Nat.reduceLeDiff, Nat.reduceSub, Nat.reduceEqDiff, Int.reduceToNat, reduceCtorEq, ↓reduceIte]; exact ⟨rfl, rfl⟩) | (simp_all [go_sem, Nat.reduceBEq, Nat.reduceLT, Nat.reduceAdd, Nat.reduceLeDiff, Nat.reduceSub, Nat.reduceEqDiff, Int.reduceToNat, reduceCtorEq, ↓reduceIte]; done)
theorem k_impl_Channel_done (a0_0 : List Int) (a0_1 : Int) (a0_2 : List Int) (a0_3 : List (Int × Int)) (a0_4 : List Int) {r : Bool} (h : impl_Channel_done a0_0 a0_1 a0_2 a0_3 a0_4 = some r) :
    FnA Try.prog 77 [.pp 0 0] [.box [.sl 1, .v (.int .i64 a0_1), .sl 2, .sl 3, .sl 4], .row false (.ints .i64 a0_0), .row false (.ints .i64 a0_2), .row false (.pairs a0_3), .row false (.ints .i64 a0_4)] [] (fun x H => x = .v (.bool r) ∧ H = [.box [.sl 1, .v (.int .i64 a0_1), .sl 2, .sl 3, .sl 4], .row false (.ints .i64 a0_0), .row false (.ints .i64 a0_2), .row false (.pairs a0_3), .row false (.ints .i64 a0_4)]) := by
  unfold impl_Channel_done at h
  refine FnA.of (N := 13) (pin := [0, 1, 2, 3, 4]) (rs := [.tmp 2]) Try.func77 rfl en77 rfl rfl (by simp) (by simp; try omega) ?_
  refine awp_reg ftCOk [(0, .pp 0 0)] [.box [.sl 1, .v (.int .i64 a0_1), .sl 2, .sl 3, .sl 4], .row false (.ints .i64 a0_0), .row false (.ints .i64 a0_2), .row false (.pairs a0_3), .row false (.ints .i64 a0_4)] ?_
  refine awp_regQ mixed ftCOk [(2, .v (.bool (a0_1 == (a0_0.length : Int))))] [.box [.sl 1, .v (.int .i64 a0_1), .sl 2, .sl 3, .sl 4], .row false (.ints .i64 a0_0), .row false (.ints .i64 a0_2), .row false (.pairs a0_3), .row false (.ints .i64 a0_4)] ?_
  refine awp_ret ?_
  (try simp only [Thn, InBlk, ↓reduceIte, Nat.reduceEqDiff])
  obtain rfl := Option.some.inj h
  refine ⟨by simp, _, [0, 1, 2, 3, 4], (by simp only [go_sem, Nat.reduceBEq, Nat.reduceLT, Nat.reduceAdd, Nat.reduceLeDiff, Nat.reduceSub, Nat.reduceEqDiff, Int.reduceToNat, reduceCtorEq, ↓reduceIte]; exact rfl), ?_, ?_, ?_, ?_⟩
  · first | exact trivial | exact ⟨trivial, trivial⟩ | exact ⟨trivial, trivial, trivial⟩ | exact ⟨trivial, trivial, trivial, trivial⟩ | (simp only [allP, and_true, true_and]; done) | (simp only [allP, and_true, true_and]; omega)
  · simp [selOk, pos]
  · simp
  · first | exact ⟨rfl, rfl⟩ | (simp only [go_sem, Nat.reduceBEq, Nat.reduceLT, Nat.reduceAdd, Nat.reduceLeDiff, Nat.reduceSub, Nat.reduceEqDiff, Int.reduceToNat, reduceCtorEq, ↓reduceIte]; done) | (simp [go_sem, Nat.reduceBEq, Nat.reduceLT, Nat.reduceAdd, Nat.reduceLeDiff, Nat.reduceSub, Nat.reduceEqDiff, Int.reduceToNat, reduceCtorEq, ↓reduceIte]; done) | (simp only [go_sem, Nat.reduceBEq, Nat.reduceLT, Nat.reduceAdd, Nat.reduceLeDiff, Nat.reduceSub, Nat.reduceEqDiff, Int.reduceToNat, reduceCtorEq, ↓reduceIte]; exact ⟨rfl, rfl⟩) | (simp_all [go_sem, Nat.reduceBEq, Nat.reduceLT, Nat.reduceAdd, Nat.reduceLeDiff, Nat.reduceSub, Nat.reduceEqDiff, Int.reduceToNat, reduceCtorEq, ↓reduceIte]; done)
theorem k_impl_ChannelFinish (a0_0 : List Int) (a0_1 : Int) (a0_2 : List Int) (a0_3 : List (Int × Int)) (a0_4 : List Int) {r : List Int × Int × List Int × (List (Int × Int)) × List Int × Int} (h : impl_ChannelFinish a0_0 a0_1 a0_2 a0_3 a0_4 = some r) :
    FnA Try.prog 24 [.agg [.sl 0, .v (.int .i64 a0_1), .sl 1, .sl 2, .sl 3]] [.row false (.ints .i64 a0_0), .row false (.ints .i64 a0_2), .row false (.pairs a0_3), .row false (.ints .i64 a0_4)] [] (fun x H => x = .tup [.agg [.sl 4, .v (.int .i64 r.2.1), .sl 5, .sl 6, .sl 7], .v (.int .i64 r.2.2.2.2.2)] ∧ H = [.row false (.ints .i64 a0_0), .row false (.ints .i64 a0_2), .row false (.pairs a0_3), .row false (.ints .i64 a0_4), .row true (.ints .i64 r.1), .row true (.ints .i64 r.2.2.1), .row true (.pairs r.2.2.2.1), .row true (.ints .i64 r.2.2.2.2.1)]) := by
  unfold impl_ChannelFinish at h
  refine FnA.of (N := 23) (pin := [0, 1, 2, 3]) (rs := [.cell 2 40, .tmp 3]) Try.func24 rfl en24 rfl rfl (by simp) (by simp; try omega) ?_
  refine awp_reg ftCOk [(1, .pp 4 0), (2, .pp 5 0)] [.row false (.ints .i64 a0_0), .row false (.ints .i64 a0_2), .row false (.pairs a0_3), .row false (.ints .i64 a0_4), .box [.sl 0, .v (.int .i64 a0_1), .sl 1, .sl 2, .sl 3], .box [.v (.slice none 0 0), .v (.int .i64 0), .v (.slice none 0 0), .v (.slice none 0 0), .v (.slice none 0 0)]] ?_
  refine awp_freeze 1 (by rfl) (by rfl) (by exact rfl) ?_
  refine awp_seq fun K2 hK2 => ?_
  replace h := bind_some h
  obtain ⟨y, hr0, h⟩ := h
  try dsimp only at h
  refine awp_to [(1, .pp 4 0), (2, .pp 5 0), (8, .v (.bool (!y)))] [.row false (.ints .i64 a0_0), .row false (.ints .i64 a0_2), .row false (.pairs a0_3), .row false (.ints .i64 a0_4), .rbox [.sl 0, .v (.int .i64 a0_1), .sl 1, .sl 2, .sl 3], .box [.v (.slice none 0 0), .v (.int .i64 0), .v (.slice none 0 0), .v (.slice none 0 0), .v (.slice none 0 0)]] ?_ ?_
  · clear h
    intro K hK
    refine awp_region ftCOk ?_
    simp (maxSteps := 4000000) only [go_sem, Nat.reduceBEq, Nat.reduceLT, Nat.reduceAdd, Nat.reduceLeDiff, Nat.reduceSub, Nat.reduceEqDiff, Int.reduceToNat, reduceCtorEq, ↓reduceIte]
    repeat' (first | refine And.intro ?_ ?_ | intro hg)
    all_goals (try simp (disch := omega) only [wrap_fits])
    all_goals first
      | (refine hK _ _ ?_; exact Red.auto)
      | exact trivial
      | assumption
      | omega
      | exact wrap_fits (by omega) (by omega)
      | (refine wpA_callA (k_impl_ChannelValid a0_0 a0_1 a0_2 a0_3 a0_4 (h := hr0)) [0, 1, 2, 3] [] ?_
         rintro x Hc' ⟨rfl, rfl⟩ hlen
         refine vcOps_sound ftCOk ?_
         simp (maxSteps := 4000000) only [go_sem, Nat.reduceBEq, Nat.reduceLT, Nat.reduceAdd, Nat.reduceLeDiff, Nat.reduceSub, Nat.reduceEqDiff, Int.reduceToNat, reduceCtorEq, ↓reduceIte]
         repeat' (first | refine And.intro ?_ ?_ | intro hg)
         all_goals (try simp (disch := omega) only [wrap_fits])
         all_goals first
           | (refine hK _ _ ?_; exact Red.auto)
           | exact trivial
           | assumption
           | omega
           | exact wrap_fits (by omega) (by omega)
           | (simp_all; done)
           | (simp_all; omega))
      | (simp_all; done)
      | (simp_all; omega)
  · clear hr0
    refine awp_cond (t := 8) rfl (fun hc3 => ?_) (fun hc3 => ?_)
    · replace h := bite_t h hc3
      refine awp_reg ftCOk [(2, .pp 5 0), (3, .v (.int .i64 (-1)))] [.row false (.ints .i64 a0_0), .row false (.ints .i64 a0_2), .row false (.pairs a0_3), .row false (.ints .i64 a0_4), .rbox [.sl 0, .v (.int .i64 a0_1), .sl 1, .sl 2, .sl 3], .box [.v (.slice none 0 0), .v (.int .i64 0), .v (.slice none 0 0), .v (.slice none 0 0), .v (.slice none 0 0)]] ?_
      refine awp_red (Red.nilCell (o := 5) (i := 0) (.ints .i64 []) rfl rfl rfl) ?_
      refine awp_red (Red.nilCell (o := 5) (i := 2) (.ints .i64 []) rfl rfl rfl) ?_
      refine awp_red (Red.nilCell (o := 5) (i := 3) (.pairs []) rfl rfl rfl) ?_
      refine awp_red (Red.nilCell (o := 5) (i := 4) (.ints .i64 []) rfl rfl rfl) ?_
      refine awp_ret ?_
      (try simp only [Thn, InBlk, ↓reduceIte, Nat.reduceEqDiff])
      obtain rfl := Option.some.inj h
      refine ⟨by simp, _, [0, 1, 2, 3, 6, 7, 8, 9], (by simp only [go_sem, Nat.reduceBEq, Nat.reduceLT, Nat.reduceAdd, Nat.reduceLeDiff, Nat.reduceSub, Nat.reduceEqDiff, Int.reduceToNat, reduceCtorEq, ↓reduceIte]; exact rfl), ?_, ?_, ?_, ?_⟩
      · first | exact trivial | exact ⟨trivial, trivial⟩ | exact ⟨trivial, trivial, trivial⟩ | exact ⟨trivial, trivial, trivial, trivial⟩ | (simp only [allP, and_true, true_and]; done) | (simp only [allP, and_true, true_and]; omega)
      · simp [selOk, pos]
      · simp
      · first | exact ⟨rfl, rfl⟩ | (simp only [go_sem, Nat.reduceBEq, Nat.reduceLT, Nat.reduceAdd, Nat.reduceLeDiff, Nat.reduceSub, Nat.reduceEqDiff, Int.reduceToNat, reduceCtorEq, ↓reduceIte]; done) | (simp [go_sem, Nat.reduceBEq, Nat.reduceLT, Nat.reduceAdd, Nat.reduceLeDiff, Nat.reduceSub, Nat.reduceEqDiff, Int.reduceToNat, reduceCtorEq, ↓reduceIte]; done) | (simp only [go_sem, Nat.reduceBEq, Nat.reduceLT, Nat.reduceAdd, Nat.reduceLeDiff, Nat.reduceSub, Nat.reduceEqDiff, Int.reduceToNat, reduceCtorEq, ↓reduceIte]; exact ⟨rfl, rfl⟩) | (simp_all [go_sem, Nat.reduceBEq, Nat.reduceLT, Nat.reduceAdd, Nat.reduceLeDiff, Nat.reduceSub, Nat.reduceEqDiff, Int.reduceToNat, reduceCtorEq, ↓reduceIte]; done)
    · replace h := bite_f h hc3
      refine awp_skip ?_
      (try simp only [Thn, InBlk, ↓reduceIte, Nat.reduceEqDiff])
      refine hK2 _ _ ?_
      clear hK2
      replace h := bind_some h
      obtain ⟨⟨y_1, y_2, y_3, y_4, y_5⟩, hr0, h⟩ := h
      try dsimp only at h
      refine awp_to [(2, .pp 5 0), (4, .pp 10 0)] [.row false (.ints .i64 a0_0), .row false (.ints .i64 a0_2), .row false (.pairs a0_3), .row false (.ints .i64 a0_4), .rbox [.sl 0, .v (.int .i64 a0_1), .sl 1, .sl 2, .sl 3], .box [.v (.slice none 0 0), .v (.int .i64 0), .v (.slice none 0 0), .v (.slice none 0 0), .v (.slice none 0 0)], .row true (.ints .i64 y_1), .row true (.ints .i64 y_3), .row true (.pairs y_4), .row true (.ints .i64 y_5), .box [.sl 6, .v (.int .i64 y_2), .sl 7, .sl 8, .sl 9]] ?_ ?_
      · clear h
        intro K hK
        refine awp_region ftCOk ?_
        simp (maxSteps := 4000000) only [go_sem, Nat.reduceBEq, Nat.reduceLT, Nat.reduceAdd, Nat.reduceLeDiff, Nat.reduceSub, Nat.reduceEqDiff, Int.reduceToNat, reduceCtorEq, ↓reduceIte]
        repeat' (first | refine And.intro ?_ ?_ | intro hg)
        all_goals (try simp (disch := omega) only [wrap_fits])
        all_goals first
          | (refine hK _ _ ?_; exact Red.auto)
          | exact trivial
          | assumption
          | omega
          | exact wrap_fits (by omega) (by omega)
          | (refine wpA_callA (k_impl_Channel_copied a0_0 a0_1 a0_2 a0_3 a0_4 (h := hr0)) [0, 1, 2, 3] [] ?_
             rintro x Hc' ⟨rfl, rfl⟩ hlen
             refine vcOps_sound ftCOk ?_
             simp (maxSteps := 4000000) only [go_sem, Nat.reduceBEq, Nat.reduceLT, Nat.reduceAdd, Nat.reduceLeDiff, Nat.reduceSub, Nat.reduceEqDiff, Int.reduceToNat, reduceCtorEq, ↓reduceIte]
             repeat' (first | refine And.intro ?_ ?_ | intro hg)
             all_goals (try simp (disch := omega) only [wrap_fits])
             all_goals first
               | (refine hK _ _ ?_; exact Red.auto)
               | exact trivial
               | assumption
               | omega
               | exact wrap_fits (by omega) (by omega)
               | (simp_all; done)
               | (simp_all; omega))
          | (simp_all; done)
          | (simp_all; omega)
      · clear hr0
        replace h := bind_some h
        obtain ⟨⟨y_6, y_7, y_8, y_9⟩, hr0, h⟩ := h
        try dsimp only at h
        refine awp_to [(2, .pp 5 0), (4, .pp 10 0)] [.row false (.ints .i64 a0_0), .row false (.ints .i64 a0_2), .row false (.pairs a0_3), .row false (.ints .i64 a0_4), .rbox [.sl 0, .v (.int .i64 a0_1), .sl 1, .sl 2, .sl 3], .box [.v (.slice none 0 0), .v (.int .i64 0), .v (.slice none 0 0), .v (.slice none 0 0), .v (.slice none 0 0)], .row true (.ints .i64 y_1), .dead, .dead, .dead, .box [.sl 6, .v (.int .i64 y_6), .sl 11, .sl 12, .sl 13], .row true (.ints .i64 y_7), .row true (.pairs y_8), .row true (.ints .i64 y_9)] ?_ ?_
        · clear h
          intro K hK
          refine awp_region ftCOk ?_
          simp (maxSteps := 4000000) only [go_sem, Nat.reduceBEq, Nat.reduceLT, Nat.reduceAdd, Nat.reduceLeDiff, Nat.reduceSub, Nat.reduceEqDiff, Int.reduceToNat, reduceCtorEq, ↓reduceIte]
          repeat' (first | refine And.intro ?_ ?_ | intro hg)
          all_goals (try simp (disch := omega) only [wrap_fits])
          all_goals first
            | (refine hK _ _ ?_; exact Red.auto)
            | exact trivial
            | assumption
            | omega
            | exact wrap_fits (by omega) (by omega)
            | (refine wpA_callA (k_impl_Channel_quiet y_1 y_2 y_3 y_4 y_5 (h := hr0)) [10, 6, 7, 8, 9] [] ?_
               rintro x Hc' ⟨rfl, rfl⟩ hlen
               refine vcOps_sound ftCOk ?_
               simp (maxSteps := 4000000) only [go_sem, Nat.reduceBEq, Nat.reduceLT, Nat.reduceAdd, Nat.reduceLeDiff, Nat.reduceSub, Nat.reduceEqDiff, Int.reduceToNat, reduceCtorEq, ↓reduceIte]
               repeat' (first | refine And.intro ?_ ?_ | intro hg)
               all_goals (try simp (disch := omega) only [wrap_fits])
               all_goals first
                 | (refine hK _ _ ?_; exact Red.auto)
                 | exact trivial
                 | assumption
                 | omega
                 | exact wrap_fits (by omega) (by omega)
                 | (simp_all; done)
                 | (simp_all; omega))
            | (simp_all; done)
            | (simp_all; omega)
        · clear hr0
          refine awp_reg ftCOk [(2, .pp 5 0), (4, .pp 10 0), (5, .v (.int .i64 0))] [.row false (.ints .i64 a0_0), .row false (.ints .i64 a0_2), .row false (.pairs a0_3), .row false (.ints .i64 a0_4), .rbox [.sl 0, .v (.int .i64 a0_1), .sl 1, .sl 2, .sl 3], .box [.v (.slice none 0 0), .v (.int .i64 0), .v (.slice none 0 0), .v (.slice none 0 0), .v (.slice none 0 0)], .row true (.ints .i64 y_1), .dead, .dead, .dead, .box [.sl 6, .v (.int .i64 y_6), .sl 11, .sl 12, .sl 13], .row true (.ints .i64 y_7), .row true (.pairs y_8), .row true (.ints .i64 y_9)] ?_
          refine awp_seq fun K17 hK17 => ?_
          refine awp_block ?_
          replace h := bind_some h
          obtain ⟨x30, hx, h⟩ := h
          refine awp_loopL hx (fun ((t5, t4_1, t4_2s, t4_3s, t4_4s) : Int × Int × List Int × (List (Int × Int)) × List Int) => [(2, .pp 4 0), (4, .pp 5 0), (5, .v (.int .i64 t5))]) (fun ((t5, t4_1, t4_2s, t4_3s, t4_4s) : Int × Int × List Int × (List (Int × Int)) × List Int) => [.row false (.ints .i64 a0_0), .row false (.ints .i64 a0_2), .row false (.pairs a0_3), .row false (.ints .i64 a0_4), .box [.v (.slice none 0 0), .v (.int .i64 0), .v (.slice none 0 0), .v (.slice none 0 0), .v (.slice none 0 0)], .box [.sl 6, .v (.int .i64 t4_1), .sl 7, .sl 8, .sl 9], .row true (.ints .i64 y_1), .row true (.ints .i64 t4_2s), .row true (.pairs t4_3s), .row true (.ints .i64 t4_4s)]) (fun ((t5_1, t4_1_1, t4_2s_1, t4_3s_1, t4_4s_1) : Int × Int × List Int × (List (Int × Int)) × List Int) => Exit.exit 0) (fun ((t5_1, t4_1_1, t4_2s_1, t4_3s_1, t4_4s_1) : Int × Int × List Int × (List (Int × Int)) × List Int) => [(2, .pp 4 0), (4, .pp 5 0), (5, .v (.int .i64 t5_1))]) (fun ((t5_1, t4_1_1, t4_2s_1, t4_3s_1, t4_4s_1) : Int × Int × List Int × (List (Int × Int)) × List Int) => [.row false (.ints .i64 a0_0), .row false (.ints .i64 a0_2), .row false (.pairs a0_3), .row false (.ints .i64 a0_4), .box [.v (.slice none 0 0), .v (.int .i64 0), .v (.slice none 0 0), .v (.slice none 0 0), .v (.slice none 0 0)], .box [.sl 6, .v (.int .i64 t4_1_1), .sl 7, .sl 8, .sl 9], .row true (.ints .i64 y_1), .row true (.ints .i64 t4_2s_1), .row true (.pairs t4_3s_1), .row true (.ints .i64 t4_4s_1)]) ?_ ?_ ?_ ?_
          · rintro ⟨t5_1, t4_1_1, t4_2s_1, t4_3s_1, t4_4s_1⟩ hy <;> cases hy
          · clear h hx
            exact Red.selA [0, 1, 2, 3, 5, 10, 6, 11, 12, 13] Red.auto
          · clear h hx
            rintro ⟨t5, t4_1, t4_2s, t4_3s, t4_4s⟩ r h
            unfold impl_ChannelFinish_b0 at h
            try dsimp only at h
            try dsimp only
            refine awp_seq fun K27 hK27 => ?_
            replace h := bind_some h
            obtain ⟨y_10, hr0, h⟩ := h
            try dsimp only at h
            refine awp_to [(2, .pp 4 0), (4, .pp 5 0), (5, .v (.int .i64 t5)), (14, .v (.bool (!y_10)))] [.row false (.ints .i64 a0_0), .row false (.ints .i64 a0_2), .row false (.pairs a0_3), .row false (.ints .i64 a0_4), .box [.v (.slice none 0 0), .v (.int .i64 0), .v (.slice none 0 0), .v (.slice none 0 0), .v (.slice none 0 0)], .box [.sl 6, .v (.int .i64 t4_1), .sl 7, .sl 8, .sl 9], .row true (.ints .i64 y_1), .row true (.ints .i64 t4_2s), .row true (.pairs t4_3s), .row true (.ints .i64 t4_4s)] ?_ ?_
            · clear h
              intro K hK
              refine awp_region ftCOk ?_
              simp (maxSteps := 4000000) only [go_sem, Nat.reduceBEq, Nat.reduceLT, Nat.reduceAdd, Nat.reduceLeDiff, Nat.reduceSub, Nat.reduceEqDiff, Int.reduceToNat, reduceCtorEq, ↓reduceIte]
              repeat' (first | refine And.intro ?_ ?_ | intro hg)
              all_goals (try simp (disch := omega) only [wrap_fits])
              all_goals first
                | (refine hK _ _ ?_; exact Red.auto)
                | exact trivial
                | assumption
                | omega
                | exact wrap_fits (by omega) (by omega)
                | (refine wpA_callA (k_impl_Channel_done y_1 t4_1 t4_2s t4_3s t4_4s (h := hr0)) [5, 6, 7, 8, 9] [] ?_
                   rintro x Hc' ⟨rfl, rfl⟩ hlen
                   refine vcOps_sound ftCOk ?_
                   simp (maxSteps := 4000000) only [go_sem, Nat.reduceBEq, Nat.reduceLT, Nat.reduceAdd, Nat.reduceLeDiff, Nat.reduceSub, Nat.reduceEqDiff, Int.reduceToNat, reduceCtorEq, ↓reduceIte]
                   repeat' (first | refine And.intro ?_ ?_ | intro hg)
                   all_goals (try simp (disch := omega) only [wrap_fits])
                   all_goals first
                     | (refine hK _ _ ?_; exact Red.auto)
                     | exact trivial
                     | assumption
                     | omega
                     | exact wrap_fits (by omega) (by omega)
                     | (simp_all; done)
                     | (simp_all; omega))
                | (simp_all; done)
                | (simp_all; omega)
            · clear hr0
              refine awp_cond (t := 14) rfl (fun hc28 => ?_) (fun hc28 => ?_)
              · replace h := bite_t h hc28
                refine awp_skip ?_
                (try simp only [Thn, InBlk, ↓reduceIte, Nat.reduceEqDiff])
                refine hK27 _ _ ?_
                clear hK27
                refine awp_seq fun K29 hK29 => ?_
                refine awp_block ?_
                replace h := bind_some h
                obtain ⟨⟨y_11, y_12, y_13, y_14, y_15⟩, hr0, h⟩ := h
                try dsimp only at h
                refine awp_to [(2, .pp 4 0), (4, .pp 5 0), (5, .v (.int .i64 t5))] [.row false (.ints .i64 a0_0), .row false (.ints .i64 a0_2), .row false (.pairs a0_3), .row false (.ints .i64 a0_4), .box [.v (.slice none 0 0), .v (.int .i64 0), .v (.slice none 0 0), .v (.slice none 0 0), .v (.slice none 0 0)], .box [.sl 6, .v (.int .i64 y_12), .sl 10, .sl 11, .sl 12], .row true (.ints .i64 y_1), .dead, .dead, .dead, .row true (.ints .i64 y_13), .row true (.pairs y_14), .row true (.ints .i64 y_15)] ?_ ?_
                · clear h
                  intro K hK
                  refine awp_region ftCOk ?_
                  simp (maxSteps := 4000000) only [go_sem, Nat.reduceBEq, Nat.reduceLT, Nat.reduceAdd, Nat.reduceLeDiff, Nat.reduceSub, Nat.reduceEqDiff, Int.reduceToNat, reduceCtorEq, ↓reduceIte]
                  repeat' (first | refine And.intro ?_ ?_ | intro hg)
                  all_goals (try simp (disch := omega) only [wrap_fits])
                  all_goals first
                    | (refine hK _ _ ?_; exact Red.auto)
                    | exact trivial
                    | assumption
                    | omega
                    | exact wrap_fits (by omega) (by omega)
                    | (refine wpA_callA (k_impl_Channel_do y_1 t4_1 t4_2s t4_3s t4_4s 5 (h := hr0)) [5, 6, 7, 8, 9] [] ?_
                       rintro x Hc' ⟨rfl, rfl⟩ hlen
                       refine vcOps_sound ftCOk ?_
                       simp (maxSteps := 4000000) only [go_sem, Nat.reduceBEq, Nat.reduceLT, Nat.reduceAdd, Nat.reduceLeDiff, Nat.reduceSub, Nat.reduceEqDiff, Int.reduceToNat, reduceCtorEq, ↓reduceIte]
                       repeat' (first | refine And.intro ?_ ?_ | intro hg)
                       all_goals (try simp (disch := omega) only [wrap_fits])
                       all_goals first
                         | (refine hK _ _ ?_; exact Red.auto)
                         | exact trivial
                         | assumption
                         | omega
                         | exact wrap_fits (by omega) (by omega)
                         | (simp_all; done)
                         | (simp_all; omega))
                    | (simp_all; done)
                    | (simp_all; omega)
                · clear hr0
                  replace h := bind_some h
                  obtain ⟨⟨y_16, y_17, y_18, y_19, y_20⟩, hr0, h⟩ := h
                  try dsimp only at h
                  refine awp_to [(2, .pp 4 0), (4, .pp 5 0), (5, .v (.int .i64 t5))] [.row false (.ints .i64 a0_0), .row false (.ints .i64 a0_2), .row false (.pairs a0_3), .row false (.ints .i64 a0_4), .box [.v (.slice none 0 0), .v (.int .i64 0), .v (.slice none 0 0), .v (.slice none 0 0), .v (.slice none 0 0)], .box [.sl 6, .v (.int .i64 y_17), .sl 13, .sl 14, .sl 15], .row true (.ints .i64 y_1), .dead, .dead, .dead, .dead, .dead, .dead, .row true (.ints .i64 y_18), .row true (.pairs y_19), .row true (.ints .i64 y_20)] ?_ ?_
                  · clear h
                    intro K hK
                    refine awp_region ftCOk ?_
                    simp (maxSteps := 4000000) only [go_sem, Nat.reduceBEq, Nat.reduceLT, Nat.reduceAdd, Nat.reduceLeDiff, Nat.reduceSub, Nat.reduceEqDiff, Int.reduceToNat, reduceCtorEq, ↓reduceIte]
                    repeat' (first | refine And.intro ?_ ?_ | intro hg)
                    all_goals (try simp (disch := omega) only [wrap_fits])
                    all_goals first
                      | (refine hK _ _ ?_; exact Red.auto)
                      | exact trivial
                      | assumption
                      | omega
                      | exact wrap_fits (by omega) (by omega)
                      | (refine wpA_callA (k_impl_Channel_do y_1 y_12 y_13 y_14 y_15 6 (h := hr0)) [5, 6, 10, 11, 12] [] ?_
                         rintro x Hc' ⟨rfl, rfl⟩ hlen
                         refine vcOps_sound ftCOk ?_
                         simp (maxSteps := 4000000) only [go_sem, Nat.reduceBEq, Nat.reduceLT, Nat.reduceAdd, Nat.reduceLeDiff, Nat.reduceSub, Nat.reduceEqDiff, Int.reduceToNat, reduceCtorEq, ↓reduceIte]
                         repeat' (first | refine And.intro ?_ ?_ | intro hg)
                         all_goals (try simp (disch := omega) only [wrap_fits])
                         all_goals first
                           | (refine hK _ _ ?_; exact Red.auto)
                           | exact trivial
                           | assumption
                           | omega
                           | exact wrap_fits (by omega) (by omega)
                           | (simp_all; done)
                           | (simp_all; omega))
                      | (simp_all; done)
                      | (simp_all; omega)
                  · clear hr0
                    replace h := bind_some h
                    obtain ⟨⟨y_21, y_22, y_23, y_24, y_25⟩, hr0, h⟩ := h
                    try dsimp only at h
                    refine awp_to [(2, .pp 4 0), (4, .pp 5 0), (5, .v (.int .i64 t5))] [.row false (.ints .i64 a0_0), .row false (.ints .i64 a0_2), .row false (.pairs a0_3), .row false (.ints .i64 a0_4), .box [.v (.slice none 0 0), .v (.int .i64 0), .v (.slice none 0 0), .v (.slice none 0 0), .v (.slice none 0 0)], .box [.sl 6, .v (.int .i64 y_22), .sl 16, .sl 17, .sl 18], .row true (.ints .i64 y_1), .dead, .dead, .dead, .dead, .dead, .dead, .dead, .dead, .dead, .row true (.ints .i64 y_23), .row true (.pairs y_24), .row true (.ints .i64 y_25)] ?_ ?_
                    · clear h
                      intro K hK
                      refine awp_region ftCOk ?_
                      simp (maxSteps := 4000000) only [go_sem, Nat.reduceBEq, Nat.reduceLT, Nat.reduceAdd, Nat.reduceLeDiff, Nat.reduceSub, Nat.reduceEqDiff, Int.reduceToNat, reduceCtorEq, ↓reduceIte]
                      repeat' (first | refine And.intro ?_ ?_ | intro hg)
                      all_goals (try simp (disch := omega) only [wrap_fits])
                      all_goals first
                        | (refine hK _ _ ?_; exact Red.auto)
                        | exact trivial
                        | assumption
                        | omega
                        | exact wrap_fits (by omega) (by omega)
                        | (refine wpA_callA (k_impl_Channel_do y_1 y_17 y_18 y_19 y_20 0 (h := hr0)) [5, 6, 13, 14, 15] [] ?_
                           rintro x Hc' ⟨rfl, rfl⟩ hlen
                           refine vcOps_sound ftCOk ?_
                           simp (maxSteps := 4000000) only [go_sem, Nat.reduceBEq, Nat.reduceLT, Nat.reduceAdd, Nat.reduceLeDiff, Nat.reduceSub, Nat.reduceEqDiff, Int.reduceToNat, reduceCtorEq, ↓reduceIte]
                           repeat' (first | refine And.intro ?_ ?_ | intro hg)
                           all_goals (try simp (disch := omega) only [wrap_fits])
                           all_goals first
                             | (refine hK _ _ ?_; exact Red.auto)
                             | exact trivial
                             | assumption
                             | omega
                             | exact wrap_fits (by omega) (by omega)
                             | (simp_all; done)
                             | (simp_all; omega))
                        | (simp_all; done)
                        | (simp_all; omega)
                    · clear hr0
                      replace h := bind_some h
                      obtain ⟨⟨y_26, y_27, y_28, y_29⟩, hr0, h⟩ := h
                      try dsimp only at h
                      refine awp_end [(2, .pp 4 0), (4, .pp 5 0), (5, .v (.int .i64 t5))] [.row false (.ints .i64 a0_0), .row false (.ints .i64 a0_2), .row false (.pairs a0_3), .row false (.ints .i64 a0_4), .box [.v (.slice none 0 0), .v (.int .i64 0), .v (.slice none 0 0), .v (.slice none 0 0), .v (.slice none 0 0)], .box [.sl 6, .v (.int .i64 y_26), .sl 19, .sl 20, .sl 21], .row true (.ints .i64 y_1), .dead, .dead, .dead, .dead, .dead, .dead, .dead, .dead, .dead, .dead, .dead, .dead, .row true (.ints .i64 y_27), .row true (.pairs y_28), .row true (.ints .i64 y_29)] ?_ ?_
                      · clear h
                        intro K hK
                        refine awp_region ftCOk ?_
                        simp (maxSteps := 4000000) only [go_sem, Nat.reduceBEq, Nat.reduceLT, Nat.reduceAdd, Nat.reduceLeDiff, Nat.reduceSub, Nat.reduceEqDiff, Int.reduceToNat, reduceCtorEq, ↓reduceIte]
                        repeat' (first | refine And.intro ?_ ?_ | intro hg)
                        all_goals (try simp (disch := omega) only [wrap_fits])
                        all_goals first
                          | (refine hK _ _ ?_; exact Red.auto)
                          | exact trivial
                          | assumption
                          | omega
                          | exact wrap_fits (by omega) (by omega)
                          | (refine wpA_callA (k_impl_Channel_quiet y_1 y_22 y_23 y_24 y_25 (h := hr0)) [5, 6, 16, 17, 18] [] ?_
                             rintro x Hc' ⟨rfl, rfl⟩ hlen
                             refine vcOps_sound ftCOk ?_
                             simp (maxSteps := 4000000) only [go_sem, Nat.reduceBEq, Nat.reduceLT, Nat.reduceAdd, Nat.reduceLeDiff, Nat.reduceSub, Nat.reduceEqDiff, Int.reduceToNat, reduceCtorEq, ↓reduceIte]
                             repeat' (first | refine And.intro ?_ ?_ | intro hg)
                             all_goals (try simp (disch := omega) only [wrap_fits])
                             all_goals first
                               | (refine hK _ _ ?_; exact Red.auto)
                               | exact trivial
                               | assumption
                               | omega
                               | exact wrap_fits (by omega) (by omega)
                               | (simp_all; done)
                               | (simp_all; omega))
                          | (simp_all; done)
                          | (simp_all; omega)
                      · clear hr0
                        (try simp only [Thn, InBlk, ↓reduceIte, Nat.reduceEqDiff])
                        (try simp only [Thn, InBlk, ↓reduceIte, Nat.reduceEqDiff])
                        refine hK29 _ _ ?_
                        clear hK29
                        replace h := chk_some h
                        obtain ⟨hp0, h⟩ := h
                        refine awp_regE ftCOk [(2, .pp 4 0), (4, .pp 5 0), (5, .v (.int .i64 (t5 + 1)))] [.row false (.ints .i64 a0_0), .row false (.ints .i64 a0_2), .row false (.pairs a0_3), .row false (.ints .i64 a0_4), .box [.v (.slice none 0 0), .v (.int .i64 0), .v (.slice none 0 0), .v (.slice none 0 0), .v (.slice none 0 0)], .box [.sl 6, .v (.int .i64 y_26), .sl 19, .sl 20, .sl 21], .row true (.ints .i64 y_1), .dead, .dead, .dead, .dead, .dead, .dead, .dead, .dead, .dead, .dead, .dead, .dead, .row true (.ints .i64 y_27), .row true (.pairs y_28), .row true (.ints .i64 y_29)] ?_
                        clear hp0
                        obtain rfl := Option.some.inj h
                        refine LoopQ.next ?_
                        exact Red.selA [0, 1, 2, 3, 4, 5, 6, 19, 20, 21] Red.auto
              · replace h := bite_f h hc28
                refine awp_exit ?_
                (try simp only [Thn, InBlk, ↓reduceIte, Nat.reduceEqDiff])
                obtain rfl := Option.some.inj h
                refine LoopQ.out rfl ?_
                exact Red.auto
          · clear hx
            rcases x30 with ⟨t5_1, t4_1_1, t4_2s_1, t4_3s_1, t4_4s_1⟩
            · try dsimp only [Sum.elim_inl, Sum.elim_inr] at h
              try dsimp only [Sum.elim_inl, Sum.elim_inr]
              (try simp only [Thn, InBlk, ↓reduceIte, Nat.reduceEqDiff])
              (try simp only [Thn, InBlk, ↓reduceIte, Nat.reduceEqDiff])
              (try simp only [Thn, InBlk, ↓reduceIte, Nat.reduceEqDiff])
              refine hK17 _ _ ?_
              clear hK17
              refine awp_reg ftCOk [(2, .pp 4 0), (3, .v (.int .i64 t5_1))] [.row false (.ints .i64 a0_0), .row false (.ints .i64 a0_2), .row false (.pairs a0_3), .row false (.ints .i64 a0_4), .box [.sl 6, .v (.int .i64 t4_1_1), .sl 7, .sl 8, .sl 9], .box [.sl 6, .v (.int .i64 t4_1_1), .sl 7, .sl 8, .sl 9], .row true (.ints .i64 y_1), .row true (.ints .i64 t4_2s_1), .row true (.pairs t4_3s_1), .row true (.ints .i64 t4_4s_1)] ?_
              refine awp_ret ?_
              (try simp only [Thn, InBlk, ↓reduceIte, Nat.reduceEqDiff])
              obtain rfl := Option.some.inj h
              refine ⟨by simp, _, [0, 1, 2, 3, 6, 7, 8, 9], (by simp only [go_sem, Nat.reduceBEq, Nat.reduceLT, Nat.reduceAdd, Nat.reduceLeDiff, Nat.reduceSub, Nat.reduceEqDiff, Int.reduceToNat, reduceCtorEq, ↓reduceIte]; exact rfl), ?_, ?_, ?_, ?_⟩
              · first | exact trivial | exact ⟨trivial, trivial⟩ | exact ⟨trivial, trivial, trivial⟩ | exact ⟨trivial, trivial, trivial, trivial⟩ | (simp only [allP, and_true, true_and]; done) | (simp only [allP, and_true, true_and]; omega)
              · simp [selOk, pos]
              · simp
              · first | exact ⟨rfl, rfl⟩ | (simp only [go_sem, Nat.reduceBEq, Nat.reduceLT, Nat.reduceAdd, Nat.reduceLeDiff, Nat.reduceSub, Nat.reduceEqDiff, Int.reduceToNat, reduceCtorEq, ↓reduceIte]; done) | (simp [go_sem, Nat.reduceBEq, Nat.reduceLT, Nat.reduceAdd, Nat.reduceLeDiff, Nat.reduceSub, Nat.reduceEqDiff, Int.reduceToNat, reduceCtorEq, ↓reduceIte]; done) | (simp only [go_sem, Nat.reduceBEq, Nat.reduceLT, Nat.reduceAdd, Nat.reduceLeDiff, Nat.reduceSub, Nat.reduceEqDiff, Int.reduceToNat, reduceCtorEq, ↓reduceIte]; exact ⟨rfl, rfl⟩) | (simp_all [go_sem, Nat.reduceBEq, Nat.reduceLT, Nat.reduceAdd, Nat.reduceLeDiff, Nat.reduceSub, Nat.reduceEqDiff, Int.reduceToNat, reduceCtorEq, ↓reduceIte]; done)
theorem k_spec_l1OwnChannel (a0_0 : List Int) (a0_1 : Int) (a0_2 : List Int) (a0_3 : List (Int × Int)) (a0_4 : List Int) {r : List Int × Int × List Int × (List (Int × Int)) × List Int} (h : spec_l1OwnChannel a0_0 a0_1 a0_2 a0_3 a0_4 = some r) :
    FnA Try.prog 79 [.agg [.sl 0, .v (.int .i64 a0_1), .sl 1, .sl 2, .sl 3]] [.row false (.ints .i64 a0_0), .row false (.ints .i64 a0_2), .row false (.pairs a0_3), .row false (.ints .i64 a0_4)] [] (fun x H => x = .agg [.sl 4, .v (.int .i64 r.2.1), .sl 5, .sl 6, .sl 7] ∧ H = [.row false (.ints .i64 a0_0), .row false (.ints .i64 a0_2), .row false (.pairs a0_3), .row false (.ints .i64 a0_4), .row true (.ints .i64 r.1), .row true (.ints .i64 r.2.2.1), .row true (.pairs r.2.2.2.1), .row true (.ints .i64 r.2.2.2.2)]) := by
  unfold spec_l1OwnChannel at h
  refine FnA.of (N := 26) (pin := [0, 1, 2, 3]) (rs := [.cell 2 40]) Try.func79 rfl en79 rfl rfl (by simp) (by simp; try omega) ?_
  refine awp_reg ftCOk [(1, .pp 4 0), (2, .pp 5 0)] [.row false (.ints .i64 a0_0), .row false (.ints .i64 a0_2), .row false (.pairs a0_3), .row false (.ints .i64 a0_4), .box [.sl 0, .v (.int .i64 a0_1), .sl 1, .sl 2, .sl 3], .box [.v (.slice none 0 0), .v (.int .i64 0), .v (.slice none 0 0), .v (.slice none 0 0), .v (.slice none 0 0)]] ?_
  refine awp_freeze 1 (by rfl) (by rfl) (by exact rfl) ?_
  refine awp_reg ftCOk [(1, .pp 4 0), (2, .pp 5 0), (3, .pp 6 0)] [.row false (.ints .i64 a0_0), .row false (.ints .i64 a0_2), .row false (.pairs a0_3), .row false (.ints .i64 a0_4), .rbox [.sl 0, .v (.int .i64 a0_1), .sl 1, .sl 2, .sl 3], .box [.v (.slice none 0 0), .v (.int .i64 0), .v (.slice none 0 0), .v (.slice none 0 0), .v (.slice none 0 0)], .box [.sl 0, .v (.int .i64 a0_1), .sl 1, .sl 2, .sl 3]] ?_
  replace h := chk_some h
  obtain ⟨hp0, h⟩ := h
  refine awp_reg ftCOk [(1, .pp 4 0), (2, .pp 5 0), (3, .pp 6 0)] [.row false (.ints .i64 a0_0), .row false (.ints .i64 a0_2), .row false (.pairs a0_3), .row false (.ints .i64 a0_4), .rbox [.sl 0, .v (.int .i64 a0_1), .sl 1, .sl 2, .sl 3], .box [.v (.slice none 0 0), .v (.int .i64 0), .v (.slice none 0 0), .v (.slice none 0 0), .v (.slice none 0 0)], .box [.sl 7, .v (.int .i64 a0_1), .sl 1, .sl 2, .sl 3], .row true (.ints .i64 ([] ++ a0_0))] ?_
  clear hp0
  replace h := chk_some h
  obtain ⟨hp0, h⟩ := h
  refine awp_reg ftCOk [(1, .pp 4 0), (2, .pp 5 0), (3, .pp 6 0)] [.row false (.ints .i64 a0_0), .row false (.ints .i64 a0_2), .row false (.pairs a0_3), .row false (.ints .i64 a0_4), .rbox [.sl 0, .v (.int .i64 a0_1), .sl 1, .sl 2, .sl 3], .box [.v (.slice none 0 0), .v (.int .i64 0), .v (.slice none 0 0), .v (.slice none 0 0), .v (.slice none 0 0)], .box [.sl 7, .v (.int .i64 a0_1), .sl 8, .sl 2, .sl 3], .row true (.ints .i64 ([] ++ a0_0)), .row true (.ints .i64 ([] ++ a0_2))] ?_
  clear hp0
  replace h := chk_some h
  obtain ⟨hp0, h⟩ := h
  refine awp_reg ftCOk [(1, .pp 4 0), (2, .pp 5 0), (3, .pp 6 0)] [.row false (.ints .i64 a0_0), .row false (.ints .i64 a0_2), .row false (.pairs a0_3), .row false (.ints .i64 a0_4), .rbox [.sl 0, .v (.int .i64 a0_1), .sl 1, .sl 2, .sl 3], .box [.v (.slice none 0 0), .v (.int .i64 0), .v (.slice none 0 0), .v (.slice none 0 0), .v (.slice none 0 0)], .box [.sl 7, .v (.int .i64 a0_1), .sl 8, .sl 9, .sl 3], .row true (.ints .i64 ([] ++ a0_0)), .row true (.ints .i64 ([] ++ a0_2)), .row true (.pairs ([] ++ a0_3))] ?_
  clear hp0
  replace h := chk_some h
  obtain ⟨hp0, h⟩ := h
  refine awp_reg ftCOk [(2, .pp 5 0), (3, .pp 6 0)] [.row false (.ints .i64 a0_0), .row false (.ints .i64 a0_2), .row false (.pairs a0_3), .row false (.ints .i64 a0_4), .rbox [.sl 0, .v (.int .i64 a0_1), .sl 1, .sl 2, .sl 3], .box [.v (.slice none 0 0), .v (.int .i64 0), .v (.slice none 0 0), .v (.slice none 0 0), .v (.slice none 0 0)], .box [.sl 7, .v (.int .i64 a0_1), .sl 8, .sl 9, .sl 10], .row true (.ints .i64 ([] ++ a0_0)), .row true (.ints .i64 ([] ++ a0_2)), .row true (.pairs ([] ++ a0_3)), .row true (.ints .i64 ([] ++ a0_4))] ?_
  clear hp0
  refine awp_reg ftCOk [(2, .pp 5 0)] [.row false (.ints .i64 a0_0), .row false (.ints .i64 a0_2), .row false (.pairs a0_3), .row false (.ints .i64 a0_4), .rbox [.sl 0, .v (.int .i64 a0_1), .sl 1, .sl 2, .sl 3], .box [.sl 7, .v (.int .i64 a0_1), .sl 8, .sl 9, .sl 10], .box [.sl 7, .v (.int .i64 a0_1), .sl 8, .sl 9, .sl 10], .row true (.ints .i64 ([] ++ a0_0)), .row true (.ints .i64 ([] ++ a0_2)), .row true (.pairs ([] ++ a0_3)), .row true (.ints .i64 ([] ++ a0_4))] ?_
  refine awp_ret ?_
  (try simp only [Thn, InBlk, ↓reduceIte, Nat.reduceEqDiff])
  obtain rfl := Option.some.inj h
  refine ⟨by simp, _, [0, 1, 2, 3, 7, 8, 9, 10], (by simp only [go_sem, Nat.reduceBEq, Nat.reduceLT, Nat.reduceAdd, Nat.reduceLeDiff, Nat.reduceSub, Nat.reduceEqDiff, Int.reduceToNat, reduceCtorEq, ↓reduceIte]; exact rfl), ?_, ?_, ?_, ?_⟩
  · first | exact trivial | exact ⟨trivial, trivial⟩ | exact ⟨trivial, trivial, trivial⟩ | exact ⟨trivial, trivial, trivial, trivial⟩ | (simp only [allP, and_true, true_and]; done) | (simp only [allP, and_true, true_and]; omega)
  · simp [selOk, pos]
  · simp
  · first | exact ⟨rfl, rfl⟩ | (simp only [go_sem, Nat.reduceBEq, Nat.reduceLT, Nat.reduceAdd, Nat.reduceLeDiff, Nat.reduceSub, Nat.reduceEqDiff, Int.reduceToNat, reduceCtorEq, ↓reduceIte]; done) | (simp [go_sem, Nat.reduceBEq, Nat.reduceLT, Nat.reduceAdd, Nat.reduceLeDiff, Nat.reduceSub, Nat.reduceEqDiff, Int.reduceToNat, reduceCtorEq, ↓reduceIte]; done) | (simp only [go_sem, Nat.reduceBEq, Nat.reduceLT, Nat.reduceAdd, Nat.reduceLeDiff, Nat.reduceSub, Nat.reduceEqDiff, Int.reduceToNat, reduceCtorEq, ↓reduceIte]; exact ⟨rfl, rfl⟩) | (simp_all [go_sem, Nat.reduceBEq, Nat.reduceLT, Nat.reduceAdd, Nat.reduceLeDiff, Nat.reduceSub, Nat.reduceEqDiff, Int.reduceToNat, reduceCtorEq, ↓reduceIte]; done)
theorem k_spec_ChannelQuiet (a0_0 : List Int) (a0_1 : Int) (a0_2 : List Int) (a0_3 : List (Int × Int)) (a0_4 : List Int) {r : List Int × Int × List Int × (List (Int × Int)) × List Int} (h : spec_ChannelQuiet a0_0 a0_1 a0_2 a0_3 a0_4 = some r) :
    FnA Try.prog 37 [.agg [.sl 0, .v (.int .i64 a0_1), .sl 1, .sl 2, .sl 3]] [.row false (.ints .i64 a0_0), .row false (.ints .i64 a0_2), .row false (.pairs a0_3), .row false (.ints .i64 a0_4)] [] (fun x H => x = .agg [.sl 4, .v (.int .i64 r.2.1), .sl 5, .sl 6, .sl 7] ∧ H = [.row false (.ints .i64 a0_0), .row false (.ints .i64 a0_2), .row false (.pairs a0_3), .row false (.ints .i64 a0_4), .row true (.ints .i64 r.1), .row true (.ints .i64 r.2.2.1), .row true (.pairs r.2.2.2.1), .row true (.ints .i64 r.2.2.2.2)]) := by
  unfold spec_ChannelQuiet at h
  refine FnA.of (N := 27) (pin := [0, 1, 2, 3]) (rs := [.cell 2 40]) Try.func37 rfl en37 rfl rfl (by simp) (by simp; try omega) ?_
  refine awp_reg ftCOk [(1, .pp 4 0), (2, .pp 5 0)] [.row false (.ints .i64 a0_0), .row false (.ints .i64 a0_2), .row false (.pairs a0_3), .row false (.ints .i64 a0_4), .box [.sl 0, .v (.int .i64 a0_1), .sl 1, .sl 2, .sl 3], .box [.v (.slice none 0 0), .v (.int .i64 0), .v (.slice none 0 0), .v (.slice none 0 0), .v (.slice none 0 0)]] ?_
  refine awp_seq fun K2 hK2 => ?_
  replace h := bind_some h
  obtain ⟨y, hr0, h⟩ := h
  try dsimp only at h
  refine awp_to [(1, .pp 4 0), (2, .pp 5 0), (5, .v (.bool (!y)))] [.row false (.ints .i64 a0_0), .row false (.ints .i64 a0_2), .row false (.pairs a0_3), .row false (.ints .i64 a0_4), .box [.sl 0, .v (.int .i64 a0_1), .sl 1, .sl 2, .sl 3], .box [.v (.slice none 0 0), .v (.int .i64 0), .v (.slice none 0 0), .v (.slice none 0 0), .v (.slice none 0 0)]] ?_ ?_
  · clear h
    intro K hK
    refine awp_region ftCOk ?_
    simp (maxSteps := 4000000) only [go_sem, Nat.reduceBEq, Nat.reduceLT, Nat.reduceAdd, Nat.reduceLeDiff, Nat.reduceSub, Nat.reduceEqDiff, Int.reduceToNat, reduceCtorEq, ↓reduceIte]
    repeat' (first | refine And.intro ?_ ?_ | intro hg)
    all_goals (try simp (disch := omega) only [wrap_fits])
    all_goals first
      | (refine hK _ _ ?_; exact Red.auto)
      | exact trivial
      | assumption
      | omega
      | exact wrap_fits (by omega) (by omega)
      | (refine wpA_callA (k_spec_ChannelValid a0_0 a0_1 a0_2 a0_3 a0_4 (h := hr0)) [0, 1, 2, 3] [] ?_
         rintro x Hc' ⟨rfl, rfl⟩ hlen
         refine vcOps_sound ftCOk ?_
         simp (maxSteps := 4000000) only [go_sem, Nat.reduceBEq, Nat.reduceLT, Nat.reduceAdd, Nat.reduceLeDiff, Nat.reduceSub, Nat.reduceEqDiff, Int.reduceToNat, reduceCtorEq, ↓reduceIte]
         repeat' (first | refine And.intro ?_ ?_ | intro hg)
         all_goals (try simp (disch := omega) only [wrap_fits])
         all_goals first
           | (refine hK _ _ ?_; exact Red.auto)
           | exact trivial
           | assumption
           | omega
           | exact wrap_fits (by omega) (by omega)
           | (simp_all; done)
           | (simp_all; omega))
      | (simp_all; done)
      | (simp_all; omega)
  · clear hr0
    refine awp_cond (t := 5) rfl (fun hc3 => ?_) (fun hc3 => ?_)
    · replace h := bite_t h hc3
      refine awp_reg ftCOk [(2, .pp 5 0)] [.row false (.ints .i64 a0_0), .row false (.ints .i64 a0_2), .row false (.pairs a0_3), .row false (.ints .i64 a0_4), .box [.sl 0, .v (.int .i64 a0_1), .sl 1, .sl 2, .sl 3], .box [.v (.slice none 0 0), .v (.int .i64 0), .v (.slice none 0 0), .v (.slice none 0 0), .v (.slice none 0 0)]] ?_
      refine awp_red (Red.nilCell (o := 5) (i := 0) (.ints .i64 []) rfl rfl rfl) ?_
      refine awp_red (Red.nilCell (o := 5) (i := 2) (.ints .i64 []) rfl rfl rfl) ?_
      refine awp_red (Red.nilCell (o := 5) (i := 3) (.pairs []) rfl rfl rfl) ?_
      refine awp_red (Red.nilCell (o := 5) (i := 4) (.ints .i64 []) rfl rfl rfl) ?_
      refine awp_ret ?_
      (try simp only [Thn, InBlk, ↓reduceIte, Nat.reduceEqDiff])
      obtain rfl := Option.some.inj h
      refine ⟨by simp, _, [0, 1, 2, 3, 6, 7, 8, 9], (by simp only [go_sem, Nat.reduceBEq, Nat.reduceLT, Nat.reduceAdd, Nat.reduceLeDiff, Nat.reduceSub, Nat.reduceEqDiff, Int.reduceToNat, reduceCtorEq, ↓reduceIte]; exact rfl), ?_, ?_, ?_, ?_⟩
      · first | exact trivial | exact ⟨trivial, trivial⟩ | exact ⟨trivial, trivial, trivial⟩ | exact ⟨trivial, trivial, trivial, trivial⟩ | (simp only [allP, and_true, true_and]; done) | (simp only [allP, and_true, true_and]; omega)
      · simp [selOk, pos]
      · simp
      · first | exact ⟨rfl, rfl⟩ | (simp only [go_sem, Nat.reduceBEq, Nat.reduceLT, Nat.reduceAdd, Nat.reduceLeDiff, Nat.reduceSub, Nat.reduceEqDiff, Int.reduceToNat, reduceCtorEq, ↓reduceIte]; done) | (simp [go_sem, Nat.reduceBEq, Nat.reduceLT, Nat.reduceAdd, Nat.reduceLeDiff, Nat.reduceSub, Nat.reduceEqDiff, Int.reduceToNat, reduceCtorEq, ↓reduceIte]; done) | (simp only [go_sem, Nat.reduceBEq, Nat.reduceLT, Nat.reduceAdd, Nat.reduceLeDiff, Nat.reduceSub, Nat.reduceEqDiff, Int.reduceToNat, reduceCtorEq, ↓reduceIte]; exact ⟨rfl, rfl⟩) | (simp_all [go_sem, Nat.reduceBEq, Nat.reduceLT, Nat.reduceAdd, Nat.reduceLeDiff, Nat.reduceSub, Nat.reduceEqDiff, Int.reduceToNat, reduceCtorEq, ↓reduceIte]; done)
    · replace h := bite_f h hc3
      refine awp_skip ?_
      (try simp only [Thn, InBlk, ↓reduceIte, Nat.reduceEqDiff])
      refine hK2 _ _ ?_
      clear hK2
      refine awp_seq fun K17 hK17 => ?_
      refine awp_block ?_
      replace h := bind_some h
      obtain ⟨x30, hx, h⟩ := h
      refine awp_loopL hx (fun ((t1_1, t1_0s, t1_2s, t1_3s, t1_4s) : Int × List Int × List Int × (List (Int × Int)) × List Int) => [(1, .pp 4 0), (2, .pp 9 0)]) (fun ((t1_1, t1_0s, t1_2s, t1_3s, t1_4s) : Int × List Int × List Int × (List (Int × Int)) × List Int) => [.row false (.ints .i64 a0_0), .row false (.ints .i64 a0_2), .row false (.pairs a0_3), .row false (.ints .i64 a0_4), .box [.sl 5, .v (.int .i64 t1_1), .sl 6, .sl 7, .sl 8], .row false (.ints .i64 t1_0s), .row false (.ints .i64 t1_2s), .row false (.pairs t1_3s), .row false (.ints .i64 t1_4s), .box [.v (.slice none 0 0), .v (.int .i64 0), .v (.slice none 0 0), .v (.slice none 0 0), .v (.slice none 0 0)]]) (fun ((t1_1_1, t1_0s_1, t1_2s_1, t1_3s_1, t1_4s_1) : Int × List Int × List Int × (List (Int × Int)) × List Int) => Exit.exit 0) (fun ((t1_1_1, t1_0s_1, t1_2s_1, t1_3s_1, t1_4s_1) : Int × List Int × List Int × (List (Int × Int)) × List Int) => [(1, .pp 4 0), (2, .pp 9 0)]) (fun ((t1_1_1, t1_0s_1, t1_2s_1, t1_3s_1, t1_4s_1) : Int × List Int × List Int × (List (Int × Int)) × List Int) => [.row false (.ints .i64 a0_0), .row false (.ints .i64 a0_2), .row false (.pairs a0_3), .row false (.ints .i64 a0_4), .box [.sl 5, .v (.int .i64 t1_1_1), .sl 6, .sl 7, .sl 8], .row false (.ints .i64 t1_0s_1), .row false (.ints .i64 t1_2s_1), .row false (.pairs t1_3s_1), .row false (.ints .i64 t1_4s_1), .box [.v (.slice none 0 0), .v (.int .i64 0), .v (.slice none 0 0), .v (.slice none 0 0), .v (.slice none 0 0)]]) ?_ ?_ ?_ ?_
      · rintro ⟨t1_1_1, t1_0s_1, t1_2s_1, t1_3s_1, t1_4s_1⟩ hy <;> cases hy
      · clear h hx
        refine Red.trans (Red.dupCell (o := 4) (i := 0) rfl rfl rfl) ?_
        refine Red.trans (Red.dupCell (o := 4) (i := 2) rfl rfl rfl) ?_
        refine Red.trans (Red.dupCell (o := 4) (i := 3) rfl rfl rfl) ?_
        refine Red.trans (Red.dupCell (o := 4) (i := 4) rfl rfl rfl) ?_
        exact Red.selA [0, 1, 2, 3, 4, 6, 7, 8, 9, 5] Red.auto
      · clear h hx
        rintro ⟨t1_1, t1_0s, t1_2s, t1_3s, t1_4s⟩ r h
        unfold spec_ChannelQuiet_b0 at h
        try dsimp only at h
        try dsimp only
        refine awp_seq fun K28 hK28 => ?_
        refine awp_reg ftCOk [(1, .pp 4 0), (2, .pp 9 0), (10, .v (.bool (decide (0 < (t1_3s.length : Int)))))] [.row false (.ints .i64 a0_0), .row false (.ints .i64 a0_2), .row false (.pairs a0_3), .row false (.ints .i64 a0_4), .box [.sl 5, .v (.int .i64 t1_1), .sl 6, .sl 7, .sl 8], .row false (.ints .i64 t1_0s), .row false (.ints .i64 t1_2s), .row false (.pairs t1_3s), .row false (.ints .i64 t1_4s), .box [.v (.slice none 0 0), .v (.int .i64 0), .v (.slice none 0 0), .v (.slice none 0 0), .v (.slice none 0 0)]] ?_
        refine awp_cond (t := 10) rfl (fun hc29 => ?_) (fun hc29 => ?_)
        · replace h := bite_t h hc29
          refine awp_skip ?_
          (try simp only [Thn, InBlk, ↓reduceIte, Nat.reduceEqDiff])
          refine hK28 _ _ ?_
          clear hK28
          refine awp_block ?_
          replace h := bind_some h
          obtain ⟨⟨y_1, y_2, y_3, y_4, y_5, y_6⟩, hr0, h⟩ := h
          try dsimp only at h
          refine awp_end [(1, .pp 4 0), (2, .pp 9 0)] [.row false (.ints .i64 a0_0), .row false (.ints .i64 a0_2), .row false (.pairs a0_3), .row false (.ints .i64 a0_4), .box [.sl 10, .v (.int .i64 y_2), .sl 11, .sl 12, .sl 13], .row false (.ints .i64 t1_0s), .row false (.ints .i64 t1_2s), .row false (.pairs t1_3s), .row false (.ints .i64 t1_4s), .box [.v (.slice none 0 0), .v (.int .i64 0), .v (.slice none 0 0), .v (.slice none 0 0), .v (.slice none 0 0)], .row true (.ints .i64 y_1), .row true (.ints .i64 y_3), .row true (.pairs y_4), .row true (.ints .i64 y_5)] ?_ ?_
          · clear h
            intro K hK
            refine awp_region ftCOk ?_
            simp (maxSteps := 4000000) only [go_sem, Nat.reduceBEq, Nat.reduceLT, Nat.reduceAdd, Nat.reduceLeDiff, Nat.reduceSub, Nat.reduceEqDiff, Int.reduceToNat, reduceCtorEq, ↓reduceIte]
            repeat' (first | refine And.intro ?_ ?_ | intro hg)
            all_goals (try simp (disch := omega) only [wrap_fits])
            all_goals first
              | (refine hK _ _ ?_; exact Red.auto)
              | exact trivial
              | assumption
              | omega
              | exact wrap_fits (by omega) (by omega)
              | (refine wpA_callA (k_spec_ChannelStep t1_0s t1_1 t1_2s t1_3s t1_4s 1 (h := hr0)) [5, 6, 7, 8] [] ?_
                 rintro x Hc' ⟨rfl, rfl⟩ hlen
                 refine vcOps_sound ftCOk ?_
                 simp (maxSteps := 4000000) only [go_sem, Nat.reduceBEq, Nat.reduceLT, Nat.reduceAdd, Nat.reduceLeDiff, Nat.reduceSub, Nat.reduceEqDiff, Int.reduceToNat, reduceCtorEq, ↓reduceIte]
                 repeat' (first | refine And.intro ?_ ?_ | intro hg)
                 all_goals (try simp (disch := omega) only [wrap_fits])
                 all_goals first
                   | (refine hK _ _ ?_; exact Red.auto)
                   | exact trivial
                   | assumption
                   | omega
                   | exact wrap_fits (by omega) (by omega)
                   | (simp_all; done)
                   | (simp_all; omega))
              | (simp_all; done)
              | (simp_all; omega)
          · clear hr0
            (try simp only [Thn, InBlk, ↓reduceIte, Nat.reduceEqDiff])
            obtain rfl := Option.some.inj h
            refine LoopQ.next ?_
            refine Red.trans (Red.freeze (o := 10) rfl) ?_
            refine Red.trans (Red.freeze (o := 11) rfl) ?_
            refine Red.trans (Red.freeze (o := 12) rfl) ?_
            refine Red.trans (Red.freeze (o := 13) rfl) ?_
            exact Red.selA [0, 1, 2, 3, 4, 10, 11, 12, 13, 9] Red.auto
        · replace h := bite_f h hc29
          refine awp_exit ?_
          (try simp only [Thn, InBlk, ↓reduceIte, Nat.reduceEqDiff])
          obtain rfl := Option.some.inj h
          refine LoopQ.out rfl ?_
          exact Red.auto
      · clear hx
        rcases x30 with ⟨t1_1_1, t1_0s_1, t1_2s_1, t1_3s_1, t1_4s_1⟩
        · try dsimp only [Sum.elim_inl, Sum.elim_inr] at h
          try dsimp only [Sum.elim_inl, Sum.elim_inr]
          (try simp only [Thn, InBlk, ↓reduceIte, Nat.reduceEqDiff])
          (try simp only [Thn, InBlk, ↓reduceIte, Nat.reduceEqDiff])
          (try simp only [Thn, InBlk, ↓reduceIte, Nat.reduceEqDiff])
          refine hK17 _ _ ?_
          clear hK17
          refine awp_seq fun K44 hK44 => ?_
          refine awp_block ?_
          replace h := bind_some h
          obtain ⟨x57, hx, h⟩ := h
          refine awp_loopL hx (fun ((t1_1_2, t1_0s_2, t1_2s_2, t1_3s_2, t1_4s_2) : Int × List Int × List Int × (List (Int × Int)) × List Int) => [(1, .pp 4 0), (2, .pp 9 0)]) (fun ((t1_1_2, t1_0s_2, t1_2s_2, t1_3s_2, t1_4s_2) : Int × List Int × List Int × (List (Int × Int)) × List Int) => [.row false (.ints .i64 a0_0), .row false (.ints .i64 a0_2), .row false (.pairs a0_3), .row false (.ints .i64 a0_4), .box [.sl 5, .v (.int .i64 t1_1_2), .sl 6, .sl 7, .sl 8], .row false (.ints .i64 t1_0s_2), .row false (.ints .i64 t1_2s_2), .row false (.pairs t1_3s_2), .row false (.ints .i64 t1_4s_2), .box [.v (.slice none 0 0), .v (.int .i64 0), .v (.slice none 0 0), .v (.slice none 0 0), .v (.slice none 0 0)]]) (fun ((t1_1_3, t1_0s_3, t1_2s_3, t1_3s_3, t1_4s_3) : Int × List Int × List Int × (List (Int × Int)) × List Int) => Exit.exit 2) (fun ((t1_1_3, t1_0s_3, t1_2s_3, t1_3s_3, t1_4s_3) : Int × List Int × List Int × (List (Int × Int)) × List Int) => [(1, .pp 4 0), (2, .pp 9 0)]) (fun ((t1_1_3, t1_0s_3, t1_2s_3, t1_3s_3, t1_4s_3) : Int × List Int × List Int × (List (Int × Int)) × List Int) => [.row false (.ints .i64 a0_0), .row false (.ints .i64 a0_2), .row false (.pairs a0_3), .row false (.ints .i64 a0_4), .box [.sl 5, .v (.int .i64 t1_1_3), .sl 6, .sl 7, .sl 8], .row false (.ints .i64 t1_0s_3), .row false (.ints .i64 t1_2s_3), .row false (.pairs t1_3s_3), .row false (.ints .i64 t1_4s_3), .box [.v (.slice none 0 0), .v (.int .i64 0), .v (.slice none 0 0), .v (.slice none 0 0), .v (.slice none 0 0)]]) ?_ ?_ ?_ ?_
          · rintro ⟨t1_1_3, t1_0s_3, t1_2s_3, t1_3s_3, t1_4s_3⟩ hy <;> cases hy
          · clear h hx
            exact Red.auto
          · clear h hx
            rintro ⟨t1_1_2, t1_0s_2, t1_2s_2, t1_3s_2, t1_4s_2⟩ r h
            unfold spec_ChannelQuiet_b1 at h
            try dsimp only at h
            try dsimp only
            refine awp_seq fun K55 hK55 => ?_
            refine awp_reg ftCOk [(1, .pp 4 0), (2, .pp 9 0), (19, .v (.bool (decide (0 < (t1_4s_2.length : Int)))))] [.row false (.ints .i64 a0_0), .row false (.ints .i64 a0_2), .row false (.pairs a0_3), .row false (.ints .i64 a0_4), .box [.sl 5, .v (.int .i64 t1_1_2), .sl 6, .sl 7, .sl 8], .row false (.ints .i64 t1_0s_2), .row false (.ints .i64 t1_2s_2), .row false (.pairs t1_3s_2), .row false (.ints .i64 t1_4s_2), .box [.v (.slice none 0 0), .v (.int .i64 0), .v (.slice none 0 0), .v (.slice none 0 0), .v (.slice none 0 0)]] ?_
            refine awp_cond (t := 19) rfl (fun hc56 => ?_) (fun hc56 => ?_)
            · replace h := bite_t h hc56
              refine awp_skip ?_
              (try simp only [Thn, InBlk, ↓reduceIte, Nat.reduceEqDiff])
              refine hK55 _ _ ?_
              clear hK55
              refine awp_block ?_
              replace h := bind_some h
              obtain ⟨⟨y_7, y_8, y_9, y_10, y_11, y_12⟩, hr0, h⟩ := h
              try dsimp only at h
              refine awp_end [(1, .pp 4 0), (2, .pp 9 0)] [.row false (.ints .i64 a0_0), .row false (.ints .i64 a0_2), .row false (.pairs a0_3), .row false (.ints .i64 a0_4), .box [.sl 10, .v (.int .i64 y_8), .sl 11, .sl 12, .sl 13], .row false (.ints .i64 t1_0s_2), .row false (.ints .i64 t1_2s_2), .row false (.pairs t1_3s_2), .row false (.ints .i64 t1_4s_2), .box [.v (.slice none 0 0), .v (.int .i64 0), .v (.slice none 0 0), .v (.slice none 0 0), .v (.slice none 0 0)], .row true (.ints .i64 y_7), .row true (.ints .i64 y_9), .row true (.pairs y_10), .row true (.ints .i64 y_11)] ?_ ?_
              · clear h
                intro K hK
                refine awp_region ftCOk ?_
                simp (maxSteps := 4000000) only [go_sem, Nat.reduceBEq, Nat.reduceLT, Nat.reduceAdd, Nat.reduceLeDiff, Nat.reduceSub, Nat.reduceEqDiff, Int.reduceToNat, reduceCtorEq, ↓reduceIte]
                repeat' (first | refine And.intro ?_ ?_ | intro hg)
                all_goals (try simp (disch := omega) only [wrap_fits])
                all_goals first
                  | (refine hK _ _ ?_; exact Red.auto)
                  | exact trivial
                  | assumption
                  | omega
                  | exact wrap_fits (by omega) (by omega)
                  | (refine wpA_callA (k_spec_ChannelStep t1_0s_2 t1_1_2 t1_2s_2 t1_3s_2 t1_4s_2 6 (h := hr0)) [5, 6, 7, 8] [] ?_
                     rintro x Hc' ⟨rfl, rfl⟩ hlen
                     refine vcOps_sound ftCOk ?_
                     simp (maxSteps := 4000000) only [go_sem, Nat.reduceBEq, Nat.reduceLT, Nat.reduceAdd, Nat.reduceLeDiff, Nat.reduceSub, Nat.reduceEqDiff, Int.reduceToNat, reduceCtorEq, ↓reduceIte]
                     repeat' (first | refine And.intro ?_ ?_ | intro hg)
                     all_goals (try simp (disch := omega) only [wrap_fits])
                     all_goals first
                       | (refine hK _ _ ?_; exact Red.auto)
                       | exact trivial
                       | assumption
                       | omega
                       | exact wrap_fits (by omega) (by omega)
                       | (simp_all; done)
                       | (simp_all; omega))
                  | (simp_all; done)
                  | (simp_all; omega)
              · clear hr0
                (try simp only [Thn, InBlk, ↓reduceIte, Nat.reduceEqDiff])
                obtain rfl := Option.some.inj h
                refine LoopQ.next ?_
                refine Red.trans (Red.freeze (o := 10) rfl) ?_
                refine Red.trans (Red.freeze (o := 11) rfl) ?_
                refine Red.trans (Red.freeze (o := 12) rfl) ?_
                refine Red.trans (Red.freeze (o := 13) rfl) ?_
                exact Red.selA [0, 1, 2, 3, 4, 10, 11, 12, 13, 9] Red.auto
            · replace h := bite_f h hc56
              refine awp_exit ?_
              (try simp only [Thn, InBlk, ↓reduceIte, Nat.reduceEqDiff])
              obtain rfl := Option.some.inj h
              refine LoopQ.out rfl ?_
              exact Red.auto
          · clear hx
            rcases x57 with ⟨t1_1_3, t1_0s_3, t1_2s_3, t1_3s_3, t1_4s_3⟩
            · try dsimp only [Sum.elim_inl, Sum.elim_inr] at h
              try dsimp only [Sum.elim_inl, Sum.elim_inr]
              (try simp only [Thn, InBlk, ↓reduceIte, Nat.reduceEqDiff])
              (try simp only [Thn, InBlk, ↓reduceIte, Nat.reduceEqDiff])
              (try simp only [Thn, InBlk, ↓reduceIte, Nat.reduceEqDiff])
              refine hK44 _ _ ?_
              clear hK44
              replace h := bind_some h
              obtain ⟨⟨y_13, y_14, y_15, y_16, y_17⟩, hr0, h⟩ := h
              try dsimp only at h
              refine awp_to [(2, .pp 9 0)] [.row false (.ints .i64 a0_0), .row false (.ints .i64 a0_2), .row false (.pairs a0_3), .row false (.ints .i64 a0_4), .box [.sl 5, .v (.int .i64 t1_1_3), .sl 6, .sl 7, .sl 8], .row false (.ints .i64 t1_0s_3), .row false (.ints .i64 t1_2s_3), .row false (.pairs t1_3s_3), .row false (.ints .i64 t1_4s_3), .box [.sl 10, .v (.int .i64 y_14), .sl 11, .sl 12, .sl 13], .row true (.ints .i64 y_13), .row true (.ints .i64 y_15), .row true (.pairs y_16), .row true (.ints .i64 y_17)] ?_ ?_
              · clear h
                intro K hK
                refine awp_region ftCOk ?_
                simp (maxSteps := 4000000) only [go_sem, Nat.reduceBEq, Nat.reduceLT, Nat.reduceAdd, Nat.reduceLeDiff, Nat.reduceSub, Nat.reduceEqDiff, Int.reduceToNat, reduceCtorEq, ↓reduceIte]
                repeat' (first | refine And.intro ?_ ?_ | intro hg)
                all_goals (try simp (disch := omega) only [wrap_fits])
                all_goals first
                  | (refine hK _ _ ?_; exact Red.auto)
                  | exact trivial
                  | assumption
                  | omega
                  | exact wrap_fits (by omega) (by omega)
                  | (refine wpA_callA (k_spec_l16Copy t1_0s_3 t1_1_3 t1_2s_3 t1_3s_3 t1_4s_3 (h := hr0)) [5, 6, 7, 8] [] ?_
                     rintro x Hc' ⟨rfl, rfl⟩ hlen
                     refine vcOps_sound ftCOk ?_
                     simp (maxSteps := 4000000) only [go_sem, Nat.reduceBEq, Nat.reduceLT, Nat.reduceAdd, Nat.reduceLeDiff, Nat.reduceSub, Nat.reduceEqDiff, Int.reduceToNat, reduceCtorEq, ↓reduceIte]
                     repeat' (first | refine And.intro ?_ ?_ | intro hg)
                     all_goals (try simp (disch := omega) only [wrap_fits])
                     all_goals first
                       | (refine hK _ _ ?_; exact Red.auto)
                       | exact trivial
                       | assumption
                       | omega
                       | exact wrap_fits (by omega) (by omega)
                       | (simp_all; done)
                       | (simp_all; omega))
                  | (simp_all; done)
                  | (simp_all; omega)
              · clear hr0
                refine awp_ret ?_
                (try simp only [Thn, InBlk, ↓reduceIte, Nat.reduceEqDiff])
                obtain rfl := Option.some.inj h
                refine ⟨by simp, _, [0, 1, 2, 3, 10, 11, 12, 13], (by simp only [go_sem, Nat.reduceBEq, Nat.reduceLT, Nat.reduceAdd, Nat.reduceLeDiff, Nat.reduceSub, Nat.reduceEqDiff, Int.reduceToNat, reduceCtorEq, ↓reduceIte]; exact rfl), ?_, ?_, ?_, ?_⟩
                · first | exact trivial | exact ⟨trivial, trivial⟩ | exact ⟨trivial, trivial, trivial⟩ | exact ⟨trivial, trivial, trivial, trivial⟩ | (simp only [allP, and_true, true_and]; done) | (simp only [allP, and_true, true_and]; omega)
                · simp [selOk, pos]
                · simp
                · first | exact ⟨rfl, rfl⟩ | (simp only [go_sem, Nat.reduceBEq, Nat.reduceLT, Nat.reduceAdd, Nat.reduceLeDiff, Nat.reduceSub, Nat.reduceEqDiff, Int.reduceToNat, reduceCtorEq, ↓reduceIte]; done) | (simp [go_sem, Nat.reduceBEq, Nat.reduceLT, Nat.reduceAdd, Nat.reduceLeDiff, Nat.reduceSub, Nat.reduceEqDiff, Int.reduceToNat, reduceCtorEq, ↓reduceIte]; done) | (simp only [go_sem, Nat.reduceBEq, Nat.reduceLT, Nat.reduceAdd, Nat.reduceLeDiff, Nat.reduceSub, Nat.reduceEqDiff, Int.reduceToNat, reduceCtorEq, ↓reduceIte]; exact ⟨rfl, rfl⟩) | (simp_all [go_sem, Nat.reduceBEq, Nat.reduceLT, Nat.reduceAdd, Nat.reduceLeDiff, Nat.reduceSub, Nat.reduceEqDiff, Int.reduceToNat, reduceCtorEq, ↓reduceIte]; done)
theorem k_spec_ChannelDone (a0_0 : List Int) (a0_1 : Int) (a0_2 : List Int) (a0_3 : List (Int × Int)) (a0_4 : List Int) {r : Bool} (h : spec_ChannelDone a0_0 a0_1 a0_2 a0_3 a0_4 = some r) :
    FnA Try.prog 81 [.agg [.sl 0, .v (.int .i64 a0_1), .sl 1, .sl 2, .sl 3]] [.row false (.ints .i64 a0_0), .row false (.ints .i64 a0_2), .row false (.pairs a0_3), .row false (.ints .i64 a0_4)] [] (fun x H => x = .v (.bool r) ∧ H = [.row false (.ints .i64 a0_0), .row false (.ints .i64 a0_2), .row false (.pairs a0_3), .row false (.ints .i64 a0_4)]) := by
  unfold spec_ChannelDone at h
  refine FnA.of (N := 13) (pin := [0, 1, 2, 3]) (rs := [.tmp 2]) Try.func81 rfl en81 rfl rfl (by simp) (by simp; try omega) ?_
  refine awp_reg ftCOk [(1, .pp 4 0)] [.row false (.ints .i64 a0_0), .row false (.ints .i64 a0_2), .row false (.pairs a0_3), .row false (.ints .i64 a0_4), .box [.sl 0, .v (.int .i64 a0_1), .sl 1, .sl 2, .sl 3]] ?_
  refine awp_freeze 1 (by rfl) (by rfl) (by exact rfl) ?_
  replace h := bind_some h
  obtain ⟨y, hr0, h⟩ := h
  try dsimp only at h
  refine awp_to [(2, .v (.bool (y && (a0_1 == (a0_0.length : Int)))))] [.row false (.ints .i64 a0_0), .row false (.ints .i64 a0_2), .row false (.pairs a0_3), .row false (.ints .i64 a0_4), .rbox [.sl 0, .v (.int .i64 a0_1), .sl 1, .sl 2, .sl 3]] ?_ ?_
  · clear h
    intro K hK
    refine awp_region ftCOk ?_
    simp (maxSteps := 4000000) only [go_sem, Nat.reduceBEq, Nat.reduceLT, Nat.reduceAdd, Nat.reduceLeDiff, Nat.reduceSub, Nat.reduceEqDiff, Int.reduceToNat, reduceCtorEq, ↓reduceIte]
    repeat' (first | refine And.intro ?_ ?_ | intro hg)
    all_goals (try simp (disch := omega) only [wrap_fits])
    all_goals first
      | (refine hK _ _ ?_; exact Red.auto)
      | exact trivial
      | assumption
      | omega
      | exact wrap_fits (by omega) (by omega)
      | (refine wpA_callA (k_spec_ChannelValid a0_0 a0_1 a0_2 a0_3 a0_4 (h := hr0)) [0, 1, 2, 3] [] ?_
         rintro x Hc' ⟨rfl, rfl⟩ hlen
         refine vcOps_sound ftCOk ?_
         simp (maxSteps := 4000000) only [go_sem, Nat.reduceBEq, Nat.reduceLT, Nat.reduceAdd, Nat.reduceLeDiff, Nat.reduceSub, Nat.reduceEqDiff, Int.reduceToNat, reduceCtorEq, ↓reduceIte]
         repeat' (first | refine And.intro ?_ ?_ | intro hg)
         all_goals (try simp (disch := omega) only [wrap_fits])
         all_goals first
           | (refine hK _ _ ?_; exact Red.auto)
           | exact trivial
           | assumption
           | omega
           | exact wrap_fits (by omega) (by omega)
           | (simp_all; done)
           | (simp_all; omega))
      | (simp_all; done)
      | (simp_all; omega)
  · clear hr0
    refine awp_ret ?_
    (try simp only [Thn, InBlk, ↓reduceIte, Nat.reduceEqDiff])
    obtain rfl := Option.some.inj h
    refine ⟨by simp, _, [0, 1, 2, 3], (by simp only [go_sem, Nat.reduceBEq, Nat.reduceLT, Nat.reduceAdd, Nat.reduceLeDiff, Nat.reduceSub, Nat.reduceEqDiff, Int.reduceToNat, reduceCtorEq, ↓reduceIte]; exact rfl), ?_, ?_, ?_, ?_⟩
    · first | exact trivial | exact ⟨trivial, trivial⟩ | exact ⟨trivial, trivial, trivial⟩ | exact ⟨trivial, trivial, trivial, trivial⟩ | (simp only [allP, and_true, true_and]; done) | (simp only [allP, and_true, true_and]; omega)
    · simp [selOk, pos]
    · simp
    · first | exact ⟨rfl, rfl⟩ | (simp only [go_sem, Nat.reduceBEq, Nat.reduceLT, Nat.reduceAdd, Nat.reduceLeDiff, Nat.reduceSub, Nat.reduceEqDiff, Int.reduceToNat, reduceCtorEq, ↓reduceIte]; done) | (simp [go_sem, Nat.reduceBEq, Nat.reduceLT, Nat.reduceAdd, Nat.reduceLeDiff, Nat.reduceSub, Nat.reduceEqDiff, Int.reduceToNat, reduceCtorEq, ↓reduceIte]; done) | (simp only [go_sem, Nat.reduceBEq, Nat.reduceLT, Nat.reduceAdd, Nat.reduceLeDiff, Nat.reduceSub, Nat.reduceEqDiff, Int.reduceToNat, reduceCtorEq, ↓reduceIte]; exact ⟨rfl, rfl⟩) | (simp_all [go_sem, Nat.reduceBEq, Nat.reduceLT, Nat.reduceAdd, Nat.reduceLeDiff, Nat.reduceSub, Nat.reduceEqDiff, Int.reduceToNat, reduceCtorEq, ↓reduceIte]; done)
theorem k_spec_ChannelFinish (a0_0 : List Int) (a0_1 : Int) (a0_2 : List Int) (a0_3 : List (Int × Int)) (a0_4 : List Int) {r : List Int × Int × List Int × (List (Int × Int)) × List Int × Int} (h : spec_ChannelFinish a0_0 a0_1 a0_2 a0_3 a0_4 = some r) :
    FnA Try.prog 25 [.agg [.sl 0, .v (.int .i64 a0_1), .sl 1, .sl 2, .sl 3]] [.row false (.ints .i64 a0_0), .row false (.ints .i64 a0_2), .row false (.pairs a0_3), .row false (.ints .i64 a0_4)] [] (fun x H => x = .tup [.agg [.sl 4, .v (.int .i64 r.2.1), .sl 5, .sl 6, .sl 7], .v (.int .i64 r.2.2.2.2.2)] ∧ H = [.row false (.ints .i64 a0_0), .row false (.ints .i64 a0_2), .row false (.pairs a0_3), .row false (.ints .i64 a0_4), .row true (.ints .i64 r.1), .row true (.ints .i64 r.2.2.1), .row true (.pairs r.2.2.2.1), .row true (.ints .i64 r.2.2.2.2.1)]) := by
  unfold spec_ChannelFinish at h
  refine FnA.of (N := 37) (pin := [0, 1, 2, 3]) (rs := [.cell 2 40, .tmp 3]) Try.func25 rfl en25 rfl rfl (by simp) (by simp; try omega) ?_
  refine awp_reg ftCOk [(1, .pp 4 0), (2, .pp 5 0)] [.row false (.ints .i64 a0_0), .row false (.ints .i64 a0_2), .row false (.pairs a0_3), .row false (.ints .i64 a0_4), .box [.sl 0, .v (.int .i64 a0_1), .sl 1, .sl 2, .sl 3], .box [.v (.slice none 0 0), .v (.int .i64 0), .v (.slice none 0 0), .v (.slice none 0 0), .v (.slice none 0 0)]] ?_
  replace h := bind_some h
  obtain ⟨⟨y, y_1, y_2, y_3, y_4⟩, hr0, h⟩ := h
  try dsimp only at h
  refine awp_to [(1, .pp 4 0), (2, .pp 5 0)] [.row false (.ints .i64 a0_0), .row false (.ints .i64 a0_2), .row false (.pairs a0_3), .row false (.ints .i64 a0_4), .box [.sl 6, .v (.int .i64 y_1), .sl 7, .sl 8, .sl 9], .box [.v (.slice none 0 0), .v (.int .i64 0), .v (.slice none 0 0), .v (.slice none 0 0), .v (.slice none 0 0)], .row true (.ints .i64 y), .row true (.ints .i64 y_2), .row true (.pairs y_3), .row true (.ints .i64 y_4)] ?_ ?_
  · clear h
    intro K hK
    refine awp_region ftCOk ?_
    simp (maxSteps := 4000000) only [go_sem, Nat.reduceBEq, Nat.reduceLT, Nat.reduceAdd, Nat.reduceLeDiff, Nat.reduceSub, Nat.reduceEqDiff, Int.reduceToNat, reduceCtorEq, ↓reduceIte]
    repeat' (first | refine And.intro ?_ ?_ | intro hg)
    all_goals (try simp (disch := omega) only [wrap_fits])
    all_goals first
      | (refine hK _ _ ?_; exact Red.auto)
      | exact trivial
      | assumption
      | omega
      | exact wrap_fits (by omega) (by omega)
      | (refine wpA_callA (k_spec_l1OwnChannel a0_0 a0_1 a0_2 a0_3 a0_4 (h := hr0)) [0, 1, 2, 3] [] ?_
         rintro x Hc' ⟨rfl, rfl⟩ hlen
         refine vcOps_sound ftCOk ?_
         simp (maxSteps := 4000000) only [go_sem, Nat.reduceBEq, Nat.reduceLT, Nat.reduceAdd, Nat.reduceLeDiff, Nat.reduceSub, Nat.reduceEqDiff, Int.reduceToNat, reduceCtorEq, ↓reduceIte]
         repeat' (first | refine And.intro ?_ ?_ | intro hg)
         all_goals (try simp (disch := omega) only [wrap_fits])
         all_goals first
           | (refine hK _ _ ?_; exact Red.auto)
           | exact trivial
           | assumption
           | omega
           | exact wrap_fits (by omega) (by omega)
           | (simp_all; done)
           | (simp_all; omega))
      | (simp_all; done)
      | (simp_all; omega)
  · clear hr0
    refine awp_seq fun K2 hK2 => ?_
    replace h := bind_some h
    obtain ⟨y_5, hr0, h⟩ := h
    try dsimp only at h
    refine awp_to [(1, .pp 4 0), (2, .pp 5 0), (9, .v (.bool (!y_5)))] [.row false (.ints .i64 a0_0), .row false (.ints .i64 a0_2), .row false (.pairs a0_3), .row false (.ints .i64 a0_4), .box [.sl 6, .v (.int .i64 y_1), .sl 7, .sl 8, .sl 9], .box [.v (.slice none 0 0), .v (.int .i64 0), .v (.slice none 0 0), .v (.slice none 0 0), .v (.slice none 0 0)], .row true (.ints .i64 y), .row true (.ints .i64 y_2), .row true (.pairs y_3), .row true (.ints .i64 y_4)] ?_ ?_
    · clear h
      intro K hK
      refine awp_region ftCOk ?_
      simp (maxSteps := 4000000) only [go_sem, Nat.reduceBEq, Nat.reduceLT, Nat.reduceAdd, Nat.reduceLeDiff, Nat.reduceSub, Nat.reduceEqDiff, Int.reduceToNat, reduceCtorEq, ↓reduceIte]
      repeat' (first | refine And.intro ?_ ?_ | intro hg)
      all_goals (try simp (disch := omega) only [wrap_fits])
      all_goals first
        | (refine hK _ _ ?_; exact Red.auto)
        | exact trivial
        | assumption
        | omega
        | exact wrap_fits (by omega) (by omega)
        | (refine wpA_callA (k_spec_ChannelValid y y_1 y_2 y_3 y_4 (h := hr0)) [6, 7, 8, 9] [] ?_
           rintro x Hc' ⟨rfl, rfl⟩ hlen
           refine vcOps_sound ftCOk ?_
           simp (maxSteps := 4000000) only [go_sem, Nat.reduceBEq, Nat.reduceLT, Nat.reduceAdd, Nat.reduceLeDiff, Nat.reduceSub, Nat.reduceEqDiff, Int.reduceToNat, reduceCtorEq, ↓reduceIte]
           repeat' (first | refine And.intro ?_ ?_ | intro hg)
           all_goals (try simp (disch := omega) only [wrap_fits])
           all_goals first
             | (refine hK _ _ ?_; exact Red.auto)
             | exact trivial
             | assumption
             | omega
             | exact wrap_fits (by omega) (by omega)
             | (simp_all; done)
             | (simp_all; omega))
        | (simp_all; done)
        | (simp_all; omega)
    · clear hr0
      refine awp_cond (t := 9) rfl (fun hc3 => ?_) (fun hc3 => ?_)
      · replace h := bite_t h hc3
        refine awp_reg ftCOk [(2, .pp 5 0), (3, .v (.int .i64 (-1)))] [.row false (.ints .i64 a0_0), .row false (.ints .i64 a0_2), .row false (.pairs a0_3), .row false (.ints .i64 a0_4), .box [.sl 6, .v (.int .i64 y_1), .sl 7, .sl 8, .sl 9], .box [.v (.slice none 0 0), .v (.int .i64 0), .v (.slice none 0 0), .v (.slice none 0 0), .v (.slice none 0 0)], .row true (.ints .i64 y), .row true (.ints .i64 y_2), .row true (.pairs y_3), .row true (.ints .i64 y_4)] ?_
        refine awp_red (Red.nilCell (o := 5) (i := 0) (.ints .i64 []) rfl rfl rfl) ?_
        refine awp_red (Red.nilCell (o := 5) (i := 2) (.ints .i64 []) rfl rfl rfl) ?_
        refine awp_red (Red.nilCell (o := 5) (i := 3) (.pairs []) rfl rfl rfl) ?_
        refine awp_red (Red.nilCell (o := 5) (i := 4) (.ints .i64 []) rfl rfl rfl) ?_
        refine awp_ret ?_
        (try simp only [Thn, InBlk, ↓reduceIte, Nat.reduceEqDiff])
        obtain rfl := Option.some.inj h
        refine ⟨by simp, _, [0, 1, 2, 3, 10, 11, 12, 13], (by simp only [go_sem, Nat.reduceBEq, Nat.reduceLT, Nat.reduceAdd, Nat.reduceLeDiff, Nat.reduceSub, Nat.reduceEqDiff, Int.reduceToNat, reduceCtorEq, ↓reduceIte]; exact rfl), ?_, ?_, ?_, ?_⟩
        · first | exact trivial | exact ⟨trivial, trivial⟩ | exact ⟨trivial, trivial, trivial⟩ | exact ⟨trivial, trivial, trivial, trivial⟩ | (simp only [allP, and_true, true_and]; done) | (simp only [allP, and_true, true_and]; omega)
        · simp [selOk, pos]
        · simp
        · first | exact ⟨rfl, rfl⟩ | (simp only [go_sem, Nat.reduceBEq, Nat.reduceLT, Nat.reduceAdd, Nat.reduceLeDiff, Nat.reduceSub, Nat.reduceEqDiff, Int.reduceToNat, reduceCtorEq, ↓reduceIte]; done) | (simp [go_sem, Nat.reduceBEq, Nat.reduceLT, Nat.reduceAdd, Nat.reduceLeDiff, Nat.reduceSub, Nat.reduceEqDiff, Int.reduceToNat, reduceCtorEq, ↓reduceIte]; done) | (simp only [go_sem, Nat.reduceBEq, Nat.reduceLT, Nat.reduceAdd, Nat.reduceLeDiff, Nat.reduceSub, Nat.reduceEqDiff, Int.reduceToNat, reduceCtorEq, ↓reduceIte]; exact ⟨rfl, rfl⟩) | (simp_all [go_sem, Nat.reduceBEq, Nat.reduceLT, Nat.reduceAdd, Nat.reduceLeDiff, Nat.reduceSub, Nat.reduceEqDiff, Int.reduceToNat, reduceCtorEq, ↓reduceIte]; done)
      · replace h := bite_f h hc3
        refine awp_skip ?_
        (try simp only [Thn, InBlk, ↓reduceIte, Nat.reduceEqDiff])
        refine hK2 _ _ ?_
        clear hK2
        replace h := bind_some h
        obtain ⟨⟨y_6, y_7, y_8, y_9, y_10⟩, hr0, h⟩ := h
        try dsimp only at h
        refine awp_to [(1, .pp 4 0), (2, .pp 5 0)] [.row false (.ints .i64 a0_0), .row false (.ints .i64 a0_2), .row false (.pairs a0_3), .row false (.ints .i64 a0_4), .box [.sl 10, .v (.int .i64 y_7), .sl 11, .sl 12, .sl 13], .box [.v (.slice none 0 0), .v (.int .i64 0), .v (.slice none 0 0), .v (.slice none 0 0), .v (.slice none 0 0)], .row true (.ints .i64 y), .row true (.ints .i64 y_2), .row true (.pairs y_3), .row true (.ints .i64 y_4), .row true (.ints .i64 y_6), .row true (.ints .i64 y_8), .row true (.pairs y_9), .row true (.ints .i64 y_10)] ?_ ?_
        · clear h
          intro K hK
          refine awp_region ftCOk ?_
          simp (maxSteps := 4000000) only [go_sem, Nat.reduceBEq, Nat.reduceLT, Nat.reduceAdd, Nat.reduceLeDiff, Nat.reduceSub, Nat.reduceEqDiff, Int.reduceToNat, reduceCtorEq, ↓reduceIte]
          repeat' (first | refine And.intro ?_ ?_ | intro hg)
          all_goals (try simp (disch := omega) only [wrap_fits])
          all_goals first
            | (refine hK _ _ ?_; exact Red.auto)
            | exact trivial
            | assumption
            | omega
            | exact wrap_fits (by omega) (by omega)
            | (refine wpA_callA (k_spec_ChannelQuiet y y_1 y_2 y_3 y_4 (h := hr0)) [6, 7, 8, 9] [] ?_
               rintro x Hc' ⟨rfl, rfl⟩ hlen
               refine vcOps_sound ftCOk ?_
               simp (maxSteps := 4000000) only [go_sem, Nat.reduceBEq, Nat.reduceLT, Nat.reduceAdd, Nat.reduceLeDiff, Nat.reduceSub, Nat.reduceEqDiff, Int.reduceToNat, reduceCtorEq, ↓reduceIte]
               repeat' (first | refine And.intro ?_ ?_ | intro hg)
               all_goals (try simp (disch := omega) only [wrap_fits])
               all_goals first
                 | (refine hK _ _ ?_; exact Red.auto)
                 | exact trivial
                 | assumption
                 | omega
                 | exact wrap_fits (by omega) (by omega)
                 | (simp_all; done)
                 | (simp_all; omega))
            | (simp_all; done)
            | (simp_all; omega)
        · clear hr0
          refine awp_reg ftCOk [(1, .pp 4 0), (2, .pp 5 0), (4, .v (.int .i64 0))] [.row false (.ints .i64 a0_0), .row false (.ints .i64 a0_2), .row false (.pairs a0_3), .row false (.ints .i64 a0_4), .box [.sl 10, .v (.int .i64 y_7), .sl 11, .sl 12, .sl 13], .box [.v (.slice none 0 0), .v (.int .i64 0), .v (.slice none 0 0), .v (.slice none 0 0), .v (.slice none 0 0)], .row true (.ints .i64 y), .row true (.ints .i64 y_2), .row true (.pairs y_3), .row true (.ints .i64 y_4), .row true (.ints .i64 y_6), .row true (.ints .i64 y_8), .row true (.pairs y_9), .row true (.ints .i64 y_10)] ?_
          refine awp_seq fun K14 hK14 => ?_
          refine awp_block ?_
          replace h := bind_some h
          obtain ⟨x24, hx, h⟩ := h
          refine awp_loopL hx (fun ((t4, t1_1, t1_0s, t1_2s, t1_3s, t1_4s) : Int × Int × List Int × List Int × (List (Int × Int)) × List Int) => [(1, .pp 4 0), (2, .pp 9 0), (4, .v (.int .i64 t4))]) (fun ((t4, t1_1, t1_0s, t1_2s, t1_3s, t1_4s) : Int × Int × List Int × List Int × (List (Int × Int)) × List Int) => [.row false (.ints .i64 a0_0), .row false (.ints .i64 a0_2), .row false (.pairs a0_3), .row false (.ints .i64 a0_4), .box [.sl 5, .v (.int .i64 t1_1), .sl 6, .sl 7, .sl 8], .row true (.ints .i64 t1_0s), .row true (.ints .i64 t1_2s), .row true (.pairs t1_3s), .row true (.ints .i64 t1_4s), .box [.v (.slice none 0 0), .v (.int .i64 0), .v (.slice none 0 0), .v (.slice none 0 0), .v (.slice none 0 0)]]) (fun ((t4_1, t1_1_1, t1_0s_1, t1_2s_1, t1_3s_1, t1_4s_1) : Int × Int × List Int × List Int × (List (Int × Int)) × List Int) => Exit.exit 0) (fun ((t4_1, t1_1_1, t1_0s_1, t1_2s_1, t1_3s_1, t1_4s_1) : Int × Int × List Int × List Int × (List (Int × Int)) × List Int) => [(1, .pp 4 0), (2, .pp 9 0), (4, .v (.int .i64 t4_1))]) (fun ((t4_1, t1_1_1, t1_0s_1, t1_2s_1, t1_3s_1, t1_4s_1) : Int × Int × List Int × List Int × (List (Int × Int)) × List Int) => [.row false (.ints .i64 a0_0), .row false (.ints .i64 a0_2), .row false (.pairs a0_3), .row false (.ints .i64 a0_4), .box [.sl 5, .v (.int .i64 t1_1_1), .sl 6, .sl 7, .sl 8], .row true (.ints .i64 t1_0s_1), .row true (.ints .i64 t1_2s_1), .row true (.pairs t1_3s_1), .row true (.ints .i64 t1_4s_1), .box [.v (.slice none 0 0), .v (.int .i64 0), .v (.slice none 0 0), .v (.slice none 0 0), .v (.slice none 0 0)]]) ?_ ?_ ?_ ?_
          · rintro ⟨t4_1, t1_1_1, t1_0s_1, t1_2s_1, t1_3s_1, t1_4s_1⟩ hy <;> cases hy
          · clear h hx
            exact Red.selA [0, 1, 2, 3, 4, 10, 11, 12, 13, 5] Red.auto
          · clear h hx
            rintro ⟨t4, t1_1, t1_0s, t1_2s, t1_3s, t1_4s⟩ r h
            unfold spec_ChannelFinish_b0 at h
            try dsimp only at h
            try dsimp only
            refine awp_seq fun K22 hK22 => ?_
            replace h := bind_some h
            obtain ⟨y_11, hr0, h⟩ := h
            try dsimp only at h
            refine awp_to [(1, .pp 4 0), (2, .pp 9 0), (4, .v (.int .i64 t4)), (15, .v (.bool (!y_11)))] [.row false (.ints .i64 a0_0), .row false (.ints .i64 a0_2), .row false (.pairs a0_3), .row false (.ints .i64 a0_4), .box [.sl 5, .v (.int .i64 t1_1), .sl 6, .sl 7, .sl 8], .row true (.ints .i64 t1_0s), .row true (.ints .i64 t1_2s), .row true (.pairs t1_3s), .row true (.ints .i64 t1_4s), .box [.v (.slice none 0 0), .v (.int .i64 0), .v (.slice none 0 0), .v (.slice none 0 0), .v (.slice none 0 0)]] ?_ ?_
            · clear h
              intro K hK
              refine awp_region ftCOk ?_
              simp (maxSteps := 4000000) only [go_sem, Nat.reduceBEq, Nat.reduceLT, Nat.reduceAdd, Nat.reduceLeDiff, Nat.reduceSub, Nat.reduceEqDiff, Int.reduceToNat, reduceCtorEq, ↓reduceIte]
              repeat' (first | refine And.intro ?_ ?_ | intro hg)
              all_goals (try simp (disch := omega) only [wrap_fits])
              all_goals first
                | (refine hK _ _ ?_; exact Red.auto)
                | exact trivial
                | assumption
                | omega
                | exact wrap_fits (by omega) (by omega)
                | (refine wpA_callA (k_spec_ChannelDone t1_0s t1_1 t1_2s t1_3s t1_4s (h := hr0)) [5, 6, 7, 8] [] ?_
                   rintro x Hc' ⟨rfl, rfl⟩ hlen
                   refine vcOps_sound ftCOk ?_
                   simp (maxSteps := 4000000) only [go_sem, Nat.reduceBEq, Nat.reduceLT, Nat.reduceAdd, Nat.reduceLeDiff, Nat.reduceSub, Nat.reduceEqDiff, Int.reduceToNat, reduceCtorEq, ↓reduceIte]
                   repeat' (first | refine And.intro ?_ ?_ | intro hg)
                   all_goals (try simp (disch := omega) only [wrap_fits])
                   all_goals first
                     | (refine hK _ _ ?_; exact Red.auto)
                     | exact trivial
                     | assumption
                     | omega
                     | exact wrap_fits (by omega) (by omega)
                     | (simp_all; done)
                     | (simp_all; omega))
                | (simp_all; done)
                | (simp_all; omega)
            · clear hr0
              refine awp_cond (t := 15) rfl (fun hc23 => ?_) (fun hc23 => ?_)
              · replace h := bite_t h hc23
                refine awp_skip ?_
                (try simp only [Thn, InBlk, ↓reduceIte, Nat.reduceEqDiff])
                refine hK22 _ _ ?_
                clear hK22
                refine awp_block ?_
                replace h := bind_some h
                obtain ⟨⟨y_12, y_13, y_14, y_15, y_16, y_17⟩, hr0, h⟩ := h
                try dsimp only at h
                refine awp_to [(1, .pp 4 0), (2, .pp 9 0), (4, .v (.int .i64 t4))] [.row false (.ints .i64 a0_0), .row false (.ints .i64 a0_2), .row false (.pairs a0_3), .row false (.ints .i64 a0_4), .box [.sl 10, .v (.int .i64 y_13), .sl 11, .sl 12, .sl 13], .row true (.ints .i64 t1_0s), .row true (.ints .i64 t1_2s), .row true (.pairs t1_3s), .row true (.ints .i64 t1_4s), .box [.v (.slice none 0 0), .v (.int .i64 0), .v (.slice none 0 0), .v (.slice none 0 0), .v (.slice none 0 0)], .row true (.ints .i64 y_12), .row true (.ints .i64 y_14), .row true (.pairs y_15), .row true (.ints .i64 y_16)] ?_ ?_
                · clear h
                  intro K hK
                  refine awp_region ftCOk ?_
                  simp (maxSteps := 4000000) only [go_sem, Nat.reduceBEq, Nat.reduceLT, Nat.reduceAdd, Nat.reduceLeDiff, Nat.reduceSub, Nat.reduceEqDiff, Int.reduceToNat, reduceCtorEq, ↓reduceIte]
                  repeat' (first | refine And.intro ?_ ?_ | intro hg)
                  all_goals (try simp (disch := omega) only [wrap_fits])
                  all_goals first
                    | (refine hK _ _ ?_; exact Red.auto)
                    | exact trivial
                    | assumption
                    | omega
                    | exact wrap_fits (by omega) (by omega)
                    | (refine wpA_callA (k_spec_ChannelStep t1_0s t1_1 t1_2s t1_3s t1_4s 5 (h := hr0)) [5, 6, 7, 8] [] ?_
                       rintro x Hc' ⟨rfl, rfl⟩ hlen
                       refine vcOps_sound ftCOk ?_
                       simp (maxSteps := 4000000) only [go_sem, Nat.reduceBEq, Nat.reduceLT, Nat.reduceAdd, Nat.reduceLeDiff, Nat.reduceSub, Nat.reduceEqDiff, Int.reduceToNat, reduceCtorEq, ↓reduceIte]
                       repeat' (first | refine And.intro ?_ ?_ | intro hg)
                       all_goals (try simp (disch := omega) only [wrap_fits])
                       all_goals first
                         | (refine hK _ _ ?_; exact Red.auto)
                         | exact trivial
                         | assumption
                         | omega
                         | exact wrap_fits (by omega) (by omega)
                         | (simp_all; done)
                         | (simp_all; omega))
                    | (simp_all; done)
                    | (simp_all; omega)
                · clear hr0
                  replace h := bind_some h
                  obtain ⟨⟨y_18, y_19, y_20, y_21, y_22, y_23⟩, hr0, h⟩ := h
                  try dsimp only at h
                  refine awp_to [(1, .pp 4 0), (2, .pp 9 0), (4, .v (.int .i64 t4))] [.row false (.ints .i64 a0_0), .row false (.ints .i64 a0_2), .row false (.pairs a0_3), .row false (.ints .i64 a0_4), .box [.sl 14, .v (.int .i64 y_19), .sl 15, .sl 16, .sl 17], .row true (.ints .i64 t1_0s), .row true (.ints .i64 t1_2s), .row true (.pairs t1_3s), .row true (.ints .i64 t1_4s), .box [.v (.slice none 0 0), .v (.int .i64 0), .v (.slice none 0 0), .v (.slice none 0 0), .v (.slice none 0 0)], .row true (.ints .i64 y_12), .row true (.ints .i64 y_14), .row true (.pairs y_15), .row true (.ints .i64 y_16), .row true (.ints .i64 y_18), .row true (.ints .i64 y_20), .row true (.pairs y_21), .row true (.ints .i64 y_22)] ?_ ?_
                  · clear h
                    intro K hK
                    refine awp_region ftCOk ?_
                    simp (maxSteps := 4000000) only [go_sem, Nat.reduceBEq, Nat.reduceLT, Nat.reduceAdd, Nat.reduceLeDiff, Nat.reduceSub, Nat.reduceEqDiff, Int.reduceToNat, reduceCtorEq, ↓reduceIte]
                    repeat' (first | refine And.intro ?_ ?_ | intro hg)
                    all_goals (try simp (disch := omega) only [wrap_fits])
                    all_goals first
                      | (refine hK _ _ ?_; exact Red.auto)
                      | exact trivial
                      | assumption
                      | omega
                      | exact wrap_fits (by omega) (by omega)
                      | (refine wpA_callA (k_spec_ChannelStep y_12 y_13 y_14 y_15 y_16 6 (h := hr0)) [10, 11, 12, 13] [] ?_
                         rintro x Hc' ⟨rfl, rfl⟩ hlen
                         refine vcOps_sound ftCOk ?_
                         simp (maxSteps := 4000000) only [go_sem, Nat.reduceBEq, Nat.reduceLT, Nat.reduceAdd, Nat.reduceLeDiff, Nat.reduceSub, Nat.reduceEqDiff, Int.reduceToNat, reduceCtorEq, ↓reduceIte]
                         repeat' (first | refine And.intro ?_ ?_ | intro hg)
                         all_goals (try simp (disch := omega) only [wrap_fits])
                         all_goals first
                           | (refine hK _ _ ?_; exact Red.auto)
                           | exact trivial
                           | assumption
                           | omega
                           | exact wrap_fits (by omega) (by omega)
                           | (simp_all; done)
                           | (simp_all; omega))
                      | (simp_all; done)
                      | (simp_all; omega)
                  · clear hr0
                    replace h := bind_some h
                    obtain ⟨⟨y_24, y_25, y_26, y_27, y_28, y_29⟩, hr0, h⟩ := h
                    try dsimp only at h
                    refine awp_to [(1, .pp 4 0), (2, .pp 9 0), (4, .v (.int .i64 t4))] [.row false (.ints .i64 a0_0), .row false (.ints .i64 a0_2), .row false (.pairs a0_3), .row false (.ints .i64 a0_4), .box [.sl 18, .v (.int .i64 y_25), .sl 19, .sl 20, .sl 21], .row true (.ints .i64 t1_0s), .row true (.ints .i64 t1_2s), .row true (.pairs t1_3s), .row true (.ints .i64 t1_4s), .box [.v (.slice none 0 0), .v (.int .i64 0), .v (.slice none 0 0), .v (.slice none 0 0), .v (.slice none 0 0)], .row true (.ints .i64 y_12), .row true (.ints .i64 y_14), .row true (.pairs y_15), .row true (.ints .i64 y_16), .row true (.ints .i64 y_18), .row true (.ints .i64 y_20), .row true (.pairs y_21), .row true (.ints .i64 y_22), .row true (.ints .i64 y_24), .row true (.ints .i64 y_26), .row true (.pairs y_27), .row true (.ints .i64 y_28)] ?_ ?_
                    · clear h
                      intro K hK
                      refine awp_region ftCOk ?_
                      simp (maxSteps := 4000000) only [go_sem, Nat.reduceBEq, Nat.reduceLT, Nat.reduceAdd, Nat.reduceLeDiff, Nat.reduceSub, Nat.reduceEqDiff, Int.reduceToNat, reduceCtorEq, ↓reduceIte]
                      repeat' (first | refine And.intro ?_ ?_ | intro hg)
                      all_goals (try simp (disch := omega) only [wrap_fits])
                      all_goals first
                        | (refine hK _ _ ?_; exact Red.auto)
                        | exact trivial
                        | assumption
                        | omega
                        | exact wrap_fits (by omega) (by omega)
                        | (refine wpA_callA (k_spec_ChannelStep y_18 y_19 y_20 y_21 y_22 0 (h := hr0)) [14, 15, 16, 17] [] ?_
                           rintro x Hc' ⟨rfl, rfl⟩ hlen
                           refine vcOps_sound ftCOk ?_
                           simp (maxSteps := 4000000) only [go_sem, Nat.reduceBEq, Nat.reduceLT, Nat.reduceAdd, Nat.reduceLeDiff, Nat.reduceSub, Nat.reduceEqDiff, Int.reduceToNat, reduceCtorEq, ↓reduceIte]
                           repeat' (first | refine And.intro ?_ ?_ | intro hg)
                           all_goals (try simp (disch := omega) only [wrap_fits])
                           all_goals first
                             | (refine hK _ _ ?_; exact Red.auto)
                             | exact trivial
                             | assumption
                             | omega
                             | exact wrap_fits (by omega) (by omega)
                             | (simp_all; done)
                             | (simp_all; omega))
                        | (simp_all; done)
                        | (simp_all; omega)
                    · clear hr0
                      replace h := bind_some h
                      obtain ⟨⟨y_30, y_31, y_32, y_33, y_34⟩, hr0, h⟩ := h
                      try dsimp only at h
                      refine awp_to [(1, .pp 4 0), (2, .pp 9 0), (4, .v (.int .i64 t4))] [.row false (.ints .i64 a0_0), .row false (.ints .i64 a0_2), .row false (.pairs a0_3), .row false (.ints .i64 a0_4), .box [.sl 22, .v (.int .i64 y_31), .sl 23, .sl 24, .sl 25], .row true (.ints .i64 t1_0s), .row true (.ints .i64 t1_2s), .row true (.pairs t1_3s), .row true (.ints .i64 t1_4s), .box [.v (.slice none 0 0), .v (.int .i64 0), .v (.slice none 0 0), .v (.slice none 0 0), .v (.slice none 0 0)], .row true (.ints .i64 y_12), .row true (.ints .i64 y_14), .row true (.pairs y_15), .row true (.ints .i64 y_16), .row true (.ints .i64 y_18), .row true (.ints .i64 y_20), .row true (.pairs y_21), .row true (.ints .i64 y_22), .row true (.ints .i64 y_24), .row true (.ints .i64 y_26), .row true (.pairs y_27), .row true (.ints .i64 y_28), .row true (.ints .i64 y_30), .row true (.ints .i64 y_32), .row true (.pairs y_33), .row true (.ints .i64 y_34)] ?_ ?_
                      · clear h
                        intro K hK
                        refine awp_region ftCOk ?_
                        simp (maxSteps := 4000000) only [go_sem, Nat.reduceBEq, Nat.reduceLT, Nat.reduceAdd, Nat.reduceLeDiff, Nat.reduceSub, Nat.reduceEqDiff, Int.reduceToNat, reduceCtorEq, ↓reduceIte]
                        repeat' (first | refine And.intro ?_ ?_ | intro hg)
                        all_goals (try simp (disch := omega) only [wrap_fits])
                        all_goals first
                          | (refine hK _ _ ?_; exact Red.auto)
                          | exact trivial
                          | assumption
                          | omega
                          | exact wrap_fits (by omega) (by omega)
                          | (refine wpA_callA (k_spec_ChannelQuiet y_24 y_25 y_26 y_27 y_28 (h := hr0)) [18, 19, 20, 21] [] ?_
                             rintro x Hc' ⟨rfl, rfl⟩ hlen
                             refine vcOps_sound ftCOk ?_
                             simp (maxSteps := 4000000) only [go_sem, Nat.reduceBEq, Nat.reduceLT, Nat.reduceAdd, Nat.reduceLeDiff, Nat.reduceSub, Nat.reduceEqDiff, Int.reduceToNat, reduceCtorEq, ↓reduceIte]
                             repeat' (first | refine And.intro ?_ ?_ | intro hg)
                             all_goals (try simp (disch := omega) only [wrap_fits])
                             all_goals first
                               | (refine hK _ _ ?_; exact Red.auto)
                               | exact trivial
                               | assumption
                               | omega
                               | exact wrap_fits (by omega) (by omega)
                               | (simp_all; done)
                               | (simp_all; omega))
                          | (simp_all; done)
                          | (simp_all; omega)
                      · clear hr0
                        replace h := chk_some h
                        obtain ⟨hp0, h⟩ := h
                        refine awp_regE ftCOk [(1, .pp 4 0), (2, .pp 9 0), (4, .v (.int .i64 (t4 + 1)))] [.row false (.ints .i64 a0_0), .row false (.ints .i64 a0_2), .row false (.pairs a0_3), .row false (.ints .i64 a0_4), .box [.sl 22, .v (.int .i64 y_31), .sl 23, .sl 24, .sl 25], .row true (.ints .i64 t1_0s), .row true (.ints .i64 t1_2s), .row true (.pairs t1_3s), .row true (.ints .i64 t1_4s), .box [.v (.slice none 0 0), .v (.int .i64 0), .v (.slice none 0 0), .v (.slice none 0 0), .v (.slice none 0 0)], .row true (.ints .i64 y_12), .row true (.ints .i64 y_14), .row true (.pairs y_15), .row true (.ints .i64 y_16), .row true (.ints .i64 y_18), .row true (.ints .i64 y_20), .row true (.pairs y_21), .row true (.ints .i64 y_22), .row true (.ints .i64 y_24), .row true (.ints .i64 y_26), .row true (.pairs y_27), .row true (.ints .i64 y_28), .row true (.ints .i64 y_30), .row true (.ints .i64 y_32), .row true (.pairs y_33), .row true (.ints .i64 y_34)] ?_
                        clear hp0
                        (try simp only [Thn, InBlk, ↓reduceIte, Nat.reduceEqDiff])
                        obtain rfl := Option.some.inj h
                        refine LoopQ.next ?_
                        exact Red.selA [0, 1, 2, 3, 4, 22, 23, 24, 25, 9] Red.auto
              · replace h := bite_f h hc23
                refine awp_exit ?_
                (try simp only [Thn, InBlk, ↓reduceIte, Nat.reduceEqDiff])
                obtain rfl := Option.some.inj h
                refine LoopQ.out rfl ?_
                exact Red.auto
          · clear hx
            rcases x24 with ⟨t4_1, t1_1_1, t1_0s_1, t1_2s_1, t1_3s_1, t1_4s_1⟩
            · try dsimp only [Sum.elim_inl, Sum.elim_inr] at h
              try dsimp only [Sum.elim_inl, Sum.elim_inr]
              (try simp only [Thn, InBlk, ↓reduceIte, Nat.reduceEqDiff])
              (try simp only [Thn, InBlk, ↓reduceIte, Nat.reduceEqDiff])
              (try simp only [Thn, InBlk, ↓reduceIte, Nat.reduceEqDiff])
              refine hK14 _ _ ?_
              clear hK14
              refine awp_reg ftCOk [(2, .pp 9 0), (3, .v (.int .i64 t4_1))] [.row false (.ints .i64 a0_0), .row false (.ints .i64 a0_2), .row false (.pairs a0_3), .row false (.ints .i64 a0_4), .box [.sl 5, .v (.int .i64 t1_1_1), .sl 6, .sl 7, .sl 8], .row true (.ints .i64 t1_0s_1), .row true (.ints .i64 t1_2s_1), .row true (.pairs t1_3s_1), .row true (.ints .i64 t1_4s_1), .box [.sl 5, .v (.int .i64 t1_1_1), .sl 6, .sl 7, .sl 8]] ?_
              refine awp_ret ?_
              (try simp only [Thn, InBlk, ↓reduceIte, Nat.reduceEqDiff])
              obtain rfl := Option.some.inj h
              refine ⟨by simp, _, [0, 1, 2, 3, 5, 6, 7, 8], (by simp only [go_sem, Nat.reduceBEq, Nat.reduceLT, Nat.reduceAdd, Nat.reduceLeDiff, Nat.reduceSub, Nat.reduceEqDiff, Int.reduceToNat, reduceCtorEq, ↓reduceIte]; exact rfl), ?_, ?_, ?_, ?_⟩
              · first | exact trivial | exact ⟨trivial, trivial⟩ | exact ⟨trivial, trivial, trivial⟩ | exact ⟨trivial, trivial, trivial, trivial⟩ | (simp only [allP, and_true, true_and]; done) | (simp only [allP, and_true, true_and]; omega)
              · simp [selOk, pos]
              · simp
              · first | exact ⟨rfl, rfl⟩ | (simp only [go_sem, Nat.reduceBEq, Nat.reduceLT, Nat.reduceAdd, Nat.reduceLeDiff, Nat.reduceSub, Nat.reduceEqDiff, Int.reduceToNat, reduceCtorEq, ↓reduceIte]; done) | (simp [go_sem, Nat.reduceBEq, Nat.reduceLT, Nat.reduceAdd, Nat.reduceLeDiff, Nat.reduceSub, Nat.reduceEqDiff, Int.reduceToNat, reduceCtorEq, ↓reduceIte]; done) | (simp only [go_sem, Nat.reduceBEq, Nat.reduceLT, Nat.reduceAdd, Nat.reduceLeDiff, Nat.reduceSub, Nat.reduceEqDiff, Int.reduceToNat, reduceCtorEq, ↓reduceIte]; exact ⟨rfl, rfl⟩) | (simp_all [go_sem, Nat.reduceBEq, Nat.reduceLT, Nat.reduceAdd, Nat.reduceLeDiff, Nat.reduceSub, Nat.reduceEqDiff, Int.reduceToNat, reduceCtorEq, ↓reduceIte]; done)
theorem k_laws_sameInts (a0 : List Int) (a1 : List Int) {r : Bool} (h : laws_sameInts a0 a1 = some r) :
    FnA Try.prog 29 [.sl 0, .sl 1] [.row false (.ints .i64 a0), .row false (.ints .i64 a1)] [] (fun x H => x = .v (.bool r) ∧ H = [.row false (.ints .i64 a0), .row false (.ints .i64 a1)]) := by
  unfold laws_sameInts at h
  refine FnA.of (N := 26) (pin := [0, 1]) (rs := [.tmp 4]) Try.func29 rfl en29 rfl rfl (by simp) (by simp; try omega) ?_
  refine awp_reg ftCOk [(0, .sl 0), (1, .sl 1)] [.row false (.ints .i64 a0), .row false (.ints .i64 a1)] ?_
  refine awp_seq fun K2 hK2 => ?_
  refine awp_reg ftCOk [(0, .sl 0), (1, .sl 1), (10, .v (.bool ((a0.length : Int) != (a1.length : Int))))] [.row false (.ints .i64 a0), .row false (.ints .i64 a1)] ?_
  refine awp_cond (t := 10) rfl (fun hc3 => ?_) (fun hc3 => ?_)
  · replace h := bite_t h hc3
    refine awp_reg ftCOk [(4, .v (.bool false))] [.row false (.ints .i64 a0), .row false (.ints .i64 a1)] ?_
    refine awp_ret ?_
    (try simp only [Thn, InBlk, ↓reduceIte, Nat.reduceEqDiff])
    obtain rfl := Option.some.inj h
    refine ⟨by simp, _, [0, 1], (by simp only [go_sem, Nat.reduceBEq, Nat.reduceLT, Nat.reduceAdd, Nat.reduceLeDiff, Nat.reduceSub, Nat.reduceEqDiff, Int.reduceToNat, reduceCtorEq, ↓reduceIte]; exact rfl), ?_, ?_, ?_, ?_⟩
    · first | exact trivial | exact ⟨trivial, trivial⟩ | exact ⟨trivial, trivial, trivial⟩ | exact ⟨trivial, trivial, trivial, trivial⟩ | (simp only [allP, and_true, true_and]; done) | (simp only [allP, and_true, true_and]; omega)
    · simp [selOk, pos]
    · simp
    · first | exact ⟨rfl, rfl⟩ | (simp only [go_sem, Nat.reduceBEq, Nat.reduceLT, Nat.reduceAdd, Nat.reduceLeDiff, Nat.reduceSub, Nat.reduceEqDiff, Int.reduceToNat, reduceCtorEq, ↓reduceIte]; done) | (simp [go_sem, Nat.reduceBEq, Nat.reduceLT, Nat.reduceAdd, Nat.reduceLeDiff, Nat.reduceSub, Nat.reduceEqDiff, Int.reduceToNat, reduceCtorEq, ↓reduceIte]; done) | (simp only [go_sem, Nat.reduceBEq, Nat.reduceLT, Nat.reduceAdd, Nat.reduceLeDiff, Nat.reduceSub, Nat.reduceEqDiff, Int.reduceToNat, reduceCtorEq, ↓reduceIte]; exact ⟨rfl, rfl⟩) | (simp_all [go_sem, Nat.reduceBEq, Nat.reduceLT, Nat.reduceAdd, Nat.reduceLeDiff, Nat.reduceSub, Nat.reduceEqDiff, Int.reduceToNat, reduceCtorEq, ↓reduceIte]; done)
  · replace h := bite_f h hc3
    refine awp_skip ?_
    (try simp only [Thn, InBlk, ↓reduceIte, Nat.reduceEqDiff])
    refine hK2 _ _ ?_
    clear hK2
    refine awp_seq fun K23 hK23 => ?_
    refine awp_reg ftCOk [(0, .sl 0), (1, .sl 1), (5, .v (.int .i64 0))] [.row false (.ints .i64 a0), .row false (.ints .i64 a1)] ?_
    refine awp_block ?_
    replace h := bind_some h
    obtain ⟨x42, hx, h⟩ := h
    refine awp_loopL hx (fun (t5 : Int) => [(0, .sl 0), (1, .sl 1), (5, .v (.int .i64 t5))]) (fun (t5 : Int) => [.row false (.ints .i64 a0), .row false (.ints .i64 a1)]) (Sum.elim (fun (_ : Unit) => Exit.exit 0) (fun (_ : Unit) => Exit.ret)) (Sum.elim (fun (_ : Unit) => []) (fun (_ : Unit) => [(4, .v (.bool false))])) (Sum.elim (fun (_ : Unit) => [.row false (.ints .i64 a0), .row false (.ints .i64 a1)]) (fun (_ : Unit) => [.row false (.ints .i64 a0), .row false (.ints .i64 a1)])) ?_ ?_ ?_ ?_
    · rintro (⟨⟩ | ⟨⟩) hy <;> cases hy
    · clear h hx
      exact Red.auto
    · clear h hx
      rintro t5 r h
      unfold laws_sameInts_b0 at h
      try dsimp only at h
      try dsimp only
      refine awp_seq fun K37 hK37 => ?_
      refine awp_reg ftCOk [(0, .sl 0), (1, .sl 1), (5, .v (.int .i64 t5)), (14, .v (.bool (decide (t5 < (a0.length : Int)))))] [.row false (.ints .i64 a0), .row false (.ints .i64 a1)] ?_
      refine awp_cond (t := 14) rfl (fun hc38 => ?_) (fun hc38 => ?_)
      · replace h := bite_t h hc38
        refine awp_skip ?_
        (try simp only [Thn, InBlk, ↓reduceIte, Nat.reduceEqDiff])
        refine hK37 _ _ ?_
        clear hK37
        refine awp_seq fun K40 hK40 => ?_
        refine awp_block ?_
        replace h := chk_some h
        obtain ⟨hp0, h⟩ := h
        replace h := chk_some h
        obtain ⟨hp1, h⟩ := h
        refine awp_regQ mixed ftCOk [(0, .sl 0), (1, .sl 1), (5, .v (.int .i64 t5)), (25, .v (.bool ((a0.getD t5.toNat 0) != (a1.getD t5.toNat 0))))] [.row false (.ints .i64 a0), .row false (.ints .i64 a1)] ?_
        clear hp0 hp1
        refine awp_cond (t := 25) rfl (fun hc41 => ?_) (fun hc41 => ?_)
        · replace h := bite_t h hc41
          refine awp_reg ftCOk [(4, .v (.bool false))] [.row false (.ints .i64 a0), .row false (.ints .i64 a1)] ?_
          refine awp_ret ?_
          (try simp only [Thn, InBlk, ↓reduceIte, Nat.reduceEqDiff])
          obtain rfl := Option.some.inj h
          refine LoopQ.out rfl ?_
          exact Red.auto
        · replace h := bite_f h hc41
          refine awp_skip ?_
          (try simp only [Thn, InBlk, ↓reduceIte, Nat.reduceEqDiff])
          (try simp only [Thn, InBlk, ↓reduceIte, Nat.reduceEqDiff])
          refine hK40 _ _ ?_
          clear hK40
          replace h := chk_some h
          obtain ⟨hp0, h⟩ := h
          refine awp_regE ftCOk [(0, .sl 0), (1, .sl 1), (5, .v (.int .i64 (t5 + 1)))] [.row false (.ints .i64 a0), .row false (.ints .i64 a1)] ?_
          clear hp0
          obtain rfl := Option.some.inj h
          refine LoopQ.next ?_
          exact Red.auto
      · replace h := bite_f h hc38
        refine awp_exit ?_
        (try simp only [Thn, InBlk, ↓reduceIte, Nat.reduceEqDiff])
        obtain rfl := Option.some.inj h
        refine LoopQ.out rfl ?_
        exact Red.auto
    · clear hx
      rcases x42 with (⟨⟩ | ⟨⟩)
      · try dsimp only [Sum.elim_inl, Sum.elim_inr] at h
        try dsimp only [Sum.elim_inl, Sum.elim_inr]
        (try simp only [Thn, InBlk, ↓reduceIte, Nat.reduceEqDiff])
        (try simp only [Thn, InBlk, ↓reduceIte, Nat.reduceEqDiff])
        (try simp only [Thn, InBlk, ↓reduceIte, Nat.reduceEqDiff])
        refine hK23 _ _ ?_
        clear hK23
        refine awp_reg ftCOk [(4, .v (.bool true))] [.row false (.ints .i64 a0), .row false (.ints .i64 a1)] ?_
        refine awp_ret ?_
        (try simp only [Thn, InBlk, ↓reduceIte, Nat.reduceEqDiff])
        obtain rfl := Option.some.inj h
        refine ⟨by simp, _, [0, 1], (by simp only [go_sem, Nat.reduceBEq, Nat.reduceLT, Nat.reduceAdd, Nat.reduceLeDiff, Nat.reduceSub, Nat.reduceEqDiff, Int.reduceToNat, reduceCtorEq, ↓reduceIte]; exact rfl), ?_, ?_, ?_, ?_⟩
        · first | exact trivial | exact ⟨trivial, trivial⟩ | exact ⟨trivial, trivial, trivial⟩ | exact ⟨trivial, trivial, trivial, trivial⟩ | (simp only [allP, and_true, true_and]; done) | (simp only [allP, and_true, true_and]; omega)
        · simp [selOk, pos]
        · simp
        · first | exact ⟨rfl, rfl⟩ | (simp only [go_sem, Nat.reduceBEq, Nat.reduceLT, Nat.reduceAdd, Nat.reduceLeDiff, Nat.reduceSub, Nat.reduceEqDiff, Int.reduceToNat, reduceCtorEq, ↓reduceIte]; done) | (simp [go_sem, Nat.reduceBEq, Nat.reduceLT, Nat.reduceAdd, Nat.reduceLeDiff, Nat.reduceSub, Nat.reduceEqDiff, Int.reduceToNat, reduceCtorEq, ↓reduceIte]; done) | (simp only [go_sem, Nat.reduceBEq, Nat.reduceLT, Nat.reduceAdd, Nat.reduceLeDiff, Nat.reduceSub, Nat.reduceEqDiff, Int.reduceToNat, reduceCtorEq, ↓reduceIte]; exact ⟨rfl, rfl⟩) | (simp_all [go_sem, Nat.reduceBEq, Nat.reduceLT, Nat.reduceAdd, Nat.reduceLeDiff, Nat.reduceSub, Nat.reduceEqDiff, Int.reduceToNat, reduceCtorEq, ↓reduceIte]; done)
      · try dsimp only [Sum.elim_inl, Sum.elim_inr] at h
        try dsimp only [Sum.elim_inl, Sum.elim_inr]
        (try simp only [Thn, InBlk, ↓reduceIte, Nat.reduceEqDiff])
        obtain rfl := Option.some.inj h
        refine ⟨by simp, _, [0, 1], (by simp only [go_sem, Nat.reduceBEq, Nat.reduceLT, Nat.reduceAdd, Nat.reduceLeDiff, Nat.reduceSub, Nat.reduceEqDiff, Int.reduceToNat, reduceCtorEq, ↓reduceIte]; exact rfl), ?_, ?_, ?_, ?_⟩
        · first | exact trivial | exact ⟨trivial, trivial⟩ | exact ⟨trivial, trivial, trivial⟩ | exact ⟨trivial, trivial, trivial, trivial⟩ | (simp only [allP, and_true, true_and]; done) | (simp only [allP, and_true, true_and]; omega)
        · simp [selOk, pos]
        · simp
        · first | exact ⟨rfl, rfl⟩ | (simp only [go_sem, Nat.reduceBEq, Nat.reduceLT, Nat.reduceAdd, Nat.reduceLeDiff, Nat.reduceSub, Nat.reduceEqDiff, Int.reduceToNat, reduceCtorEq, ↓reduceIte]; done) | (simp [go_sem, Nat.reduceBEq, Nat.reduceLT, Nat.reduceAdd, Nat.reduceLeDiff, Nat.reduceSub, Nat.reduceEqDiff, Int.reduceToNat, reduceCtorEq, ↓reduceIte]; done) | (simp only [go_sem, Nat.reduceBEq, Nat.reduceLT, Nat.reduceAdd, Nat.reduceLeDiff, Nat.reduceSub, Nat.reduceEqDiff, Int.reduceToNat, reduceCtorEq, ↓reduceIte]; exact ⟨rfl, rfl⟩) | (simp_all [go_sem, Nat.reduceBEq, Nat.reduceLT, Nat.reduceAdd, Nat.reduceLeDiff, Nat.reduceSub, Nat.reduceEqDiff, Int.reduceToNat, reduceCtorEq, ↓reduceIte]; done)
theorem k_laws_sameChannel (a0_0 : List Int) (a0_1 : Int) (a0_2 : List Int) (a0_3 : List (Int × Int)) (a0_4 : List Int) (a1_0 : List Int) (a1_1 : Int) (a1_2 : List Int) (a1_3 : List (Int × Int)) (a1_4 : List Int) {r : Bool} (h : laws_sameChannel a0_0 a0_1 a0_2 a0_3 a0_4 a1_0 a1_1 a1_2 a1_3 a1_4 = some r) :
    FnA Try.prog 26 [.agg [.sl 0, .v (.int .i64 a0_1), .sl 1, .sl 2, .sl 3], .agg [.sl 4, .v (.int .i64 a1_1), .sl 5, .sl 6, .sl 7]] [.row false (.ints .i64 a0_0), .row false (.ints .i64 a0_2), .row false (.pairs a0_3), .row false (.ints .i64 a0_4), .row false (.ints .i64 a1_0), .row false (.ints .i64 a1_2), .row false (.pairs a1_3), .row false (.ints .i64 a1_4)] [] (fun x H => x = .v (.bool r) ∧ H = [.row false (.ints .i64 a0_0), .row false (.ints .i64 a0_2), .row false (.pairs a0_3), .row false (.ints .i64 a0_4), .row false (.ints .i64 a1_0), .row false (.ints .i64 a1_2), .row false (.pairs a1_3), .row false (.ints .i64 a1_4)]) := by
  unfold laws_sameChannel at h
  refine FnA.of (N := 62) (pin := [0, 1, 2, 3, 4, 5, 6, 7]) (rs := [.tmp 4]) Try.func26 rfl en26 rfl rfl (by simp) (by simp; try omega) ?_
  refine awp_reg ftCOk [(2, .pp 8 0), (3, .pp 9 0)] [.row false (.ints .i64 a0_0), .row false (.ints .i64 a0_2), .row false (.pairs a0_3), .row false (.ints .i64 a0_4), .row false (.ints .i64 a1_0), .row false (.ints .i64 a1_2), .row false (.pairs a1_3), .row false (.ints .i64 a1_4), .box [.sl 0, .v (.int .i64 a0_1), .sl 1, .sl 2, .sl 3], .box [.sl 4, .v (.int .i64 a1_1), .sl 5, .sl 6, .sl 7]] ?_
  refine awp_freeze 2 (by rfl) (by rfl) (by exact rfl) ?_
  refine awp_freeze 3 (by rfl) (by rfl) (by exact rfl) ?_
  refine awp_seq fun K2 hK2 => ?_
  replace h := bind_some h
  obtain ⟨y, hr0, h⟩ := h
  try dsimp only at h
  replace h := bind_some h
  obtain ⟨y_1, hr1, h⟩ := h
  try dsimp only at h
  replace h := bind_some h
  obtain ⟨y_2, hr2, h⟩ := h
  try dsimp only at h
  refine awp_to [(2, .pp 8 0), (3, .pp 9 0), (43, .v (.bool (((((a0_1 != a1_1) || (!y)) || (!y_1)) || (!y_2)) || ((a0_3.length : Int) != (a1_3.length : Int)))))] [.row false (.ints .i64 a0_0), .row false (.ints .i64 a0_2), .row false (.pairs a0_3), .row false (.ints .i64 a0_4), .row false (.ints .i64 a1_0), .row false (.ints .i64 a1_2), .row false (.pairs a1_3), .row false (.ints .i64 a1_4), .rbox [.sl 0, .v (.int .i64 a0_1), .sl 1, .sl 2, .sl 3], .rbox [.sl 4, .v (.int .i64 a1_1), .sl 5, .sl 6, .sl 7]] ?_ ?_
  · clear h
    intro K hK
    refine awp_regionA ?_
    refine wpA_cutAt 13 [(2, .pp 8 0), (3, .pp 9 0), (18, .v (.bool ((a0_1 != a1_1) || (!y))))] [.row false (.ints .i64 a0_0), .row false (.ints .i64 a0_2), .row false (.pairs a0_3), .row false (.ints .i64 a0_4), .row false (.ints .i64 a1_0), .row false (.ints .i64 a1_2), .row false (.pairs a1_3), .row false (.ints .i64 a1_4), .rbox [.sl 0, .v (.int .i64 a0_1), .sl 1, .sl 2, .sl 3], .rbox [.sl 4, .v (.int .i64 a1_1), .sl 5, .sl 6, .sl 7]] ?_ ?_
    · clear hK K
      intro K hK
      refine vcOps_sound ftCOk ?_
      simp (maxSteps := 4000000) only [go_sem, Nat.reduceBEq, Nat.reduceLT, Nat.reduceAdd, Nat.reduceLeDiff, Nat.reduceSub, Nat.reduceEqDiff, Int.reduceToNat, reduceCtorEq, ↓reduceIte]
      repeat' (first | refine And.intro ?_ ?_ | intro hg)
      all_goals (try simp (disch := omega) only [wrap_fits])
      all_goals first
        | (refine hK _ _ ?_; exact Red.auto)
        | exact trivial
        | assumption
        | omega
        | exact wrap_fits (by omega) (by omega)
        | (refine wpA_guard rfl rfl ?_
           refine wpA_callA (k_laws_sameInts a0_0 a1_0 (h := (bite_t hr0 (by rw [Bool.not_eq_true']; exact (by first | assumption | (simp only [*, Bool.false_or, Bool.true_or, Bool.or_false, Bool.or_true, Bool.false_and, Bool.true_and, Bool.and_false, Bool.and_true, Bool.not_true, Bool.not_false, beq_self_eq_true]; done) | (simp_all; done)))))) [0, 4] [] ?_
           rintro x Hc' ⟨rfl, rfl⟩ hlen
           refine vcOps_sound ftCOk ?_
           simp (maxSteps := 4000000) only [go_sem, Nat.reduceBEq, Nat.reduceLT, Nat.reduceAdd, Nat.reduceLeDiff, Nat.reduceSub, Nat.reduceEqDiff, Int.reduceToNat, reduceCtorEq, ↓reduceIte]
           repeat' (first | refine And.intro ?_ ?_ | intro hg)
           all_goals (try simp (disch := omega) only [wrap_fits])
           all_goals first
             | (refine hK _ _ ?_; exact Red.auto)
             | exact trivial
             | assumption
             | omega
             | exact wrap_fits (by omega) (by omega)
             | (simp_all; done)
             | (simp_all; omega))
        | (simp_all; done)
        | (simp_all; omega)
    refine wpA_cutAt 8 [(2, .pp 8 0), (3, .pp 9 0), (26, .v (.bool (((a0_1 != a1_1) || (!y)) || (!y_1))))] [.row false (.ints .i64 a0_0), .row false (.ints .i64 a0_2), .row false (.pairs a0_3), .row false (.ints .i64 a0_4), .row false (.ints .i64 a1_0), .row false (.ints .i64 a1_2), .row false (.pairs a1_3), .row false (.ints .i64 a1_4), .rbox [.sl 0, .v (.int .i64 a0_1), .sl 1, .sl 2, .sl 3], .rbox [.sl 4, .v (.int .i64 a1_1), .sl 5, .sl 6, .sl 7]] ?_ ?_
    · clear hK K
      intro K hK
      refine vcOps_sound ftCOk ?_
      simp (maxSteps := 4000000) only [go_sem, Nat.reduceBEq, Nat.reduceLT, Nat.reduceAdd, Nat.reduceLeDiff, Nat.reduceSub, Nat.reduceEqDiff, Int.reduceToNat, reduceCtorEq, ↓reduceIte]
      repeat' (first | refine And.intro ?_ ?_ | intro hg)
      all_goals (try simp (disch := omega) only [wrap_fits])
      all_goals first
        | (refine hK _ _ ?_; exact Red.auto)
        | exact trivial
        | assumption
        | omega
        | exact wrap_fits (by omega) (by omega)
        | (refine wpA_guard rfl rfl ?_
           refine wpA_callA (k_laws_sameInts a0_2 a1_2 (h := (bite_t hr1 (by rw [Bool.not_eq_true']; exact (by first | assumption | (simp only [*, Bool.false_or, Bool.true_or, Bool.or_false, Bool.or_true, Bool.false_and, Bool.true_and, Bool.and_false, Bool.and_true, Bool.not_true, Bool.not_false, beq_self_eq_true]; done) | (simp_all; done)))))) [1, 5] [] ?_
           rintro x Hc' ⟨rfl, rfl⟩ hlen
           refine vcOps_sound ftCOk ?_
           simp (maxSteps := 4000000) only [go_sem, Nat.reduceBEq, Nat.reduceLT, Nat.reduceAdd, Nat.reduceLeDiff, Nat.reduceSub, Nat.reduceEqDiff, Int.reduceToNat, reduceCtorEq, ↓reduceIte]
           repeat' (first | refine And.intro ?_ ?_ | intro hg)
           all_goals (try simp (disch := omega) only [wrap_fits])
           all_goals first
             | (refine hK _ _ ?_; exact Red.auto)
             | exact trivial
             | assumption
             | omega
             | exact wrap_fits (by omega) (by omega)
             | (simp_all; done)
             | (simp_all; omega))
        | (simp_all; done)
        | (simp_all; omega)
    refine wpA_cutAt 8 [(2, .pp 8 0), (3, .pp 9 0), (34, .v (.bool ((((a0_1 != a1_1) || (!y)) || (!y_1)) || (!y_2))))] [.row false (.ints .i64 a0_0), .row false (.ints .i64 a0_2), .row false (.pairs a0_3), .row false (.ints .i64 a0_4), .row false (.ints .i64 a1_0), .row false (.ints .i64 a1_2), .row false (.pairs a1_3), .row false (.ints .i64 a1_4), .rbox [.sl 0, .v (.int .i64 a0_1), .sl 1, .sl 2, .sl 3], .rbox [.sl 4, .v (.int .i64 a1_1), .sl 5, .sl 6, .sl 7]] ?_ ?_
    · clear hK K
      intro K hK
      refine vcOps_sound ftCOk ?_
      simp (maxSteps := 4000000) only [go_sem, Nat.reduceBEq, Nat.reduceLT, Nat.reduceAdd, Nat.reduceLeDiff, Nat.reduceSub, Nat.reduceEqDiff, Int.reduceToNat, reduceCtorEq, ↓reduceIte]
      repeat' (first | refine And.intro ?_ ?_ | intro hg)
      all_goals (try simp (disch := omega) only [wrap_fits])
      all_goals first
        | (refine hK _ _ ?_; exact Red.auto)
        | exact trivial
        | assumption
        | omega
        | exact wrap_fits (by omega) (by omega)
        | (refine wpA_guard rfl rfl ?_
           refine wpA_callA (k_laws_sameInts a0_4 a1_4 (h := (bite_t hr2 (by rw [Bool.not_eq_true']; exact (by first | assumption | (simp only [*, Bool.false_or, Bool.true_or, Bool.or_false, Bool.or_true, Bool.false_and, Bool.true_and, Bool.and_false, Bool.and_true, Bool.not_true, Bool.not_false, beq_self_eq_true]; done) | (simp_all; done)))))) [3, 7] [] ?_
           rintro x Hc' ⟨rfl, rfl⟩ hlen
           refine vcOps_sound ftCOk ?_
           simp (maxSteps := 4000000) only [go_sem, Nat.reduceBEq, Nat.reduceLT, Nat.reduceAdd, Nat.reduceLeDiff, Nat.reduceSub, Nat.reduceEqDiff, Int.reduceToNat, reduceCtorEq, ↓reduceIte]
           repeat' (first | refine And.intro ?_ ?_ | intro hg)
           all_goals (try simp (disch := omega) only [wrap_fits])
           all_goals first
             | (refine hK _ _ ?_; exact Red.auto)
             | exact trivial
             | assumption
             | omega
             | exact wrap_fits (by omega) (by omega)
             | (simp_all; done)
             | (simp_all; omega))
        | (simp_all; done)
        | (simp_all; omega)
    refine vcOps_sound ftCOk ?_
    simp (maxSteps := 4000000) only [go_sem, Nat.reduceBEq, Nat.reduceLT, Nat.reduceAdd, Nat.reduceLeDiff, Nat.reduceSub, Nat.reduceEqDiff, Int.reduceToNat, reduceCtorEq, ↓reduceIte]
    repeat' (first | refine And.intro ?_ ?_ | intro hg)
    all_goals (try simp (disch := omega) only [wrap_fits])
    all_goals first
      | (refine hK _ _ ?_; exact Red.auto)
      | exact trivial
      | assumption
      | omega
      | exact wrap_fits (by omega) (by omega)
      | (simp_all; done)
      | (simp_all; omega)
  · clear hr0 hr1 hr2
    refine awp_cond (t := 43) rfl (fun hc3 => ?_) (fun hc3 => ?_)
    · replace h := bite_t h hc3
      refine awp_reg ftCOk [(4, .v (.bool false))] [.row false (.ints .i64 a0_0), .row false (.ints .i64 a0_2), .row false (.pairs a0_3), .row false (.ints .i64 a0_4), .row false (.ints .i64 a1_0), .row false (.ints .i64 a1_2), .row false (.pairs a1_3), .row false (.ints .i64 a1_4), .rbox [.sl 0, .v (.int .i64 a0_1), .sl 1, .sl 2, .sl 3], .rbox [.sl 4, .v (.int .i64 a1_1), .sl 5, .sl 6, .sl 7]] ?_
      refine awp_ret ?_
      (try simp only [Thn, InBlk, ↓reduceIte, Nat.reduceEqDiff])
      obtain rfl := Option.some.inj h
      refine ⟨by simp, _, [0, 1, 2, 3, 4, 5, 6, 7], (by simp only [go_sem, Nat.reduceBEq, Nat.reduceLT, Nat.reduceAdd, Nat.reduceLeDiff, Nat.reduceSub, Nat.reduceEqDiff, Int.reduceToNat, reduceCtorEq, ↓reduceIte]; exact rfl), ?_, ?_, ?_, ?_⟩
      · first | exact trivial | exact ⟨trivial, trivial⟩ | exact ⟨trivial, trivial, trivial⟩ | exact ⟨trivial, trivial, trivial, trivial⟩ | (simp only [allP, and_true, true_and]; done) | (simp only [allP, and_true, true_and]; omega)
      · simp [selOk, pos]
      · simp
      · first | exact ⟨rfl, rfl⟩ | (simp only [go_sem, Nat.reduceBEq, Nat.reduceLT, Nat.reduceAdd, Nat.reduceLeDiff, Nat.reduceSub, Nat.reduceEqDiff, Int.reduceToNat, reduceCtorEq, ↓reduceIte]; done) | (simp [go_sem, Nat.reduceBEq, Nat.reduceLT, Nat.reduceAdd, Nat.reduceLeDiff, Nat.reduceSub, Nat.reduceEqDiff, Int.reduceToNat, reduceCtorEq, ↓reduceIte]; done) | (simp only [go_sem, Nat.reduceBEq, Nat.reduceLT, Nat.reduceAdd, Nat.reduceLeDiff, Nat.reduceSub, Nat.reduceEqDiff, Int.reduceToNat, reduceCtorEq, ↓reduceIte]; exact ⟨rfl, rfl⟩) | (simp_all [go_sem, Nat.reduceBEq, Nat.reduceLT, Nat.reduceAdd, Nat.reduceLeDiff, Nat.reduceSub, Nat.reduceEqDiff, Int.reduceToNat, reduceCtorEq, ↓reduceIte]; done)
    · replace h := bite_f h hc3
      refine awp_skip ?_
      (try simp only [Thn, InBlk, ↓reduceIte, Nat.reduceEqDiff])
      refine hK2 _ _ ?_
      clear hK2
      refine awp_seq fun K23 hK23 => ?_
      refine awp_reg ftCOk [(2, .pp 8 0), (3, .pp 9 0), (5, .v (.int .i64 0))] [.row false (.ints .i64 a0_0), .row false (.ints .i64 a0_2), .row false (.pairs a0_3), .row false (.ints .i64 a0_4), .row false (.ints .i64 a1_0), .row false (.ints .i64 a1_2), .row false (.pairs a1_3), .row false (.ints .i64 a1_4), .rbox [.sl 0, .v (.int .i64 a0_1), .sl 1, .sl 2, .sl 3], .rbox [.sl 4, .v (.int .i64 a1_1), .sl 5, .sl 6, .sl 7]] ?_
      refine awp_block ?_
      replace h := bind_some h
      obtain ⟨x42, hx, h⟩ := h
      refine awp_loopL hx (fun (t5 : Int) => [(2, .pp 8 0), (3, .pp 9 0), (5, .v (.int .i64 t5))]) (fun (t5 : Int) => [.row false (.ints .i64 a0_0), .row false (.ints .i64 a0_2), .row false (.pairs a0_3), .row false (.ints .i64 a0_4), .row false (.ints .i64 a1_0), .row false (.ints .i64 a1_2), .row false (.pairs a1_3), .row false (.ints .i64 a1_4), .rbox [.sl 0, .v (.int .i64 a0_1), .sl 1, .sl 2, .sl 3], .rbox [.sl 4, .v (.int .i64 a1_1), .sl 5, .sl 6, .sl 7]]) (Sum.elim (fun (_ : Unit) => Exit.exit 0) (fun (_ : Unit) => Exit.ret)) (Sum.elim (fun (_ : Unit) => []) (fun (_ : Unit) => [(4, .v (.bool false))])) (Sum.elim (fun (_ : Unit) => [.row false (.ints .i64 a0_0), .row false (.ints .i64 a0_2), .row false (.pairs a0_3), .row false (.ints .i64 a0_4), .row false (.ints .i64 a1_0), .row false (.ints .i64 a1_2), .row false (.pairs a1_3), .row false (.ints .i64 a1_4)]) (fun (_ : Unit) => [.row false (.ints .i64 a0_0), .row false (.ints .i64 a0_2), .row false (.pairs a0_3), .row false (.ints .i64 a0_4), .row false (.ints .i64 a1_0), .row false (.ints .i64 a1_2), .row false (.pairs a1_3), .row false (.ints .i64 a1_4)])) ?_ ?_ ?_ ?_
      · rintro (⟨⟩ | ⟨⟩) hy <;> cases hy
      · clear h hx
        exact Red.auto
      · clear h hx
        rintro t5 r h
        unfold laws_sameChannel_b0 at h
        try dsimp only at h
        try dsimp only
        refine awp_seq fun K37 hK37 => ?_
        refine awp_reg ftCOk [(2, .pp 8 0), (3, .pp 9 0), (5, .v (.int .i64 t5)), (48, .v (.bool (decide (t5 < (a0_3.length : Int)))))] [.row false (.ints .i64 a0_0), .row false (.ints .i64 a0_2), .row false (.pairs a0_3), .row false (.ints .i64 a0_4), .row false (.ints .i64 a1_0), .row false (.ints .i64 a1_2), .row false (.pairs a1_3), .row false (.ints .i64 a1_4), .rbox [.sl 0, .v (.int .i64 a0_1), .sl 1, .sl 2, .sl 3], .rbox [.sl 4, .v (.int .i64 a1_1), .sl 5, .sl 6, .sl 7]] ?_
        refine awp_cond (t := 48) rfl (fun hc38 => ?_) (fun hc38 => ?_)
        · replace h := bite_t h hc38
          refine awp_skip ?_
          (try simp only [Thn, InBlk, ↓reduceIte, Nat.reduceEqDiff])
          refine hK37 _ _ ?_
          clear hK37
          refine awp_seq fun K40 hK40 => ?_
          refine awp_block ?_
          replace h := chk_some h
          obtain ⟨hp0, h⟩ := h
          replace h := chk_some h
          obtain ⟨hp1, h⟩ := h
          refine awp_regQ mixed ftCOk [(2, .pp 8 0), (3, .pp 9 0), (5, .v (.int .i64 t5)), (61, .v (.bool (!(((a0_3.getD t5.toNat (0, 0)).1 == (a1_3.getD t5.toNat (0, 0)).1) && ((a0_3.getD t5.toNat (0, 0)).2 == (a1_3.getD t5.toNat (0, 0)).2)))))] [.row false (.ints .i64 a0_0), .row false (.ints .i64 a0_2), .row false (.pairs a0_3), .row false (.ints .i64 a0_4), .row false (.ints .i64 a1_0), .row false (.ints .i64 a1_2), .row false (.pairs a1_3), .row false (.ints .i64 a1_4), .rbox [.sl 0, .v (.int .i64 a0_1), .sl 1, .sl 2, .sl 3], .rbox [.sl 4, .v (.int .i64 a1_1), .sl 5, .sl 6, .sl 7]] ?_
          clear hp0 hp1
          refine awp_cond (t := 61) rfl (fun hc41 => ?_) (fun hc41 => ?_)
          · replace h := bite_t h hc41
            refine awp_reg ftCOk [(4, .v (.bool false))] [.row false (.ints .i64 a0_0), .row false (.ints .i64 a0_2), .row false (.pairs a0_3), .row false (.ints .i64 a0_4), .row false (.ints .i64 a1_0), .row false (.ints .i64 a1_2), .row false (.pairs a1_3), .row false (.ints .i64 a1_4), .rbox [.sl 0, .v (.int .i64 a0_1), .sl 1, .sl 2, .sl 3], .rbox [.sl 4, .v (.int .i64 a1_1), .sl 5, .sl 6, .sl 7]] ?_
            refine awp_ret ?_
            (try simp only [Thn, InBlk, ↓reduceIte, Nat.reduceEqDiff])
            obtain rfl := Option.some.inj h
            refine LoopQ.out rfl ?_
            exact Red.selA [0, 1, 2, 3, 4, 5, 6, 7] Red.auto
          · replace h := bite_f h hc41
            refine awp_skip ?_
            (try simp only [Thn, InBlk, ↓reduceIte, Nat.reduceEqDiff])
            (try simp only [Thn, InBlk, ↓reduceIte, Nat.reduceEqDiff])
            refine hK40 _ _ ?_
            clear hK40
            replace h := chk_some h
            obtain ⟨hp0, h⟩ := h
            refine awp_regE ftCOk [(2, .pp 8 0), (3, .pp 9 0), (5, .v (.int .i64 (t5 + 1)))] [.row false (.ints .i64 a0_0), .row false (.ints .i64 a0_2), .row false (.pairs a0_3), .row false (.ints .i64 a0_4), .row false (.ints .i64 a1_0), .row false (.ints .i64 a1_2), .row false (.pairs a1_3), .row false (.ints .i64 a1_4), .rbox [.sl 0, .v (.int .i64 a0_1), .sl 1, .sl 2, .sl 3], .rbox [.sl 4, .v (.int .i64 a1_1), .sl 5, .sl 6, .sl 7]] ?_
            clear hp0
            obtain rfl := Option.some.inj h
            refine LoopQ.next ?_
            exact Red.auto
        · replace h := bite_f h hc38
          refine awp_exit ?_
          (try simp only [Thn, InBlk, ↓reduceIte, Nat.reduceEqDiff])
          obtain rfl := Option.some.inj h
          refine LoopQ.out rfl ?_
          exact Red.selA [0, 1, 2, 3, 4, 5, 6, 7] Red.auto
      · clear hx
        rcases x42 with (⟨⟩ | ⟨⟩)
        · try dsimp only [Sum.elim_inl, Sum.elim_inr] at h
          try dsimp only [Sum.elim_inl, Sum.elim_inr]
          (try simp only [Thn, InBlk, ↓reduceIte, Nat.reduceEqDiff])
          (try simp only [Thn, InBlk, ↓reduceIte, Nat.reduceEqDiff])
          (try simp only [Thn, InBlk, ↓reduceIte, Nat.reduceEqDiff])
          refine hK23 _ _ ?_
          clear hK23
          refine awp_reg ftCOk [(4, .v (.bool true))] [.row false (.ints .i64 a0_0), .row false (.ints .i64 a0_2), .row false (.pairs a0_3), .row false (.ints .i64 a0_4), .row false (.ints .i64 a1_0), .row false (.ints .i64 a1_2), .row false (.pairs a1_3), .row false (.ints .i64 a1_4)] ?_
          refine awp_ret ?_
          (try simp only [Thn, InBlk, ↓reduceIte, Nat.reduceEqDiff])
          obtain rfl := Option.some.inj h
          refine ⟨by simp, _, [0, 1, 2, 3, 4, 5, 6, 7], (by simp only [go_sem, Nat.reduceBEq, Nat.reduceLT, Nat.reduceAdd, Nat.reduceLeDiff, Nat.reduceSub, Nat.reduceEqDiff, Int.reduceToNat, reduceCtorEq, ↓reduceIte]; exact rfl), ?_, ?_, ?_, ?_⟩
          · first | exact trivial | exact ⟨trivial, trivial⟩ | exact ⟨trivial, trivial, trivial⟩ | exact ⟨trivial, trivial, trivial, trivial⟩ | (simp only [allP, and_true, true_and]; done) | (simp only [allP, and_true, true_and]; omega)
          · simp [selOk, pos]
          · simp
          · first | exact ⟨rfl, rfl⟩ | (simp only [go_sem, Nat.reduceBEq, Nat.reduceLT, Nat.reduceAdd, Nat.reduceLeDiff, Nat.reduceSub, Nat.reduceEqDiff, Int.reduceToNat, reduceCtorEq, ↓reduceIte]; done) | (simp [go_sem, Nat.reduceBEq, Nat.reduceLT, Nat.reduceAdd, Nat.reduceLeDiff, Nat.reduceSub, Nat.reduceEqDiff, Int.reduceToNat, reduceCtorEq, ↓reduceIte]; done) | (simp only [go_sem, Nat.reduceBEq, Nat.reduceLT, Nat.reduceAdd, Nat.reduceLeDiff, Nat.reduceSub, Nat.reduceEqDiff, Int.reduceToNat, reduceCtorEq, ↓reduceIte]; exact ⟨rfl, rfl⟩) | (simp_all [go_sem, Nat.reduceBEq, Nat.reduceLT, Nat.reduceAdd, Nat.reduceLeDiff, Nat.reduceSub, Nat.reduceEqDiff, Int.reduceToNat, reduceCtorEq, ↓reduceIte]; done)
        · try dsimp only [Sum.elim_inl, Sum.elim_inr] at h
          try dsimp only [Sum.elim_inl, Sum.elim_inr]
          (try simp only [Thn, InBlk, ↓reduceIte, Nat.reduceEqDiff])
          obtain rfl := Option.some.inj h
          refine ⟨by simp, _, [0, 1, 2, 3, 4, 5, 6, 7], (by simp only [go_sem, Nat.reduceBEq, Nat.reduceLT, Nat.reduceAdd, Nat.reduceLeDiff, Nat.reduceSub, Nat.reduceEqDiff, Int.reduceToNat, reduceCtorEq, ↓reduceIte]; exact rfl), ?_, ?_, ?_, ?_⟩
          · first | exact trivial | exact ⟨trivial, trivial⟩ | exact ⟨trivial, trivial, trivial⟩ | exact ⟨trivial, trivial, trivial, trivial⟩ | (simp only [allP, and_true, true_and]; done) | (simp only [allP, and_true, true_and]; omega)
          · simp [selOk, pos]
          · simp
          · first | exact ⟨rfl, rfl⟩ | (simp only [go_sem, Nat.reduceBEq, Nat.reduceLT, Nat.reduceAdd, Nat.reduceLeDiff, Nat.reduceSub, Nat.reduceEqDiff, Int.reduceToNat, reduceCtorEq, ↓reduceIte]; done) | (simp [go_sem, Nat.reduceBEq, Nat.reduceLT, Nat.reduceAdd, Nat.reduceLeDiff, Nat.reduceSub, Nat.reduceEqDiff, Int.reduceToNat, reduceCtorEq, ↓reduceIte]; done) | (simp only [go_sem, Nat.reduceBEq, Nat.reduceLT, Nat.reduceAdd, Nat.reduceLeDiff, Nat.reduceSub, Nat.reduceEqDiff, Int.reduceToNat, reduceCtorEq, ↓reduceIte]; exact ⟨rfl, rfl⟩) | (simp_all [go_sem, Nat.reduceBEq, Nat.reduceLT, Nat.reduceAdd, Nat.reduceLeDiff, Nat.reduceSub, Nat.reduceEqDiff, Int.reduceToNat, reduceCtorEq, ↓reduceIte]; done)
theorem k_impl_BytesValid (a0 : List Int) {r : Bool} (h : impl_BytesValid a0 = some r) :
    FnA Try.prog 124 [.sl 0] [.row false (.ints .i64 a0)] [] (fun x H => x = .v (.bool r) ∧ H = [.row false (.ints .i64 a0)]) := by
  unfold impl_BytesValid at h
  refine FnA.of (N := 21) (pin := [0]) (rs := [.tmp 2]) Try.func124 rfl en124 rfl rfl (by simp) (by simp; try omega) ?_
  refine awp_reg ftCOk [(0, .sl 0)] [.row false (.ints .i64 a0)] ?_
  refine awp_seq fun K2 hK2 => ?_
  refine awp_reg ftCOk [(0, .sl 0), (7, .v (.bool (decide (2000 < (a0.length : Int)))))] [.row false (.ints .i64 a0)] ?_
  refine awp_cond (t := 7) rfl (fun hc3 => ?_) (fun hc3 => ?_)
  · replace h := bite_t h hc3
    refine awp_reg ftCOk [(2, .v (.bool false))] [.row false (.ints .i64 a0)] ?_
    refine awp_ret ?_
    (try simp only [Thn, InBlk, ↓reduceIte, Nat.reduceEqDiff])
    obtain rfl := Option.some.inj h
    refine ⟨by simp, _, [0], (by simp only [go_sem, Nat.reduceBEq, Nat.reduceLT, Nat.reduceAdd, Nat.reduceLeDiff, Nat.reduceSub, Nat.reduceEqDiff, Int.reduceToNat, reduceCtorEq, ↓reduceIte]; exact rfl), ?_, ?_, ?_, ?_⟩
    · first | exact trivial | exact ⟨trivial, trivial⟩ | exact ⟨trivial, trivial, trivial⟩ | exact ⟨trivial, trivial, trivial, trivial⟩ | (simp only [allP, and_true, true_and]; done) | (simp only [allP, and_true, true_and]; omega)
    · simp [selOk, pos]
    · simp
    · first | exact ⟨rfl, rfl⟩ | (simp only [go_sem, Nat.reduceBEq, Nat.reduceLT, Nat.reduceAdd, Nat.reduceLeDiff, Nat.reduceSub, Nat.reduceEqDiff, Int.reduceToNat, reduceCtorEq, ↓reduceIte]; done) | (simp [go_sem, Nat.reduceBEq, Nat.reduceLT, Nat.reduceAdd, Nat.reduceLeDiff, Nat.reduceSub, Nat.reduceEqDiff, Int.reduceToNat, reduceCtorEq, ↓reduceIte]; done) | (simp only [go_sem, Nat.reduceBEq, Nat.reduceLT, Nat.reduceAdd, Nat.reduceLeDiff, Nat.reduceSub, Nat.reduceEqDiff, Int.reduceToNat, reduceCtorEq, ↓reduceIte]; exact ⟨rfl, rfl⟩) | (simp_all [go_sem, Nat.reduceBEq, Nat.reduceLT, Nat.reduceAdd, Nat.reduceLeDiff, Nat.reduceSub, Nat.reduceEqDiff, Int.reduceToNat, reduceCtorEq, ↓reduceIte]; done)
  · replace h := bite_f h hc3
    refine awp_skip ?_
    (try simp only [Thn, InBlk, ↓reduceIte, Nat.reduceEqDiff])
    refine hK2 _ _ ?_
    clear hK2
    refine awp_seq fun K23 hK23 => ?_
    refine awp_reg ftCOk [(8, .sl 0), (9, .v (.int .i64 (a0.length : Int))), (10, .v (.int .i64 0))] [.row false (.ints .i64 a0)] ?_
    refine awp_block ?_
    replace h := bind_some h
    obtain ⟨x42, hx, h⟩ := h
    refine awp_loopL hx (fun (t10 : Int) => [(8, .sl 0), (9, .v (.int .i64 (a0.length : Int))), (10, .v (.int .i64 t10))]) (fun (t10 : Int) => [.row false (.ints .i64 a0)]) (Sum.elim (fun (_ : Unit) => Exit.exit 0) (fun (_ : Unit) => Exit.ret)) (Sum.elim (fun (_ : Unit) => []) (fun (_ : Unit) => [(2, .v (.bool false))])) (Sum.elim (fun (_ : Unit) => [.row false (.ints .i64 a0)]) (fun (_ : Unit) => [.row false (.ints .i64 a0)])) ?_ ?_ ?_ ?_
    · rintro (⟨⟩ | ⟨⟩) hy <;> cases hy
    · clear h hx
      exact Red.auto
    · clear h hx
      rintro t10 r h
      unfold impl_BytesValid_b0 at h
      try dsimp only at h
      try dsimp only
      refine awp_reg ftCOk [(8, .sl 0), (9, .v (.int .i64 (a0.length : Int))), (10, .v (.int .i64 t10)), (11, .v (.bool (decide (t10 < (a0.length : Int)))))] [.row false (.ints .i64 a0)] ?_
      refine awp_seq fun K37 hK37 => ?_
      refine awp_cond (t := 11) rfl (fun hc38 => ?_) (fun hc38 => ?_)
      · replace h := bite_t h hc38
        refine awp_skip ?_
        (try simp only [Thn, InBlk, ↓reduceIte, Nat.reduceEqDiff])
        refine hK37 _ _ ?_
        clear hK37
        refine awp_seq fun K40 hK40 => ?_
        refine awp_block ?_
        replace h := chk_some h
        obtain ⟨hp0, h⟩ := h
        refine awp_reg ftCOk [(4, .v (.int .i64 (a0.getD t10.toNat 0))), (8, .sl 0), (9, .v (.int .i64 (a0.length : Int))), (10, .v (.int .i64 t10))] [.row false (.ints .i64 a0)] ?_
        clear hp0
        refine awp_reg ftCOk [(8, .sl 0), (9, .v (.int .i64 (a0.length : Int))), (10, .v (.int .i64 t10)), (19, .v (.bool ((decide ((a0.getD t10.toNat 0) < 0)) || (decide (255 < (a0.getD t10.toNat 0))))))] [.row false (.ints .i64 a0)] ?_
        refine awp_cond (t := 19) rfl (fun hc41 => ?_) (fun hc41 => ?_)
        · replace h := bite_t h hc41
          refine awp_reg ftCOk [(2, .v (.bool false))] [.row false (.ints .i64 a0)] ?_
          refine awp_ret ?_
          (try simp only [Thn, InBlk, ↓reduceIte, Nat.reduceEqDiff])
          obtain rfl := Option.some.inj h
          refine LoopQ.out rfl ?_
          exact Red.auto
        · replace h := bite_f h hc41
          refine awp_skip ?_
          (try simp only [Thn, InBlk, ↓reduceIte, Nat.reduceEqDiff])
          (try simp only [Thn, InBlk, ↓reduceIte, Nat.reduceEqDiff])
          refine hK40 _ _ ?_
          clear hK40
          replace h := chk_some h
          obtain ⟨hp0, h⟩ := h
          refine awp_regE ftCOk [(8, .sl 0), (9, .v (.int .i64 (a0.length : Int))), (10, .v (.int .i64 (t10 + 1)))] [.row false (.ints .i64 a0)] ?_
          clear hp0
          obtain rfl := Option.some.inj h
          refine LoopQ.next ?_
          exact Red.auto
      · replace h := bite_f h hc38
        refine awp_exit ?_
        (try simp only [Thn, InBlk, ↓reduceIte, Nat.reduceEqDiff])
        obtain rfl := Option.some.inj h
        refine LoopQ.out rfl ?_
        exact Red.auto
    · clear hx
      rcases x42 with (⟨⟩ | ⟨⟩)
      · try dsimp only [Sum.elim_inl, Sum.elim_inr] at h
        try dsimp only [Sum.elim_inl, Sum.elim_inr]
        (try simp only [Thn, InBlk, ↓reduceIte, Nat.reduceEqDiff])
        (try simp only [Thn, InBlk, ↓reduceIte, Nat.reduceEqDiff])
        (try simp only [Thn, InBlk, ↓reduceIte, Nat.reduceEqDiff])
        refine hK23 _ _ ?_
        clear hK23
        refine awp_reg ftCOk [(2, .v (.bool true))] [.row false (.ints .i64 a0)] ?_
        refine awp_ret ?_
        (try simp only [Thn, InBlk, ↓reduceIte, Nat.reduceEqDiff])
        obtain rfl := Option.some.inj h
        refine ⟨by simp, _, [0], (by simp only [go_sem, Nat.reduceBEq, Nat.reduceLT, Nat.reduceAdd, Nat.reduceLeDiff, Nat.reduceSub, Nat.reduceEqDiff, Int.reduceToNat, reduceCtorEq, ↓reduceIte]; exact rfl), ?_, ?_, ?_, ?_⟩
        · first | exact trivial | exact ⟨trivial, trivial⟩ | exact ⟨trivial, trivial, trivial⟩ | exact ⟨trivial, trivial, trivial, trivial⟩ | (simp only [allP, and_true, true_and]; done) | (simp only [allP, and_true, true_and]; omega)
        · simp [selOk, pos]
        · simp
        · first | exact ⟨rfl, rfl⟩ | (simp only [go_sem, Nat.reduceBEq, Nat.reduceLT, Nat.reduceAdd, Nat.reduceLeDiff, Nat.reduceSub, Nat.reduceEqDiff, Int.reduceToNat, reduceCtorEq, ↓reduceIte]; done) | (simp [go_sem, Nat.reduceBEq, Nat.reduceLT, Nat.reduceAdd, Nat.reduceLeDiff, Nat.reduceSub, Nat.reduceEqDiff, Int.reduceToNat, reduceCtorEq, ↓reduceIte]; done) | (simp only [go_sem, Nat.reduceBEq, Nat.reduceLT, Nat.reduceAdd, Nat.reduceLeDiff, Nat.reduceSub, Nat.reduceEqDiff, Int.reduceToNat, reduceCtorEq, ↓reduceIte]; exact ⟨rfl, rfl⟩) | (simp_all [go_sem, Nat.reduceBEq, Nat.reduceLT, Nat.reduceAdd, Nat.reduceLeDiff, Nat.reduceSub, Nat.reduceEqDiff, Int.reduceToNat, reduceCtorEq, ↓reduceIte]; done)
      · try dsimp only [Sum.elim_inl, Sum.elim_inr] at h
        try dsimp only [Sum.elim_inl, Sum.elim_inr]
        (try simp only [Thn, InBlk, ↓reduceIte, Nat.reduceEqDiff])
        obtain rfl := Option.some.inj h
        refine ⟨by simp, _, [0], (by simp only [go_sem, Nat.reduceBEq, Nat.reduceLT, Nat.reduceAdd, Nat.reduceLeDiff, Nat.reduceSub, Nat.reduceEqDiff, Int.reduceToNat, reduceCtorEq, ↓reduceIte]; exact rfl), ?_, ?_, ?_, ?_⟩
        · first | exact trivial | exact ⟨trivial, trivial⟩ | exact ⟨trivial, trivial, trivial⟩ | exact ⟨trivial, trivial, trivial, trivial⟩ | (simp only [allP, and_true, true_and]; done) | (simp only [allP, and_true, true_and]; omega)
        · simp [selOk, pos]
        · simp
        · first | exact ⟨rfl, rfl⟩ | (simp only [go_sem, Nat.reduceBEq, Nat.reduceLT, Nat.reduceAdd, Nat.reduceLeDiff, Nat.reduceSub, Nat.reduceEqDiff, Int.reduceToNat, reduceCtorEq, ↓reduceIte]; done) | (simp [go_sem, Nat.reduceBEq, Nat.reduceLT, Nat.reduceAdd, Nat.reduceLeDiff, Nat.reduceSub, Nat.reduceEqDiff, Int.reduceToNat, reduceCtorEq, ↓reduceIte]; done) | (simp only [go_sem, Nat.reduceBEq, Nat.reduceLT, Nat.reduceAdd, Nat.reduceLeDiff, Nat.reduceSub, Nat.reduceEqDiff, Int.reduceToNat, reduceCtorEq, ↓reduceIte]; exact ⟨rfl, rfl⟩) | (simp_all [go_sem, Nat.reduceBEq, Nat.reduceLT, Nat.reduceAdd, Nat.reduceLeDiff, Nat.reduceSub, Nat.reduceEqDiff, Int.reduceToNat, reduceCtorEq, ↓reduceIte]; done)
theorem k_impl_CheckSum (a0 : List Int) {r : Int} (h : impl_CheckSum a0 = some r) :
    FnA Try.prog 82 [.sl 0] [.row false (.ints .i64 a0)] [] (fun x H => x = .v (.int .i64 r) ∧ H = [.row false (.ints .i64 a0)]) := by
  unfold impl_CheckSum at h
  refine FnA.of (N := 23) (pin := [0]) (rs := [.tmp 2]) Try.func82 rfl en82 rfl rfl (by simp) (by simp; try omega) ?_
  refine awp_reg ftCOk [(0, .sl 0)] [.row false (.ints .i64 a0)] ?_
  refine awp_seq fun K2 hK2 => ?_
  replace h := bind_some h
  obtain ⟨y, hr0, h⟩ := h
  try dsimp only at h
  refine awp_to [(0, .sl 0), (8, .v (.bool (!y)))] [.row false (.ints .i64 a0)] ?_ ?_
  · clear h
    intro K hK
    refine awp_region ftCOk ?_
    simp (maxSteps := 4000000) only [go_sem, Nat.reduceBEq, Nat.reduceLT, Nat.reduceAdd, Nat.reduceLeDiff, Nat.reduceSub, Nat.reduceEqDiff, Int.reduceToNat, reduceCtorEq, ↓reduceIte]
    repeat' (first | refine And.intro ?_ ?_ | intro hg)
    all_goals (try simp (disch := omega) only [wrap_fits])
    all_goals first
      | (refine hK _ _ ?_; exact Red.auto)
      | exact trivial
      | assumption
      | omega
      | exact wrap_fits (by omega) (by omega)
      | (refine wpA_callA (k_impl_BytesValid a0 (h := hr0)) [0] [] ?_
         rintro x Hc' ⟨rfl, rfl⟩ hlen
         refine vcOps_sound ftCOk ?_
         simp (maxSteps := 4000000) only [go_sem, Nat.reduceBEq, Nat.reduceLT, Nat.reduceAdd, Nat.reduceLeDiff, Nat.reduceSub, Nat.reduceEqDiff, Int.reduceToNat, reduceCtorEq, ↓reduceIte]
         repeat' (first | refine And.intro ?_ ?_ | intro hg)
         all_goals (try simp (disch := omega) only [wrap_fits])
         all_goals first
           | (refine hK _ _ ?_; exact Red.auto)
           | exact trivial
           | assumption
           | omega
           | exact wrap_fits (by omega) (by omega)
           | (simp_all; done)
           | (simp_all; omega))
      | (simp_all; done)
      | (simp_all; omega)
  · clear hr0
    refine awp_cond (t := 8) rfl (fun hc3 => ?_) (fun hc3 => ?_)
    · replace h := bite_t h hc3
      refine awp_reg ftCOk [(2, .v (.int .i64 (-1)))] [.row false (.ints .i64 a0)] ?_
      refine awp_ret ?_
      (try simp only [Thn, InBlk, ↓reduceIte, Nat.reduceEqDiff])
      obtain rfl := Option.some.inj h
      refine ⟨by simp, _, [0], (by simp only [go_sem, Nat.reduceBEq, Nat.reduceLT, Nat.reduceAdd, Nat.reduceLeDiff, Nat.reduceSub, Nat.reduceEqDiff, Int.reduceToNat, reduceCtorEq, ↓reduceIte]; exact rfl), ?_, ?_, ?_, ?_⟩
      · first | exact trivial | exact ⟨trivial, trivial⟩ | exact ⟨trivial, trivial, trivial⟩ | exact ⟨trivial, trivial, trivial, trivial⟩ | (simp only [allP, and_true, true_and]; done) | (simp only [allP, and_true, true_and]; omega)
      · simp [selOk, pos]
      · simp
      · first | exact ⟨rfl, rfl⟩ | (simp only [go_sem, Nat.reduceBEq, Nat.reduceLT, Nat.reduceAdd, Nat.reduceLeDiff, Nat.reduceSub, Nat.reduceEqDiff, Int.reduceToNat, reduceCtorEq, ↓reduceIte]; done) | (simp [go_sem, Nat.reduceBEq, Nat.reduceLT, Nat.reduceAdd, Nat.reduceLeDiff, Nat.reduceSub, Nat.reduceEqDiff, Int.reduceToNat, reduceCtorEq, ↓reduceIte]; done) | (simp only [go_sem, Nat.reduceBEq, Nat.reduceLT, Nat.reduceAdd, Nat.reduceLeDiff, Nat.reduceSub, Nat.reduceEqDiff, Int.reduceToNat, reduceCtorEq, ↓reduceIte]; exact ⟨rfl, rfl⟩) | (simp_all [go_sem, Nat.reduceBEq, Nat.reduceLT, Nat.reduceAdd, Nat.reduceLeDiff, Nat.reduceSub, Nat.reduceEqDiff, Int.reduceToNat, reduceCtorEq, ↓reduceIte]; done)
    · replace h := bite_f h hc3
      refine awp_skip ?_
      (try simp only [Thn, InBlk, ↓reduceIte, Nat.reduceEqDiff])
      refine hK2 _ _ ?_
      clear hK2
      refine awp_reg ftCOk [(0, .sl 0), (3, .v (.int .i64 7))] [.row false (.ints .i64 a0)] ?_
      refine awp_seq fun K17 hK17 => ?_
      refine awp_reg ftCOk [(3, .v (.int .i64 7)), (9, .sl 0), (10, .v (.int .i64 (a0.length : Int))), (11, .v (.int .i64 0))] [.row false (.ints .i64 a0)] ?_
      refine awp_block ?_
      replace h := bind_some h
      obtain ⟨t3_1, hx, h⟩ := h
      refine awp_loopL hx (fun ((t3, t11) : Int × Int) => [(3, .v (.int .i64 t3)), (9, .sl 0), (10, .v (.int .i64 (a0.length : Int))), (11, .v (.int .i64 t11))]) (fun ((t3, t11) : Int × Int) => [.row false (.ints .i64 a0)]) (fun (t3_1 : Int) => Exit.exit 0) (fun (t3_1 : Int) => [(3, .v (.int .i64 t3_1))]) (fun (t3_1 : Int) => [.row false (.ints .i64 a0)]) ?_ ?_ ?_ ?_
      · rintro t3_1 hy <;> cases hy
      · clear h hx
        exact Red.auto
      · clear h hx
        rintro ⟨t3, t11⟩ r h
        unfold impl_CheckSum_b0 at h
        try dsimp only at h
        try dsimp only
        refine awp_reg ftCOk [(3, .v (.int .i64 t3)), (9, .sl 0), (10, .v (.int .i64 (a0.length : Int))), (11, .v (.int .i64 t11)), (12, .v (.bool (decide (t11 < (a0.length : Int)))))] [.row false (.ints .i64 a0)] ?_
        refine awp_seq fun K27 hK27 => ?_
        refine awp_cond (t := 12) rfl (fun hc28 => ?_) (fun hc28 => ?_)
        · replace h := bite_t h hc28
          refine awp_skip ?_
          (try simp only [Thn, InBlk, ↓reduceIte, Nat.reduceEqDiff])
          refine hK27 _ _ ?_
          clear hK27
          refine awp_seq fun K29 hK29 => ?_
          refine awp_block ?_
          replace h := chk_some h
          obtain ⟨hp0, h⟩ := h
          refine awp_reg ftCOk [(3, .v (.int .i64 t3)), (5, .v (.int .i64 (a0.getD t11.toNat 0))), (9, .sl 0), (10, .v (.int .i64 (a0.length : Int))), (11, .v (.int .i64 t11))] [.row false (.ints .i64 a0)] ?_
          clear hp0
          replace h := chk_some h
          obtain ⟨hp0, h⟩ := h
          replace h := chk_some h
          obtain ⟨hp1, h⟩ := h
          replace h := chk_some h
          obtain ⟨hp2, h⟩ := h
          replace h := chk_some h
          obtain ⟨hp3, h⟩ := h
          refine awp_regE ftCOk [(3, .v (.int .i64 ((((31 * t3) + (a0.getD t11.toNat 0)) + 1) % 251))), (9, .sl 0), (10, .v (.int .i64 (a0.length : Int))), (11, .v (.int .i64 t11))] [.row false (.ints .i64 a0)] ?_
          clear hp0 hp1 hp2 hp3
          (try simp only [Thn, InBlk, ↓reduceIte, Nat.reduceEqDiff])
          (try simp only [Thn, InBlk, ↓reduceIte, Nat.reduceEqDiff])
          refine hK29 _ _ ?_
          clear hK29
          replace h := chk_some h
          obtain ⟨hp0, h⟩ := h
          refine awp_regE ftCOk [(3, .v (.int .i64 ((((31 * t3) + (a0.getD t11.toNat 0)) + 1) % 251))), (9, .sl 0), (10, .v (.int .i64 (a0.length : Int))), (11, .v (.int .i64 (t11 + 1)))] [.row false (.ints .i64 a0)] ?_
          clear hp0
          obtain rfl := Option.some.inj h
          refine LoopQ.next ?_
          exact Red.auto
        · replace h := bite_f h hc28
          refine awp_exit ?_
          (try simp only [Thn, InBlk, ↓reduceIte, Nat.reduceEqDiff])
          obtain rfl := Option.some.inj h
          refine LoopQ.out rfl ?_
          exact Red.auto
      · clear hx
        skip
        · try dsimp only [Sum.elim_inl, Sum.elim_inr] at h
          try dsimp only [Sum.elim_inl, Sum.elim_inr]
          (try simp only [Thn, InBlk, ↓reduceIte, Nat.reduceEqDiff])
          (try simp only [Thn, InBlk, ↓reduceIte, Nat.reduceEqDiff])
          (try simp only [Thn, InBlk, ↓reduceIte, Nat.reduceEqDiff])
          refine hK17 _ _ ?_
          clear hK17
          refine awp_reg ftCOk [(2, .v (.int .i64 t3_1))] [.row false (.ints .i64 a0)] ?_
          refine awp_ret ?_
          (try simp only [Thn, InBlk, ↓reduceIte, Nat.reduceEqDiff])
          obtain rfl := Option.some.inj h
          refine ⟨by simp, _, [0], (by simp only [go_sem, Nat.reduceBEq, Nat.reduceLT, Nat.reduceAdd, Nat.reduceLeDiff, Nat.reduceSub, Nat.reduceEqDiff, Int.reduceToNat, reduceCtorEq, ↓reduceIte]; exact rfl), ?_, ?_, ?_, ?_⟩
          · first | exact trivial | exact ⟨trivial, trivial⟩ | exact ⟨trivial, trivial, trivial⟩ | exact ⟨trivial, trivial, trivial, trivial⟩ | (simp only [allP, and_true, true_and]; done) | (simp only [allP, and_true, true_and]; omega)
          · simp [selOk, pos]
          · simp
          · first | exact ⟨rfl, rfl⟩ | (simp only [go_sem, Nat.reduceBEq, Nat.reduceLT, Nat.reduceAdd, Nat.reduceLeDiff, Nat.reduceSub, Nat.reduceEqDiff, Int.reduceToNat, reduceCtorEq, ↓reduceIte]; done) | (simp [go_sem, Nat.reduceBEq, Nat.reduceLT, Nat.reduceAdd, Nat.reduceLeDiff, Nat.reduceSub, Nat.reduceEqDiff, Int.reduceToNat, reduceCtorEq, ↓reduceIte]; done) | (simp only [go_sem, Nat.reduceBEq, Nat.reduceLT, Nat.reduceAdd, Nat.reduceLeDiff, Nat.reduceSub, Nat.reduceEqDiff, Int.reduceToNat, reduceCtorEq, ↓reduceIte]; exact ⟨rfl, rfl⟩) | (simp_all [go_sem, Nat.reduceBEq, Nat.reduceLT, Nat.reduceAdd, Nat.reduceLeDiff, Nat.reduceSub, Nat.reduceEqDiff, Int.reduceToNat, reduceCtorEq, ↓reduceIte]; done)
theorem k_laws_alive {r : Bool} (h : laws_alive = some r) :
    FnA Try.prog 27 [] [] [] (fun x H => x = .v (.bool r) ∧ H = []) := by
  unfold laws_alive at h
  refine FnA.of (N := 4) (pin := []) (rs := [.tmp 0]) Try.func27 rfl en27 rfl rfl (by simp) (by simp; try omega) ?_
  refine awp_reg ftCOk [] [] ?_
  replace h := bind_some h
  obtain ⟨y, hr0, h⟩ := h
  try dsimp only at h
  refine awp_to [(0, .v (.bool (y == 7)))] [.row true (.ints .i64 [])] ?_ ?_
  · clear h
    intro K hK
    refine awp_region ftCOk ?_
    simp (maxSteps := 4000000) only [go_sem, Nat.reduceBEq, Nat.reduceLT, Nat.reduceAdd, Nat.reduceLeDiff, Nat.reduceSub, Nat.reduceEqDiff, Int.reduceToNat, reduceCtorEq, ↓reduceIte]
    repeat' (first | refine And.intro ?_ ?_ | intro hg)
    all_goals (try simp (disch := omega) only [wrap_fits])
    all_goals first
      | (refine hK _ _ ?_; exact Red.auto)
      | exact trivial
      | assumption
      | omega
      | exact wrap_fits (by omega) (by omega)
      | (refine wpA_callA (k_impl_CheckSum [] (h := hr0)) [0] [] ?_
         rintro x Hc' ⟨rfl, rfl⟩ hlen
         refine vcOps_sound ftCOk ?_
         simp (maxSteps := 4000000) only [go_sem, Nat.reduceBEq, Nat.reduceLT, Nat.reduceAdd, Nat.reduceLeDiff, Nat.reduceSub, Nat.reduceEqDiff, Int.reduceToNat, reduceCtorEq, ↓reduceIte]
         repeat' (first | refine And.intro ?_ ?_ | intro hg)
         all_goals (try simp (disch := omega) only [wrap_fits])
         all_goals first
           | (refine hK _ _ ?_; exact Red.auto)
           | exact trivial
           | assumption
           | omega
           | exact wrap_fits (by omega) (by omega)
           | (simp_all; done)
           | (simp_all; omega))
      | (simp_all; done)
      | (simp_all; omega)
  · clear hr0
    refine awp_ret ?_
    (try simp only [Thn, InBlk, ↓reduceIte, Nat.reduceEqDiff])
    obtain rfl := Option.some.inj h
    refine ⟨by simp, _, [], (by simp only [go_sem, Nat.reduceBEq, Nat.reduceLT, Nat.reduceAdd, Nat.reduceLeDiff, Nat.reduceSub, Nat.reduceEqDiff, Int.reduceToNat, reduceCtorEq, ↓reduceIte]; exact rfl), ?_, ?_, ?_, ?_⟩
    · first | exact trivial | exact ⟨trivial, trivial⟩ | exact ⟨trivial, trivial, trivial⟩ | exact ⟨trivial, trivial, trivial, trivial⟩ | (simp only [allP, and_true, true_and]; done) | (simp only [allP, and_true, true_and]; omega)
    · simp [selOk, pos]
    · simp
    · first | exact ⟨rfl, rfl⟩ | (simp only [go_sem, Nat.reduceBEq, Nat.reduceLT, Nat.reduceAdd, Nat.reduceLeDiff, Nat.reduceSub, Nat.reduceEqDiff, Int.reduceToNat, reduceCtorEq, ↓reduceIte]; done) | (simp [go_sem, Nat.reduceBEq, Nat.reduceLT, Nat.reduceAdd, Nat.reduceLeDiff, Nat.reduceSub, Nat.reduceEqDiff, Int.reduceToNat, reduceCtorEq, ↓reduceIte]; done) | (simp only [go_sem, Nat.reduceBEq, Nat.reduceLT, Nat.reduceAdd, Nat.reduceLeDiff, Nat.reduceSub, Nat.reduceEqDiff, Int.reduceToNat, reduceCtorEq, ↓reduceIte]; exact ⟨rfl, rfl⟩) | (simp_all [go_sem, Nat.reduceBEq, Nat.reduceLT, Nat.reduceAdd, Nat.reduceLeDiff, Nat.reduceSub, Nat.reduceEqDiff, Int.reduceToNat, reduceCtorEq, ↓reduceIte]; done)
theorem k_impl_ChannelDone (a0_0 : List Int) (a0_1 : Int) (a0_2 : List Int) (a0_3 : List (Int × Int)) (a0_4 : List Int) {r : Bool} (h : impl_ChannelDone a0_0 a0_1 a0_2 a0_3 a0_4 = some r) :
    FnA Try.prog 28 [.agg [.sl 0, .v (.int .i64 a0_1), .sl 1, .sl 2, .sl 3]] [.row false (.ints .i64 a0_0), .row false (.ints .i64 a0_2), .row false (.pairs a0_3), .row false (.ints .i64 a0_4)] [] (fun x H => x = .v (.bool r) ∧ H = [.row false (.ints .i64 a0_0), .row false (.ints .i64 a0_2), .row false (.pairs a0_3), .row false (.ints .i64 a0_4)]) := by
  unfold impl_ChannelDone at h
  refine FnA.of (N := 8) (pin := [0, 1, 2, 3]) (rs := [.tmp 2]) Try.func28 rfl en28 rfl rfl (by simp) (by simp; try omega) ?_
  refine awp_reg ftCOk [(1, .pp 4 0)] [.row false (.ints .i64 a0_0), .row false (.ints .i64 a0_2), .row false (.pairs a0_3), .row false (.ints .i64 a0_4), .box [.sl 0, .v (.int .i64 a0_1), .sl 1, .sl 2, .sl 3]] ?_
  replace h := bind_some h
  obtain ⟨y, hr0, h⟩ := h
  try dsimp only at h
  replace h := bind_some h
  obtain ⟨y_1, hr1, h⟩ := h
  try dsimp only at h
  refine awp_to [(2, .v (.bool (y && y_1)))] [.row false (.ints .i64 a0_0), .row false (.ints .i64 a0_2), .row false (.pairs a0_3), .row false (.ints .i64 a0_4), .box [.sl 0, .v (.int .i64 a0_1), .sl 1, .sl 2, .sl 3]] ?_ ?_
  · clear h
    intro K hK
    refine awp_region ftCOk ?_
    simp (maxSteps := 4000000) only [go_sem, Nat.reduceBEq, Nat.reduceLT, Nat.reduceAdd, Nat.reduceLeDiff, Nat.reduceSub, Nat.reduceEqDiff, Int.reduceToNat, reduceCtorEq, ↓reduceIte]
    repeat' (first | refine And.intro ?_ ?_ | intro hg)
    all_goals (try simp (disch := omega) only [wrap_fits])
    all_goals first
      | (refine hK _ _ ?_; exact Red.auto)
      | exact trivial
      | assumption
      | omega
      | exact wrap_fits (by omega) (by omega)
      | (refine wpA_callA (k_impl_ChannelValid a0_0 a0_1 a0_2 a0_3 a0_4 (h := hr0)) [0, 1, 2, 3] [] ?_
         rintro x Hc' ⟨rfl, rfl⟩ hlen
         refine vcOps_sound ftCOk ?_
         simp (maxSteps := 4000000) only [go_sem, Nat.reduceBEq, Nat.reduceLT, Nat.reduceAdd, Nat.reduceLeDiff, Nat.reduceSub, Nat.reduceEqDiff, Int.reduceToNat, reduceCtorEq, ↓reduceIte]
         repeat' (first | refine And.intro ?_ ?_ | intro hg)
         all_goals (try simp (disch := omega) only [wrap_fits])
         all_goals first
           | (refine hK _ _ ?_; exact Red.auto)
           | exact trivial
           | assumption
           | omega
           | exact wrap_fits (by omega) (by omega)
           | (refine wpA_guard rfl rfl ?_
              refine wpA_callA (k_impl_Channel_done a0_0 a0_1 a0_2 a0_3 a0_4 (h := (bite_t hr1 (by first | assumption | (simp only [*, Bool.false_or, Bool.true_or, Bool.or_false, Bool.or_true, Bool.false_and, Bool.true_and, Bool.and_false, Bool.and_true, Bool.not_true, Bool.not_false, beq_self_eq_true]; done) | (simp_all; done))))) [4, 0, 1, 2, 3] [] ?_
              rintro x Hc' ⟨rfl, rfl⟩ hlen
              refine vcOps_sound ftCOk ?_
              simp (maxSteps := 4000000) only [go_sem, Nat.reduceBEq, Nat.reduceLT, Nat.reduceAdd, Nat.reduceLeDiff, Nat.reduceSub, Nat.reduceEqDiff, Int.reduceToNat, reduceCtorEq, ↓reduceIte]
              repeat' (first | refine And.intro ?_ ?_ | intro hg)
              all_goals (try simp (disch := omega) only [wrap_fits])
              all_goals first
                | (refine hK _ _ ?_; exact Red.auto)
                | exact trivial
                | assumption
                | omega
                | exact wrap_fits (by omega) (by omega)
                | (simp_all; done)
                | (simp_all; omega))
           | (simp_all; done)
           | (simp_all; omega))
      | (simp_all; done)
      | (simp_all; omega)
  · clear hr0 hr1
    refine awp_ret ?_
    (try simp only [Thn, InBlk, ↓reduceIte, Nat.reduceEqDiff])
    obtain rfl := Option.some.inj h
    refine ⟨by simp, _, [0, 1, 2, 3], (by simp only [go_sem, Nat.reduceBEq, Nat.reduceLT, Nat.reduceAdd, Nat.reduceLeDiff, Nat.reduceSub, Nat.reduceEqDiff, Int.reduceToNat, reduceCtorEq, ↓reduceIte]; exact rfl), ?_, ?_, ?_, ?_⟩
    · first | exact trivial | exact ⟨trivial, trivial⟩ | exact ⟨trivial, trivial, trivial⟩ | exact ⟨trivial, trivial, trivial, trivial⟩ | (simp only [allP, and_true, true_and]; done) | (simp only [allP, and_true, true_and]; omega)
    · simp [selOk, pos]
    · simp
    · first | exact ⟨rfl, rfl⟩ | (simp only [go_sem, Nat.reduceBEq, Nat.reduceLT, Nat.reduceAdd, Nat.reduceLeDiff, Nat.reduceSub, Nat.reduceEqDiff, Int.reduceToNat, reduceCtorEq, ↓reduceIte]; done) | (simp [go_sem, Nat.reduceBEq, Nat.reduceLT, Nat.reduceAdd, Nat.reduceLeDiff, Nat.reduceSub, Nat.reduceEqDiff, Int.reduceToNat, reduceCtorEq, ↓reduceIte]; done) | (simp only [go_sem, Nat.reduceBEq, Nat.reduceLT, Nat.reduceAdd, Nat.reduceLeDiff, Nat.reduceSub, Nat.reduceEqDiff, Int.reduceToNat, reduceCtorEq, ↓reduceIte]; exact ⟨rfl, rfl⟩) | (simp_all [go_sem, Nat.reduceBEq, Nat.reduceLT, Nat.reduceAdd, Nat.reduceLeDiff, Nat.reduceSub, Nat.reduceEqDiff, Int.reduceToNat, reduceCtorEq, ↓reduceIte]; done)
theorem k_laws_FnChannelFinish (a0 : List Int) {r : Bool} (h : laws_FnChannelFinish a0 = some r) :
    FnA Try.prog 4 [.sl 0] [.row false (.ints .u8 a0)] [] (fun x H => x = .v (.bool r) ∧ H = [.row false (.ints .u8 a0)]) := by
  unfold laws_FnChannelFinish at h
  refine FnA.of (N := 56) (pin := [0]) (rs := [.tmp 2]) Try.func4 rfl en4 rfl rfl (by simp) (by simp; try omega) ?_
  refine awp_reg ftCOk [(0, .sl 0)] [.row false (.ints .u8 a0)] ?_
  refine awp_seq fun K2 hK2 => ?_
  refine awp_reg ftCOk [(0, .sl 0), (10, .v (.bool (decide (1048576 < (a0.length : Int)))))] [.row false (.ints .u8 a0)] ?_
  refine awp_cond (t := 10) rfl (fun hc3 => ?_) (fun hc3 => ?_)
  · replace h := bite_t h hc3
    refine awp_reg ftCOk [(2, .v (.bool true))] [.row false (.ints .u8 a0)] ?_
    refine awp_ret ?_
    (try simp only [Thn, InBlk, ↓reduceIte, Nat.reduceEqDiff])
    obtain rfl := Option.some.inj h
    refine ⟨by simp, _, [0], (by simp only [go_sem, Nat.reduceBEq, Nat.reduceLT, Nat.reduceAdd, Nat.reduceLeDiff, Nat.reduceSub, Nat.reduceEqDiff, Int.reduceToNat, reduceCtorEq, ↓reduceIte]; exact rfl), ?_, ?_, ?_, ?_⟩
    · first | exact trivial | exact ⟨trivial, trivial⟩ | exact ⟨trivial, trivial, trivial⟩ | exact ⟨trivial, trivial, trivial, trivial⟩ | (simp only [allP, and_true, true_and]; done) | (simp only [allP, and_true, true_and]; omega)
    · simp [selOk, pos]
    · simp
    · first | exact ⟨rfl, rfl⟩ | (simp only [go_sem, Nat.reduceBEq, Nat.reduceLT, Nat.reduceAdd, Nat.reduceLeDiff, Nat.reduceSub, Nat.reduceEqDiff, Int.reduceToNat, reduceCtorEq, ↓reduceIte]; done) | (simp [go_sem, Nat.reduceBEq, Nat.reduceLT, Nat.reduceAdd, Nat.reduceLeDiff, Nat.reduceSub, Nat.reduceEqDiff, Int.reduceToNat, reduceCtorEq, ↓reduceIte]; done) | (simp only [go_sem, Nat.reduceBEq, Nat.reduceLT, Nat.reduceAdd, Nat.reduceLeDiff, Nat.reduceSub, Nat.reduceEqDiff, Int.reduceToNat, reduceCtorEq, ↓reduceIte]; exact ⟨rfl, rfl⟩) | (simp_all [go_sem, Nat.reduceBEq, Nat.reduceLT, Nat.reduceAdd, Nat.reduceLeDiff, Nat.reduceSub, Nat.reduceEqDiff, Int.reduceToNat, reduceCtorEq, ↓reduceIte]; done)
  · replace h := bite_f h hc3
    refine awp_skip ?_
    (try simp only [Thn, InBlk, ↓reduceIte, Nat.reduceEqDiff])
    refine hK2 _ _ ?_
    clear hK2
    replace h := bind_some h
    obtain ⟨⟨y, y_1, y_2, y_3, y_4⟩, hr0, h⟩ := h
    try dsimp only at h
    refine awp_to [(3, .pp 5 0)] [.row false (.ints .u8 a0), .row true (.ints .i64 y), .row true (.ints .i64 y_2), .row true (.pairs y_3), .row true (.ints .i64 y_4), .box [.sl 1, .v (.int .i64 y_1), .sl 2, .sl 3, .sl 4]] ?_ ?_
    · clear h
      intro K hK
      refine awp_region ftCOk ?_
      simp (maxSteps := 4000000) only [go_sem, Nat.reduceBEq, Nat.reduceLT, Nat.reduceAdd, Nat.reduceLeDiff, Nat.reduceSub, Nat.reduceEqDiff, Int.reduceToNat, reduceCtorEq, ↓reduceIte]
      repeat' (first | refine And.intro ?_ ?_ | intro hg)
      all_goals (try simp (disch := omega) only [wrap_fits])
      all_goals first
        | (refine hK _ _ ?_; exact Red.auto)
        | exact trivial
        | assumption
        | omega
        | exact wrap_fits (by omega) (by omega)
        | (refine wpA_callA (k_spec_DrawChannelFinish a0 (h := hr0)) [0] [] ?_
           rintro x Hc' ⟨rfl, rfl⟩ hlen
           refine vcOps_sound ftCOk ?_
           simp (maxSteps := 4000000) only [go_sem, Nat.reduceBEq, Nat.reduceLT, Nat.reduceAdd, Nat.reduceLeDiff, Nat.reduceSub, Nat.reduceEqDiff, Int.reduceToNat, reduceCtorEq, ↓reduceIte]
           repeat' (first | refine And.intro ?_ ?_ | intro hg)
           all_goals (try simp (disch := omega) only [wrap_fits])
           all_goals first
             | (refine hK _ _ ?_; exact Red.auto)
             | exact trivial
             | assumption
             | omega
             | exact wrap_fits (by omega) (by omega)
             | (simp_all; done)
             | (simp_all; omega))
        | (simp_all; done)
        | (simp_all; omega)
    · clear hr0
      replace h := bind_some h
      obtain ⟨⟨y_5, y_6, y_7, y_8, y_9, y_10⟩, hr0, h⟩ := h
      try dsimp only at h
      refine awp_to [(3, .pp 5 0), (4, .pp 10 0), (5, .v (.int .i64 y_10))] [.row false (.ints .u8 a0), .row true (.ints .i64 y), .row true (.ints .i64 y_2), .row true (.pairs y_3), .row true (.ints .i64 y_4), .box [.sl 1, .v (.int .i64 y_1), .sl 2, .sl 3, .sl 4], .row true (.ints .i64 y_5), .row true (.ints .i64 y_7), .row true (.pairs y_8), .row true (.ints .i64 y_9), .box [.sl 6, .v (.int .i64 y_6), .sl 7, .sl 8, .sl 9]] ?_ ?_
      · clear h
        intro K hK
        refine awp_region ftCOk ?_
        simp (maxSteps := 4000000) only [go_sem, Nat.reduceBEq, Nat.reduceLT, Nat.reduceAdd, Nat.reduceLeDiff, Nat.reduceSub, Nat.reduceEqDiff, Int.reduceToNat, reduceCtorEq, ↓reduceIte]
        repeat' (first | refine And.intro ?_ ?_ | intro hg)
        all_goals (try simp (disch := omega) only [wrap_fits])
        all_goals first
          | (refine hK _ _ ?_; exact Red.auto)
          | exact trivial
          | assumption
          | omega
          | exact wrap_fits (by omega) (by omega)
          | (refine wpA_callA (k_impl_ChannelFinish y y_1 y_2 y_3 y_4 (h := hr0)) [1, 2, 3, 4] [] ?_
             rintro x Hc' ⟨rfl, rfl⟩ hlen
             refine vcOps_sound ftCOk ?_
             simp (maxSteps := 4000000) only [go_sem, Nat.reduceBEq, Nat.reduceLT, Nat.reduceAdd, Nat.reduceLeDiff, Nat.reduceSub, Nat.reduceEqDiff, Int.reduceToNat, reduceCtorEq, ↓reduceIte]
             repeat' (first | refine And.intro ?_ ?_ | intro hg)
             all_goals (try simp (disch := omega) only [wrap_fits])
             all_goals first
               | (refine hK _ _ ?_; exact Red.auto)
               | exact trivial
               | assumption
               | omega
               | exact wrap_fits (by omega) (by omega)
               | (simp_all; done)
               | (simp_all; omega))
          | (simp_all; done)
          | (simp_all; omega)
      · clear hr0
        replace h := bind_some h
        obtain ⟨⟨y_11, y_12, y_13, y_14, y_15, y_16⟩, hr0, h⟩ := h
        try dsimp only at h
        refine awp_to [(3, .pp 5 0), (4, .pp 10 0), (5, .v (.int .i64 y_10)), (6, .pp 15 0), (7, .v (.int .i64 y_16))] [.row false (.ints .u8 a0), .row true (.ints .i64 y), .row true (.ints .i64 y_2), .row true (.pairs y_3), .row true (.ints .i64 y_4), .box [.sl 1, .v (.int .i64 y_1), .sl 2, .sl 3, .sl 4], .row true (.ints .i64 y_5), .row true (.ints .i64 y_7), .row true (.pairs y_8), .row true (.ints .i64 y_9), .box [.sl 6, .v (.int .i64 y_6), .sl 7, .sl 8, .sl 9], .row true (.ints .i64 y_11), .row true (.ints .i64 y_13), .row true (.pairs y_14), .row true (.ints .i64 y_15), .box [.sl 11, .v (.int .i64 y_12), .sl 12, .sl 13, .sl 14]] ?_ ?_
        · clear h
          intro K hK
          refine awp_region ftCOk ?_
          simp (maxSteps := 4000000) only [go_sem, Nat.reduceBEq, Nat.reduceLT, Nat.reduceAdd, Nat.reduceLeDiff, Nat.reduceSub, Nat.reduceEqDiff, Int.reduceToNat, reduceCtorEq, ↓reduceIte]
          repeat' (first | refine And.intro ?_ ?_ | intro hg)
          all_goals (try simp (disch := omega) only [wrap_fits])
          all_goals first
            | (refine hK _ _ ?_; exact Red.auto)
            | exact trivial
            | assumption
            | omega
            | exact wrap_fits (by omega) (by omega)
            | (refine wpA_callA (k_spec_ChannelFinish y y_1 y_2 y_3 y_4 (h := hr0)) [1, 2, 3, 4] [] ?_
               rintro x Hc' ⟨rfl, rfl⟩ hlen
               refine vcOps_sound ftCOk ?_
               simp (maxSteps := 4000000) only [go_sem, Nat.reduceBEq, Nat.reduceLT, Nat.reduceAdd, Nat.reduceLeDiff, Nat.reduceSub, Nat.reduceEqDiff, Int.reduceToNat, reduceCtorEq, ↓reduceIte]
               repeat' (first | refine And.intro ?_ ?_ | intro hg)
               all_goals (try simp (disch := omega) only [wrap_fits])
               all_goals first
                 | (refine hK _ _ ?_; exact Red.auto)
                 | exact trivial
                 | assumption
                 | omega
                 | exact wrap_fits (by omega) (by omega)
                 | (simp_all; done)
                 | (simp_all; omega))
            | (simp_all; done)
            | (simp_all; omega)
        · clear hr0
          refine awp_seq fun K5 hK5 => ?_
          replace h := bind_some h
          obtain ⟨y_17, hr0, h⟩ := h
          try dsimp only at h
          refine awp_to [(3, .pp 5 0), (4, .pp 10 0), (5, .v (.int .i64 y_10)), (31, .v (.bool ((!y_17) || (y_10 != y_16))))] [.row false (.ints .u8 a0), .row true (.ints .i64 y), .row true (.ints .i64 y_2), .row true (.pairs y_3), .row true (.ints .i64 y_4), .box [.sl 1, .v (.int .i64 y_1), .sl 2, .sl 3, .sl 4], .row true (.ints .i64 y_5), .row true (.ints .i64 y_7), .row true (.pairs y_8), .row true (.ints .i64 y_9), .box [.sl 6, .v (.int .i64 y_6), .sl 7, .sl 8, .sl 9], .row true (.ints .i64 y_11), .row true (.ints .i64 y_13), .row true (.pairs y_14), .row true (.ints .i64 y_15), .box [.sl 11, .v (.int .i64 y_12), .sl 12, .sl 13, .sl 14]] ?_ ?_
          · clear h
            intro K hK
            refine awp_region ftCOk ?_
            simp (maxSteps := 4000000) only [go_sem, Nat.reduceBEq, Nat.reduceLT, Nat.reduceAdd, Nat.reduceLeDiff, Nat.reduceSub, Nat.reduceEqDiff, Int.reduceToNat, reduceCtorEq, ↓reduceIte]
            repeat' (first | refine And.intro ?_ ?_ | intro hg)
            all_goals (try simp (disch := omega) only [wrap_fits])
            all_goals first
              | (refine hK _ _ ?_; exact Red.auto)
              | exact trivial
              | assumption
              | omega
              | exact wrap_fits (by omega) (by omega)
              | (refine wpA_callA (k_laws_sameChannel y_5 y_6 y_7 y_8 y_9 y_11 y_12 y_13 y_14 y_15 (h := hr0)) [6, 7, 8, 9, 11, 12, 13, 14] [] ?_
                 rintro x Hc' ⟨rfl, rfl⟩ hlen
                 refine vcOps_sound ftCOk ?_
                 simp (maxSteps := 4000000) only [go_sem, Nat.reduceBEq, Nat.reduceLT, Nat.reduceAdd, Nat.reduceLeDiff, Nat.reduceSub, Nat.reduceEqDiff, Int.reduceToNat, reduceCtorEq, ↓reduceIte]
                 repeat' (first | refine And.intro ?_ ?_ | intro hg)
                 all_goals (try simp (disch := omega) only [wrap_fits])
                 all_goals first
                   | (refine hK _ _ ?_; exact Red.auto)
                   | exact trivial
                   | assumption
                   | omega
                   | exact wrap_fits (by omega) (by omega)
                   | (simp_all; done)
                   | (simp_all; omega))
              | (simp_all; done)
              | (simp_all; omega)
          · clear hr0
            refine awp_cond (t := 31) rfl (fun hc6 => ?_) (fun hc6 => ?_)
            · replace h := bite_t h hc6
              refine awp_reg ftCOk [(2, .v (.bool false))] [.row false (.ints .u8 a0), .row true (.ints .i64 y), .row true (.ints .i64 y_2), .row true (.pairs y_3), .row true (.ints .i64 y_4), .box [.sl 1, .v (.int .i64 y_1), .sl 2, .sl 3, .sl 4], .row true (.ints .i64 y_5), .row true (.ints .i64 y_7), .row true (.pairs y_8), .row true (.ints .i64 y_9), .box [.sl 6, .v (.int .i64 y_6), .sl 7, .sl 8, .sl 9], .row true (.ints .i64 y_11), .row true (.ints .i64 y_13), .row true (.pairs y_14), .row true (.ints .i64 y_15), .box [.sl 11, .v (.int .i64 y_12), .sl 12, .sl 13, .sl 14]] ?_
              refine awp_ret ?_
              (try simp only [Thn, InBlk, ↓reduceIte, Nat.reduceEqDiff])
              obtain rfl := Option.some.inj h
              refine ⟨by simp, _, [0], (by simp only [go_sem, Nat.reduceBEq, Nat.reduceLT, Nat.reduceAdd, Nat.reduceLeDiff, Nat.reduceSub, Nat.reduceEqDiff, Int.reduceToNat, reduceCtorEq, ↓reduceIte]; exact rfl), ?_, ?_, ?_, ?_⟩
              · first | exact trivial | exact ⟨trivial, trivial⟩ | exact ⟨trivial, trivial, trivial⟩ | exact ⟨trivial, trivial, trivial, trivial⟩ | (simp only [allP, and_true, true_and]; done) | (simp only [allP, and_true, true_and]; omega)
              · simp [selOk, pos]
              · simp
              · first | exact ⟨rfl, rfl⟩ | (simp only [go_sem, Nat.reduceBEq, Nat.reduceLT, Nat.reduceAdd, Nat.reduceLeDiff, Nat.reduceSub, Nat.reduceEqDiff, Int.reduceToNat, reduceCtorEq, ↓reduceIte]; done) | (simp [go_sem, Nat.reduceBEq, Nat.reduceLT, Nat.reduceAdd, Nat.reduceLeDiff, Nat.reduceSub, Nat.reduceEqDiff, Int.reduceToNat, reduceCtorEq, ↓reduceIte]; done) | (simp only [go_sem, Nat.reduceBEq, Nat.reduceLT, Nat.reduceAdd, Nat.reduceLeDiff, Nat.reduceSub, Nat.reduceEqDiff, Int.reduceToNat, reduceCtorEq, ↓reduceIte]; exact ⟨rfl, rfl⟩) | (simp_all [go_sem, Nat.reduceBEq, Nat.reduceLT, Nat.reduceAdd, Nat.reduceLeDiff, Nat.reduceSub, Nat.reduceEqDiff, Int.reduceToNat, reduceCtorEq, ↓reduceIte]; done)
            · replace h := bite_f h hc6
              refine awp_skip ?_
              (try simp only [Thn, InBlk, ↓reduceIte, Nat.reduceEqDiff])
              refine hK5 _ _ ?_
              clear hK5
              refine awp_seq fun K8 hK8 => ?_
              refine awp_reg ftCOk [(3, .pp 5 0), (4, .pp 10 0), (5, .v (.int .i64 y_10)), (33, .v (.bool (decide (y_10 < 0))))] [.row false (.ints .u8 a0), .row true (.ints .i64 y), .row true (.ints .i64 y_2), .row true (.pairs y_3), .row true (.ints .i64 y_4), .box [.sl 1, .v (.int .i64 y_1), .sl 2, .sl 3, .sl 4], .row true (.ints .i64 y_5), .row true (.ints .i64 y_7), .row true (.pairs y_8), .row true (.ints .i64 y_9), .box [.sl 6, .v (.int .i64 y_6), .sl 7, .sl 8, .sl 9], .row true (.ints .i64 y_11), .row true (.ints .i64 y_13), .row true (.pairs y_14), .row true (.ints .i64 y_15), .box [.sl 11, .v (.int .i64 y_12), .sl 12, .sl 13, .sl 14]] ?_
              refine awp_cond (t := 33) rfl (fun hc9 => ?_) (fun hc9 => ?_)
              · replace h := bite_t h hc9
                replace h := bind_some h
                obtain ⟨y_18, hr0, h⟩ := h
                try dsimp only at h
                refine awp_to [(2, .v (.bool ((y_10 == (-1)) && y_18)))] [.row false (.ints .u8 a0), .row true (.ints .i64 y), .row true (.ints .i64 y_2), .row true (.pairs y_3), .row true (.ints .i64 y_4), .box [.sl 1, .v (.int .i64 y_1), .sl 2, .sl 3, .sl 4], .row true (.ints .i64 y_5), .row true (.ints .i64 y_7), .row true (.pairs y_8), .row true (.ints .i64 y_9), .box [.sl 6, .v (.int .i64 y_6), .sl 7, .sl 8, .sl 9], .row true (.ints .i64 y_11), .row true (.ints .i64 y_13), .row true (.pairs y_14), .row true (.ints .i64 y_15), .box [.sl 11, .v (.int .i64 y_12), .sl 12, .sl 13, .sl 14]] ?_ ?_
                · clear h
                  intro K hK
                  refine awp_region ftCOk ?_
                  simp (maxSteps := 4000000) only [go_sem, Nat.reduceBEq, Nat.reduceLT, Nat.reduceAdd, Nat.reduceLeDiff, Nat.reduceSub, Nat.reduceEqDiff, Int.reduceToNat, reduceCtorEq, ↓reduceIte]
                  repeat' (first | refine And.intro ?_ ?_ | intro hg)
                  all_goals (try simp (disch := omega) only [wrap_fits])
                  all_goals first
                    | (refine hK _ _ ?_; exact Red.auto)
                    | exact trivial
                    | assumption
                    | omega
                    | exact wrap_fits (by omega) (by omega)
                    | (refine wpA_guard rfl rfl ?_
                       refine wpA_callA (k_laws_alive  (h := (bite_t hr0 (by first | assumption | (simp only [*, Bool.false_or, Bool.true_or, Bool.or_false, Bool.or_true, Bool.false_and, Bool.true_and, Bool.and_false, Bool.and_true, Bool.not_true, Bool.not_false, beq_self_eq_true]; done) | (simp_all; done))))) [] [] ?_
                       rintro x Hc' ⟨rfl, rfl⟩ hlen
                       refine vcOps_sound ftCOk ?_
                       simp (maxSteps := 4000000) only [go_sem, Nat.reduceBEq, Nat.reduceLT, Nat.reduceAdd, Nat.reduceLeDiff, Nat.reduceSub, Nat.reduceEqDiff, Int.reduceToNat, reduceCtorEq, ↓reduceIte]
                       repeat' (first | refine And.intro ?_ ?_ | intro hg)
                       all_goals (try simp (disch := omega) only [wrap_fits])
                       all_goals first
                         | (refine hK _ _ ?_; exact Red.auto)
                         | exact trivial
                         | assumption
                         | omega
                         | exact wrap_fits (by omega) (by omega)
                         | (simp_all; done)
                         | (simp_all; omega))
                    | (simp_all; done)
                    | (simp_all; omega)
                · clear hr0
                  refine awp_ret ?_
                  (try simp only [Thn, InBlk, ↓reduceIte, Nat.reduceEqDiff])
                  obtain rfl := Option.some.inj h
                  refine ⟨by simp, _, [0], (by simp only [go_sem, Nat.reduceBEq, Nat.reduceLT, Nat.reduceAdd, Nat.reduceLeDiff, Nat.reduceSub, Nat.reduceEqDiff, Int.reduceToNat, reduceCtorEq, ↓reduceIte]; exact rfl), ?_, ?_, ?_, ?_⟩
                  · first | exact trivial | exact ⟨trivial, trivial⟩ | exact ⟨trivial, trivial, trivial⟩ | exact ⟨trivial, trivial, trivial, trivial⟩ | (simp only [allP, and_true, true_and]; done) | (simp only [allP, and_true, true_and]; omega)
                  · simp [selOk, pos]
                  · simp
                  · first | exact ⟨rfl, rfl⟩ | (simp only [go_sem, Nat.reduceBEq, Nat.reduceLT, Nat.reduceAdd, Nat.reduceLeDiff, Nat.reduceSub, Nat.reduceEqDiff, Int.reduceToNat, reduceCtorEq, ↓reduceIte]; done) | (simp [go_sem, Nat.reduceBEq, Nat.reduceLT, Nat.reduceAdd, Nat.reduceLeDiff, Nat.reduceSub, Nat.reduceEqDiff, Int.reduceToNat, reduceCtorEq, ↓reduceIte]; done) | (simp only [go_sem, Nat.reduceBEq, Nat.reduceLT, Nat.reduceAdd, Nat.reduceLeDiff, Nat.reduceSub, Nat.reduceEqDiff, Int.reduceToNat, reduceCtorEq, ↓reduceIte]; exact ⟨rfl, rfl⟩) | (simp_all [go_sem, Nat.reduceBEq, Nat.reduceLT, Nat.reduceAdd, Nat.reduceLeDiff, Nat.reduceSub, Nat.reduceEqDiff, Int.reduceToNat, reduceCtorEq, ↓reduceIte]; done)
              · replace h := bite_f h hc9
                refine awp_skip ?_
                (try simp only [Thn, InBlk, ↓reduceIte, Nat.reduceEqDiff])
                refine hK8 _ _ ?_
                clear hK8
                replace h := bind_some h
                obtain ⟨y_19, hr0, h⟩ := h
                try dsimp only at h
                replace h := bind_some h
                obtain ⟨y_20, hr1, h⟩ := h
                try dsimp only at h
                replace h := chk_some h
                obtain ⟨hp2, h⟩ := h
                refine awp_to [(2, .v (.bool ((y_19 && y_20) && (decide (y_10 ≤ ((y.length : Int) + 1))))))] [.row false (.ints .u8 a0), .row true (.ints .i64 y), .row true (.ints .i64 y_2), .row true (.pairs y_3), .row true (.ints .i64 y_4), .box [.sl 1, .v (.int .i64 y_1), .sl 2, .sl 3, .sl 4], .row true (.ints .i64 y_5), .row true (.ints .i64 y_7), .row true (.pairs y_8), .row true (.ints .i64 y_9), .box [.sl 6, .v (.int .i64 y_6), .sl 7, .sl 8, .sl 9], .row true (.ints .i64 y_11), .row true (.ints .i64 y_13), .row true (.pairs y_14), .row true (.ints .i64 y_15), .box [.sl 11, .v (.int .i64 y_12), .sl 12, .sl 13, .sl 14]] ?_ ?_
                · clear h
                  intro K hK
                  refine awp_regionA ?_
                  refine wpA_cutAt 9 [(3, .pp 5 0), (5, .v (.int .i64 y_10)), (47, .v (.bool (y_19 && y_20)))] [.row false (.ints .u8 a0), .row true (.ints .i64 y), .row true (.ints .i64 y_2), .row true (.pairs y_3), .row true (.ints .i64 y_4), .box [.sl 1, .v (.int .i64 y_1), .sl 2, .sl 3, .sl 4], .row true (.ints .i64 y_5), .row true (.ints .i64 y_7), .row true (.pairs y_8), .row true (.ints .i64 y_9), .box [.sl 6, .v (.int .i64 y_6), .sl 7, .sl 8, .sl 9], .row true (.ints .i64 y_11), .row true (.ints .i64 y_13), .row true (.pairs y_14), .row true (.ints .i64 y_15), .box [.sl 11, .v (.int .i64 y_12), .sl 12, .sl 13, .sl 14]] ?_ ?_
                  · clear hK K
                    intro K hK
                    refine vcOps_sound ftCOk ?_
                    simp (maxSteps := 4000000) only [go_sem, Nat.reduceBEq, Nat.reduceLT, Nat.reduceAdd, Nat.reduceLeDiff, Nat.reduceSub, Nat.reduceEqDiff, Int.reduceToNat, reduceCtorEq, ↓reduceIte]
                    repeat' (first | refine And.intro ?_ ?_ | intro hg)
                    all_goals (try simp (disch := omega) only [wrap_fits])
                    all_goals first
                      | (refine hK _ _ ?_; exact Red.auto)
                      | exact trivial
                      | assumption
                      | omega
                      | exact wrap_fits (by omega) (by omega)
                      | (have hq := hp2 (by first | assumption | (simp only [*, Bool.false_or, Bool.true_or, Bool.or_false, Bool.or_true, Bool.false_and, Bool.true_and, Bool.and_false, Bool.and_true, Bool.not_true, Bool.not_false, beq_self_eq_true]; done) | (simp_all; done)); omega)
                      | (refine wpA_callA (k_impl_ChannelDone y_5 y_6 y_7 y_8 y_9 (h := hr0)) [6, 7, 8, 9] [] ?_
                         rintro x Hc' ⟨rfl, rfl⟩ hlen
                         refine vcOps_sound ftCOk ?_
                         simp (maxSteps := 4000000) only [go_sem, Nat.reduceBEq, Nat.reduceLT, Nat.reduceAdd, Nat.reduceLeDiff, Nat.reduceSub, Nat.reduceEqDiff, Int.reduceToNat, reduceCtorEq, ↓reduceIte]
                         repeat' (first | refine And.intro ?_ ?_ | intro hg)
                         all_goals (try simp (disch := omega) only [wrap_fits])
                         all_goals first
                           | (refine hK _ _ ?_; exact Red.auto)
                           | exact trivial
                           | assumption
                           | omega
                           | exact wrap_fits (by omega) (by omega)
                           | (have hq := hp2 (by first | assumption | (simp only [*, Bool.false_or, Bool.true_or, Bool.or_false, Bool.or_true, Bool.false_and, Bool.true_and, Bool.and_false, Bool.and_true, Bool.not_true, Bool.not_false, beq_self_eq_true]; done) | (simp_all; done)); omega)
                           | (refine wpA_guard rfl rfl ?_
                              refine wpA_callA (k_laws_sameInts y_7 y (h := (bite_t hr1 (by first | assumption | (simp only [*, Bool.false_or, Bool.true_or, Bool.or_false, Bool.or_true, Bool.false_and, Bool.true_and, Bool.and_false, Bool.and_true, Bool.not_true, Bool.not_false, beq_self_eq_true]; done) | (simp_all; done))))) [7, 1] [] ?_
                              rintro x Hc' ⟨rfl, rfl⟩ hlen
                              refine vcOps_sound ftCOk ?_
                              simp (maxSteps := 4000000) only [go_sem, Nat.reduceBEq, Nat.reduceLT, Nat.reduceAdd, Nat.reduceLeDiff, Nat.reduceSub, Nat.reduceEqDiff, Int.reduceToNat, reduceCtorEq, ↓reduceIte]
                              repeat' (first | refine And.intro ?_ ?_ | intro hg)
                              all_goals (try simp (disch := omega) only [wrap_fits])
                              all_goals first
                                | (refine hK _ _ ?_; exact Red.auto)
                                | exact trivial
                                | assumption
                                | omega
                                | exact wrap_fits (by omega) (by omega)
                                | (have hq := hp2 (by first | assumption | (simp only [*, Bool.false_or, Bool.true_or, Bool.or_false, Bool.or_true, Bool.false_and, Bool.true_and, Bool.and_false, Bool.and_true, Bool.not_true, Bool.not_false, beq_self_eq_true]; done) | (simp_all; done)); omega)
                                | (simp_all; done)
                                | (simp_all; omega))
                           | (simp_all; done)
                           | (simp_all; omega))
                      | (simp_all; done)
                      | (simp_all; omega)
                  refine vcOps_sound ftCOk ?_
                  simp (maxSteps := 4000000) only [go_sem, Nat.reduceBEq, Nat.reduceLT, Nat.reduceAdd, Nat.reduceLeDiff, Nat.reduceSub, Nat.reduceEqDiff, Int.reduceToNat, reduceCtorEq, ↓reduceIte]
                  repeat' (first | refine And.intro ?_ ?_ | intro hg)
                  all_goals (try simp (disch := omega) only [wrap_fits])
                  all_goals first
                    | (refine hK _ _ ?_; exact Red.auto)
                    | exact trivial
                    | assumption
                    | omega
                    | exact wrap_fits (by omega) (by omega)
                    | (have hq := hp2 (by first | assumption | (simp only [*, Bool.false_or, Bool.true_or, Bool.or_false, Bool.or_true, Bool.false_and, Bool.true_and, Bool.and_false, Bool.and_true, Bool.not_true, Bool.not_false, beq_self_eq_true]; done) | (simp_all; done)); omega)
                    | (simp_all; done)
                    | (simp_all; omega)
                · clear hr0 hr1 hp2
                  refine awp_ret ?_
                  (try simp only [Thn, InBlk, ↓reduceIte, Nat.reduceEqDiff])
                  obtain rfl := Option.some.inj h
                  refine ⟨by simp, _, [0], (by simp only [go_sem, Nat.reduceBEq, Nat.reduceLT, Nat.reduceAdd, Nat.reduceLeDiff, Nat.reduceSub, Nat.reduceEqDiff, Int.reduceToNat, reduceCtorEq, ↓reduceIte]; exact rfl), ?_, ?_, ?_, ?_⟩
                  · first | exact trivial | exact ⟨trivial, trivial⟩ | exact ⟨trivial, trivial, trivial⟩ | exact ⟨trivial, trivial, trivial, trivial⟩ | (simp only [allP, and_true, true_and]; done) | (simp only [allP, and_true, true_and]; omega)
                  · simp [selOk, pos]
                  · simp
                  · first | exact ⟨rfl, rfl⟩ | (simp only [go_sem, Nat.reduceBEq, Nat.reduceLT, Nat.reduceAdd, Nat.reduceLeDiff, Nat.reduceSub, Nat.reduceEqDiff, Int.reduceToNat, reduceCtorEq, ↓reduceIte]; done) | (simp [go_sem, Nat.reduceBEq, Nat.reduceLT, Nat.reduceAdd, Nat.reduceLeDiff, Nat.reduceSub, Nat.reduceEqDiff, Int.reduceToNat, reduceCtorEq, ↓reduceIte]; done) | (simp only [go_sem, Nat.reduceBEq, Nat.reduceLT, Nat.reduceAdd, Nat.reduceLeDiff, Nat.reduceSub, Nat.reduceEqDiff, Int.reduceToNat, reduceCtorEq, ↓reduceIte]; exact ⟨rfl, rfl⟩) | (simp_all [go_sem, Nat.reduceBEq, Nat.reduceLT, Nat.reduceAdd, Nat.reduceLeDiff, Nat.reduceSub, Nat.reduceEqDiff, Int.reduceToNat, reduceCtorEq, ↓reduceIte]; done)
end Go.Proofs.Ytncminpafiahpaa

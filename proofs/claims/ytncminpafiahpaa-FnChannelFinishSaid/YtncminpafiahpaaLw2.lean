/- The code computes the functions that were taken out of it. -/
import Derived.Test.YtncminpafiahpaaLw1
set_option maxRecDepth 100000
set_option maxHeartbeats 4000000
set_option linter.unusedSimpArgs false
set_option linter.unusedVariables false
namespace Go.Proofs.Ytncminpafiahpaa
open Go Go.Av
attribute [local irreducible] wpA OpK awp
attribute [local go_sem] frs_nil frs_cons pw8_32 pw16_32 pw24_32 pw27_32 eqAgg eqAggV buildQ placesOf buildCells List.toList_toArray vcQg gfind gfree gput un3_agg unI_int unB_bool unK_int guardU skipV resVs resV vcD_nil vcD_cons vcT_fin vcT_free vcT_one vcT_two opS vcD1 roH roOb ftNone ftAdd oneOrTup AV.detup AV.ren AV.ren2 AV.ren1 pos selH AObj.ren fitAll fit fit1 fit1s matchAll matchOb exIds AObj.excl Env.killp pastH setAll upId AObj.past AObj.back AV.killp AV.killp1 AV.killp2 Nat.sub_self Nat.lt_irrefl Bool.or_self vcOps vcOp vcQs vcQ dstOk quiet eff pcall plain valsOf ev ofConst argEnv List.lookup Nat.add_eq decide_true decide_false Env.put binV wrapTo unV convV loadQ indexQ callQ builtinQ rd rdI globC AObj.globC partAV isAggD isArrayD addrAdd boxE storeE storeCE makeE makeNE buildNE nestZero Cont.child Cont.setChild buildSliceE buildFold appendE appendNE nestApp appendV promoteH sliceE boundAV subObj asCells Value.oneCell' contZero Cont.sets Cont.app Cont.sub Cont.len Cont.esz Cont.cell Cont.cells Cont.flat AV.det AV.det1 guardV AObj.unview AObj.kill Env.kill AV.kill AV.kill1 AV.kill2 fits64 Option.getD_some Option.getD_none Option.map_some Option.map_none Option.bind_some List.map_cons List.map_nil List.getElem?_cons_zero List.getElem?_cons_succ List.getElem?_nil true_and and_true List.getElem?_toArray List.cons_append List.nil_append List.length_cons List.length_nil List.set_cons_zero List.set_cons_succ List.take_succ_cons List.take_zero List.drop_succ_cons List.drop_zero List.drop_nil List.take_nil List.contains_cons List.contains_nil List.elem_cons List.elem_nil Bool.not_true Bool.not_false Bool.false_eq_true Bool.or_false Bool.or_true Bool.and_true Bool.and_false Bool.true_and Bool.false_and List.all_cons List.all_nil List.size_toArray Nat.lt_add_one Nat.zero_lt_succ Nat.one_ne_zero Nat.zero_ne_one and_self List.replicate_succ List.replicate_zero Int.toNat_natCast Int.toNat_zero Value.cells false_implies true_implies forall_const Thn InBlk Nat.zero_add Nat.add_zero Int.zero_add Ele Env.ren Option.some.injEq AV.v.injEq AV.sl.injEq AV.pp.injEq AV.ep.injEq AV.agg.injEq List.cons.injEq Value.int.injEq Value.bool.injEq Value.string.injEq true_or or_true or_false false_or tsz0 tby0 tz0 Try.underlying0 tsz1 tby1 tz1 Try.underlying1 tsz2 tby2 tz2 Try.underlying2 tsz3 tby3 tz3 Try.underlying3 tsz4 tby4 tz4 Try.underlying4 tsz5 tby5 tz5 Try.underlying5 tsz6 tby6 tz6 Try.underlying6 tsz7 tby7 tz7 Try.underlying7 fo7_0 fo7_1 fo7_2 fo7_3 tsz8 tby8 tz8 Try.underlying8 fo8_0 fo8_1 fo8_2 fo8_3 tsz9 tby9 Try.underlying9 tsz10 tby10 Try.underlying10 tsz12 tby12 tz12 Try.underlying12 tsz16 tby16 tz16 Try.underlying16 tsz17 tby17 tz17 Try.underlying17 tsz20 tby20 tz20 Try.underlying20 tsz21 tby21 tz21 Try.underlying21 tsz22 tby22 tz22 Try.underlying22 tsz23 tby23 tz23 Try.underlying23 fo23_0 fo23_1 tsz24 tby24 tz24 Try.underlying24 fo24_0 fo24_1 tsz26 tby26 tz26 Try.underlying26 tsz32 tby32 tz32 Try.underlying32 tsz37 tby37 tz37 Try.underlying37 tsz38 tby38 tz38 Try.underlying38 tsz39 tby39 tz39 Try.underlying39 fo39_0 fo39_1 fo39_2 fo39_3 fo39_4 tsz40 tby40 tz40 Try.underlying40 fo40_0 fo40_1 fo40_2 fo40_3 fo40_4 tsz42 tby42 tz42 Try.underlying42 tsz44 tby44 tz44 Try.underlying44 tsz48 tby48 tz48 Try.underlying48 tsz49 tby49 tz49 Try.underlying49 fo49_0 fo49_1 fo49_2 fo49_3 fo49_4 tsz50 tby50 tz50 Try.underlying50 fo50_0 fo50_1 fo50_2 fo50_3 fo50_4 tsz52 tby52 tz52 Try.underlying52 tsz56 tby56 tz56 Try.underlying56 tsz68 tby68 tz68 Try.underlying68 peq68 fo68_0 fo68_1 fo68_2 tsz75 tby75 tz75 Try.underlying75 tsz80 tby80 tz80 Try.underlying80 tsz93 tby93 tz93 Try.underlying93 tsz97 tby97 tz97 Try.underlying97 peq97 fo97_0 fo97_1 tsz98 tby98 tz98 Try.underlying98 peq98 fo98_0 fo98_1 tsz116 tby116 tz116 Try.underlying116 tsz119 tby119 tz119 Try.underlying119 peq119 fo119_0 fo119_1 fo119_2 tsz123 tby123 tz123 Try.underlying123 fo123_0 fo123_1 tsz124 tby124 tz124 Try.underlying124 fo124_0 fo124_1 tsz127 tby127 tz127 Try.underlying127 tsz129 tby129 tz129 Try.underlying129 peq129 fo129_0 fo129_1 tsz148 tby148 tz148 Try.underlying148 tsz149 tby149 tz149 Try.underlying149 tsz150 tby150 tz150 Try.underlying150 tsz152 tby152 tz152 Try.underlying152 tsz153 tby153 tz153 Try.underlying153 tsz154 tby154 tz154 Try.underlying154 tsz155 tby155 tz155 Try.underlying155 tsz156 tby156 tz156 Try.underlying156 tsz157 tby157 tz157 Try.underlying157 tsz158 tby158 tz158 Try.underlying158 fo158_0 fo158_1 fo158_2 fo158_3 fo158_4 fo158_5 fo158_6 fo158_7 fo158_8 fo158_9 fo158_10 tsz159 tby159 tz159 Try.underlying159 fo159_0 fo159_1 fo159_2 fo159_3 fo159_4 fo159_5 fo159_6 fo159_7 fo159_8 fo159_9 fo159_10 tsz160 tby160 tz160 Try.underlying160 l1InG ftC
theorem k_spec_l20Channel (a0_0 : List Int) (a0_1 : Int) (a1 : Int) {r : List Int × Int × List Int × (List (Int × Int)) × List Int × Int} (h : spec_l20Channel a0_0 a0_1 a1 = some r) :
    FnA Try.prog 72 [.pp 0 0, .v (.int .i64 a1)] [.box [.sl 1, .v (.int .i64 a0_1)], .row false (.ints .u8 a0_0)] [] (fun x H => x = .agg [.sl 2, .v (.int .i64 r.2.1), .sl 3, .sl 4, .sl 5] ∧ H = [.box [.sl 1, .v (.int .i64 r.2.2.2.2.2)], .row false (.ints .u8 a0_0), .row true (.ints .i64 r.1), .row true (.ints .i64 r.2.2.1), .row true (.pairs r.2.2.2.1), .row true (.ints .i64 r.2.2.2.2.1)]) := by
  unfold spec_l20Channel at h
  refine FnA.of (N := 87) (pin := [0, 1]) (rs := [.cell 4 40]) Try.func72 rfl en72 rfl rfl (by simp) (by simp; try omega) ?_
  refine awp_reg ftCOk [(0, .pp 0 0), (1, .v (.int .i64 a1)), (4, .pp 2 0)] [.box [.sl 1, .v (.int .i64 a0_1)], .row false (.ints .u8 a0_0), .box [.v (.slice none 0 0), .v (.int .i64 0), .v (.slice none 0 0), .v (.slice none 0 0), .v (.slice none 0 0)]] ?_
  replace h := bind_some h
  obtain ⟨⟨y, y_1⟩, hr0, h⟩ := h
  try dsimp only at h
  replace h := bind_some h
  obtain ⟨⟨y_2, y_3, y_4, y_5, y_6⟩, hr1, h⟩ := h
  try dsimp only at h
  refine awp_to [(0, .pp 0 0), (1, .v (.int .i64 a1)), (4, .pp 2 0), (5, .pp 8 0)] [.box [.sl 1, .v (.int .i64 y_1)], .row false (.ints .u8 a0_0), .box [.v (.slice none 0 0), .v (.int .i64 0), .v (.slice none 0 0), .v (.slice none 0 0), .v (.slice none 0 0)], .row true (.ints .i64 y), .row true (.ints .i64 y_2), .row true (.ints .i64 y_4), .row true (.pairs y_5), .row true (.ints .i64 y_6), .box [.sl 4, .v (.int .i64 y_3), .sl 5, .sl 6, .sl 7]] ?_ ?_
  · clear h
    intro K hK
    refine awp_region ftCOk ?_
    simp (maxSteps := 4000000) only [go_sem, Nat.reduceBEq, Nat.reduceLT, Nat.reduceAdd, Nat.reduceLeDiff, Nat.reduceSub, Nat.reduceEqDiff, Int.reduceToNat, reduceCtorEq, ↓reduceIte]
    repeat' (first | refine And.intro ?_ ?_ | intro hg)
    all_goals (try simp (disch := omega) only [wrap_fits])
    all_goals first
      | (refine hK _ _ ?_; exact Red.auto)
      | exact trivial
      | assumption
      | omega
      | exact wrap_fits (by omega) (by omega)
      | (refine wpA_callA (k_spec_l20Ints a0_0 a0_1 9 (h := hr0)) [0, 1] [] ?_
         rintro x Hc' ⟨rfl, rfl⟩ hlen
         refine vcOps_sound ftCOk ?_
         simp (maxSteps := 4000000) only [go_sem, Nat.reduceBEq, Nat.reduceLT, Nat.reduceAdd, Nat.reduceLeDiff, Nat.reduceSub, Nat.reduceEqDiff, Int.reduceToNat, reduceCtorEq, ↓reduceIte]
         repeat' (first | refine And.intro ?_ ?_ | intro hg)
         all_goals (try simp (disch := omega) only [wrap_fits])
         all_goals first
           | (refine hK _ _ ?_; exact Red.auto)
           | exact trivial
           | assumption
           | omega
           | exact wrap_fits (by omega) (by omega)
           | (refine wpA_callA (k_spec_ChannelOf y (h := hr1)) [3] [] ?_
              rintro x Hc' ⟨rfl, rfl⟩ hlen
              refine vcOps_sound ftCOk ?_
              simp (maxSteps := 4000000) only [go_sem, Nat.reduceBEq, Nat.reduceLT, Nat.reduceAdd, Nat.reduceLeDiff, Nat.reduceSub, Nat.reduceEqDiff, Int.reduceToNat, reduceCtorEq, ↓reduceIte]
              repeat' (first | refine And.intro ?_ ?_ | intro hg)
              all_goals (try simp (disch := omega) only [wrap_fits])
              all_goals first
                | (refine hK _ _ ?_; exact Red.auto)
                | exact trivial
                | assumption
                | omega
                | exact wrap_fits (by omega) (by omega)
                | (simp_all; done)
                | (simp_all; omega))
           | (simp_all; done)
           | (simp_all; omega))
      | (simp_all; done)
      | (simp_all; omega)
  · clear hr0 hr1
    refine awp_reg ftCOk [(0, .pp 0 0), (1, .v (.int .i64 a1)), (4, .pp 2 0), (5, .pp 8 0), (6, .sl 9)] [.box [.sl 1, .v (.int .i64 y_1)], .row false (.ints .u8 a0_0), .box [.v (.slice none 0 0), .v (.int .i64 0), .v (.slice none 0 0), .v (.slice none 0 0), .v (.slice none 0 0)], .row true (.ints .i64 y), .row true (.ints .i64 y_2), .row true (.ints .i64 y_4), .row true (.pairs y_5), .row true (.ints .i64 y_6), .box [.sl 4, .v (.int .i64 y_3), .sl 5, .sl 6, .sl 7], .row true (.ints .i64 [])] ?_
    refine awp_seq fun K14 hK14 => ?_
    replace h := bind_some h
    obtain ⟨⟨y_7, y_8⟩, hr0, h⟩ := h
    try dsimp only at h
    refine awp_to [(0, .pp 0 0), (1, .v (.int .i64 a1)), (4, .pp 2 0), (5, .pp 8 0), (6, .sl 9), (7, .v (.int .i64 y_7))] [.box [.sl 1, .v (.int .i64 y_8)], .row false (.ints .u8 a0_0), .box [.v (.slice none 0 0), .v (.int .i64 0), .v (.slice none 0 0), .v (.slice none 0 0), .v (.slice none 0 0)], .row true (.ints .i64 y), .row true (.ints .i64 y_2), .row true (.ints .i64 y_4), .row true (.pairs y_5), .row true (.ints .i64 y_6), .box [.sl 4, .v (.int .i64 y_3), .sl 5, .sl 6, .sl 7], .row true (.ints .i64 [])] ?_ ?_
    · clear h
      intro K hK
      refine awp_region ftCOk ?_
      simp (maxSteps := 4000000) only [go_sem, Nat.reduceBEq, Nat.reduceLT, Nat.reduceAdd, Nat.reduceLeDiff, Nat.reduceSub, Nat.reduceEqDiff, Int.reduceToNat, reduceCtorEq, ↓reduceIte]
      repeat' (first | refine And.intro ?_ ?_ | intro hg)
      all_goals (try simp (disch := omega) only [wrap_fits])
      all_goals first
        | (refine hK _ _ ?_; exact Red.auto)
        | exact trivial
        | assumption
        | omega
        | exact wrap_fits (by omega) (by omega)
        | (refine wpA_callA (k_spec_l20Rd_pick a0_0 y_1 8 (h := hr0)) [0, 1] [] ?_
           rintro x Hc' ⟨rfl, rfl⟩ hlen
           refine vcOps_sound ftCOk ?_
           simp (maxSteps := 4000000) only [go_sem, Nat.reduceBEq, Nat.reduceLT, Nat.reduceAdd, Nat.reduceLeDiff, Nat.reduceSub, Nat.reduceEqDiff, Int.reduceToNat, reduceCtorEq, ↓reduceIte]
           repeat' (first | refine And.intro ?_ ?_ | intro hg)
           all_goals (try simp (disch := omega) only [wrap_fits])
           all_goals first
             | (refine hK _ _ ?_; exact Red.auto)
             | exact trivial
             | assumption
             | omega
             | exact wrap_fits (by omega) (by omega)
             | (simp_all; done)
             | (simp_all; omega))
        | (simp_all; done)
        | (simp_all; omega)
    · clear hr0
      refine awp_block ?_
      replace h := bind_some h
      obtain ⟨x27, hx, h⟩ := h
      refine awp_loopL hx (fun ((t7, p0_1, t6s) : Int × Int × List Int) => [(0, .pp 0 0), (1, .v (.int .i64 a1)), (4, .pp 2 0), (5, .pp 3 0), (6, .sl 8), (7, .v (.int .i64 t7))]) (fun ((t7, p0_1, t6s) : Int × Int × List Int) => [.box [.sl 1, .v (.int .i64 p0_1)], .row false (.ints .u8 a0_0), .box [.v (.slice none 0 0), .v (.int .i64 0), .v (.slice none 0 0), .v (.slice none 0 0), .v (.slice none 0 0)], .box [.sl 4, .v (.int .i64 y_3), .sl 5, .sl 6, .sl 7], .row true (.ints .i64 y_2), .row true (.ints .i64 y_4), .row true (.pairs y_5), .row true (.ints .i64 y_6), .row true (.ints .i64 t6s)]) (fun ((p0_1_1, t6s_1) : Int × List Int) => Exit.exit 0) (fun ((p0_1_1, t6s_1) : Int × List Int) => [(0, .pp 0 0), (1, .v (.int .i64 a1)), (4, .pp 2 0), (5, .pp 3 0), (6, .sl 8)]) (fun ((p0_1_1, t6s_1) : Int × List Int) => [.box [.sl 1, .v (.int .i64 p0_1_1)], .row false (.ints .u8 a0_0), .box [.v (.slice none 0 0), .v (.int .i64 0), .v (.slice none 0 0), .v (.slice none 0 0), .v (.slice none 0 0)], .box [.sl 4, .v (.int .i64 y_3), .sl 5, .sl 6, .sl 7], .row true (.ints .i64 y_2), .row true (.ints .i64 y_4), .row true (.pairs y_5), .row true (.ints .i64 y_6), .row true (.ints .i64 t6s_1)]) ?_ ?_ ?_ ?_
      · rintro ⟨p0_1_1, t6s_1⟩ hy <;> cases hy
      · clear h hx
        exact Red.selA [0, 1, 2, 8, 4, 5, 6, 7, 9] Red.auto
      · clear h hx
        rintro ⟨t7, p0_1, t6s⟩ r h
        unfold spec_l20Channel_b0 at h
        try dsimp only at h
        try dsimp only
        refine awp_seq fun K24 hK24 => ?_
        refine awp_reg ftCOk [(0, .pp 0 0), (1, .v (.int .i64 a1)), (4, .pp 2 0), (5, .pp 3 0), (6, .sl 8), (7, .v (.int .i64 t7)), (16, .v (.bool (decide (0 < t7))))] [.box [.sl 1, .v (.int .i64 p0_1)], .row false (.ints .u8 a0_0), .box [.v (.slice none 0 0), .v (.int .i64 0), .v (.slice none 0 0), .v (.slice none 0 0), .v (.slice none 0 0)], .box [.sl 4, .v (.int .i64 y_3), .sl 5, .sl 6, .sl 7], .row true (.ints .i64 y_2), .row true (.ints .i64 y_4), .row true (.pairs y_5), .row true (.ints .i64 y_6), .row true (.ints .i64 t6s)] ?_
        refine awp_cond (t := 16) rfl (fun hc25 => ?_) (fun hc25 => ?_)
        · replace h := bite_t h hc25
          refine awp_skip ?_
          (try simp only [Thn, InBlk, ↓reduceIte, Nat.reduceEqDiff])
          refine hK24 _ _ ?_
          clear hK24
          refine awp_seq fun K26 hK26 => ?_
          refine awp_block ?_
          replace h := bind_some h
          obtain ⟨⟨y_9, y_10⟩, hr0, h⟩ := h
          try dsimp only at h
          replace h := chk_some h
          obtain ⟨hp1, h⟩ := h
          refine awp_end [(0, .pp 0 0), (1, .v (.int .i64 a1)), (4, .pp 2 0), (5, .pp 3 0), (6, .sl 8), (7, .v (.int .i64 t7))] [.box [.sl 1, .v (.int .i64 y_10)], .row false (.ints .u8 a0_0), .box [.v (.slice none 0 0), .v (.int .i64 0), .v (.slice none 0 0), .v (.slice none 0 0), .v (.slice none 0 0)], .box [.sl 4, .v (.int .i64 y_3), .sl 5, .sl 6, .sl 7], .row true (.ints .i64 y_2), .row true (.ints .i64 y_4), .row true (.pairs y_5), .row true (.ints .i64 y_6), .row true (.ints .i64 (t6s ++ [y_9])), .row true (.ints .i64 [y_9])] ?_ ?_
          · clear h
            intro K hK
            refine awp_region ftCOk ?_
            simp (maxSteps := 4000000) only [go_sem, Nat.reduceBEq, Nat.reduceLT, Nat.reduceAdd, Nat.reduceLeDiff, Nat.reduceSub, Nat.reduceEqDiff, Int.reduceToNat, reduceCtorEq, ↓reduceIte]
            repeat' (first | refine And.intro ?_ ?_ | intro hg)
            all_goals (try simp (disch := omega) only [wrap_fits])
            all_goals first
              | (refine hK _ _ ?_; exact Red.auto)
              | exact trivial
              | assumption
              | omega
              | exact wrap_fits (by omega) (by omega)
              | (refine wpA_callA (k_spec_l20Rd_pick a0_0 p0_1 256 (h := hr0)) [0, 1] [] ?_
                 rintro x Hc' ⟨rfl, rfl⟩ hlen
                 refine vcOps_sound ftCOk ?_
                 simp (maxSteps := 4000000) only [go_sem, Nat.reduceBEq, Nat.reduceLT, Nat.reduceAdd, Nat.reduceLeDiff, Nat.reduceSub, Nat.reduceEqDiff, Int.reduceToNat, reduceCtorEq, ↓reduceIte]
                 repeat' (first | refine And.intro ?_ ?_ | intro hg)
                 all_goals (try simp (disch := omega) only [wrap_fits])
                 all_goals first
                   | (refine hK _ _ ?_; exact Red.auto)
                   | exact trivial
                   | assumption
                   | omega
                   | exact wrap_fits (by omega) (by omega)
                   | (simp_all; done)
                   | (simp_all; omega))
              | (simp_all; done)
              | (simp_all; omega)
          · clear hr0 hp1
            (try simp only [Thn, InBlk, ↓reduceIte, Nat.reduceEqDiff])
            (try simp only [Thn, InBlk, ↓reduceIte, Nat.reduceEqDiff])
            refine hK26 _ _ ?_
            clear hK26
            replace h := chk_some h
            obtain ⟨hp0, h⟩ := h
            have hwhp0 := wrap_fits hp0.1 hp0.2
            refine awp_regE ftCOk [(0, .pp 0 0), (1, .v (.int .i64 a1)), (4, .pp 2 0), (5, .pp 3 0), (6, .sl 8), (7, .v (.int .i64 (t7 - 1)))] [.box [.sl 1, .v (.int .i64 y_10)], .row false (.ints .u8 a0_0), .box [.v (.slice none 0 0), .v (.int .i64 0), .v (.slice none 0 0), .v (.slice none 0 0), .v (.slice none 0 0)], .box [.sl 4, .v (.int .i64 y_3), .sl 5, .sl 6, .sl 7], .row true (.ints .i64 y_2), .row true (.ints .i64 y_4), .row true (.pairs y_5), .row true (.ints .i64 y_6), .row true (.ints .i64 (t6s ++ [y_9])), .row true (.ints .i64 [y_9])] ?_
            clear hp0
            obtain rfl := Option.some.inj h
            refine LoopQ.next ?_
            exact Red.selA [0, 1, 2, 3, 4, 5, 6, 7, 8] Red.auto
        · replace h := bite_f h hc25
          refine awp_exit ?_
          (try simp only [Thn, InBlk, ↓reduceIte, Nat.reduceEqDiff])
          obtain rfl := Option.some.inj h
          refine LoopQ.out rfl ?_
          exact Red.auto
      · clear hx
        rcases x27 with ⟨p0_1_1, t6s_1⟩
        · try dsimp only [Sum.elim_inl, Sum.elim_inr] at h
          try dsimp only [Sum.elim_inl, Sum.elim_inr]
          (try simp only [Thn, InBlk, ↓reduceIte, Nat.reduceEqDiff])
          (try simp only [Thn, InBlk, ↓reduceIte, Nat.reduceEqDiff])
          (try simp only [Thn, InBlk, ↓reduceIte, Nat.reduceEqDiff])
          refine hK14 _ _ ?_
          clear hK14
          replace h := bind_some h
          obtain ⟨⟨y_11, y_12, y_13, y_14, y_15⟩, hr0, h⟩ := h
          try dsimp only at h
          refine awp_to [(0, .pp 0 0), (1, .v (.int .i64 a1)), (4, .pp 2 0), (5, .pp 3 0)] [.box [.sl 1, .v (.int .i64 p0_1_1)], .row false (.ints .u8 a0_0), .box [.v (.slice none 0 0), .v (.int .i64 0), .v (.slice none 0 0), .v (.slice none 0 0), .v (.slice none 0 0)], .box [.sl 9, .v (.int .i64 y_12), .sl 10, .sl 11, .sl 12], .row true (.ints .i64 y_2), .row true (.ints .i64 y_4), .row true (.pairs y_5), .row true (.ints .i64 y_6), .row true (.ints .i64 t6s_1), .row true (.ints .i64 y_11), .row true (.ints .i64 y_13), .row true (.pairs y_14), .row true (.ints .i64 y_15)] ?_ ?_
          · clear h
            intro K hK
            refine awp_region ftCOk ?_
            simp (maxSteps := 4000000) only [go_sem, Nat.reduceBEq, Nat.reduceLT, Nat.reduceAdd, Nat.reduceLeDiff, Nat.reduceSub, Nat.reduceEqDiff, Int.reduceToNat, reduceCtorEq, ↓reduceIte]
            repeat' (first | refine And.intro ?_ ?_ | intro hg)
            all_goals (try simp (disch := omega) only [wrap_fits])
            all_goals first
              | (refine hK _ _ ?_; exact Red.auto)
              | exact trivial
              | assumption
              | omega
              | exact wrap_fits (by omega) (by omega)
              | (refine wpA_callA (k_spec_ChannelOf t6s_1 (h := hr0)) [8] [] ?_
                 rintro x Hc' ⟨rfl, rfl⟩ hlen
                 refine vcOps_sound ftCOk ?_
                 simp (maxSteps := 4000000) only [go_sem, Nat.reduceBEq, Nat.reduceLT, Nat.reduceAdd, Nat.reduceLeDiff, Nat.reduceSub, Nat.reduceEqDiff, Int.reduceToNat, reduceCtorEq, ↓reduceIte]
                 repeat' (first | refine And.intro ?_ ?_ | intro hg)
                 all_goals (try simp (disch := omega) only [wrap_fits])
                 all_goals first
                   | (refine hK _ _ ?_; exact Red.auto)
                   | exact trivial
                   | assumption
                   | omega
                   | exact wrap_fits (by omega) (by omega)
                   | (simp_all; done)
                   | (simp_all; omega))
              | (simp_all; done)
              | (simp_all; omega)
          · clear hr0
            refine awp_seq fun K41 hK41 => ?_
            replace h := bind_some h
            obtain ⟨⟨y_16, y_17⟩, hr0, h⟩ := h
            try dsimp only at h
            refine awp_to [(0, .pp 0 0), (1, .v (.int .i64 a1)), (4, .pp 2 0), (5, .pp 3 0), (8, .v (.int .i64 y_16))] [.box [.sl 1, .v (.int .i64 y_17)], .row false (.ints .u8 a0_0), .box [.v (.slice none 0 0), .v (.int .i64 0), .v (.slice none 0 0), .v (.slice none 0 0), .v (.slice none 0 0)], .box [.sl 9, .v (.int .i64 y_12), .sl 10, .sl 11, .sl 12], .row true (.ints .i64 y_2), .row true (.ints .i64 y_4), .row true (.pairs y_5), .row true (.ints .i64 y_6), .row true (.ints .i64 t6s_1), .row true (.ints .i64 y_11), .row true (.ints .i64 y_13), .row true (.pairs y_14), .row true (.ints .i64 y_15)] ?_ ?_
            · clear h
              intro K hK
              refine awp_region ftCOk ?_
              simp (maxSteps := 4000000) only [go_sem, Nat.reduceBEq, Nat.reduceLT, Nat.reduceAdd, Nat.reduceLeDiff, Nat.reduceSub, Nat.reduceEqDiff, Int.reduceToNat, reduceCtorEq, ↓reduceIte]
              repeat' (first | refine And.intro ?_ ?_ | intro hg)
              all_goals (try simp (disch := omega) only [wrap_fits])
              all_goals first
                | (refine hK _ _ ?_; exact Red.auto)
                | exact trivial
                | assumption
                | omega
                | exact wrap_fits (by omega) (by omega)
                | (refine wpA_callA (k_spec_l20Rd_pick a0_0 p0_1_1 20 (h := hr0)) [0, 1] [] ?_
                   rintro x Hc' ⟨rfl, rfl⟩ hlen
                   refine vcOps_sound ftCOk ?_
                   simp (maxSteps := 4000000) only [go_sem, Nat.reduceBEq, Nat.reduceLT, Nat.reduceAdd, Nat.reduceLeDiff, Nat.reduceSub, Nat.reduceEqDiff, Int.reduceToNat, reduceCtorEq, ↓reduceIte]
                   repeat' (first | refine And.intro ?_ ?_ | intro hg)
                   all_goals (try simp (disch := omega) only [wrap_fits])
                   all_goals first
                     | (refine hK _ _ ?_; exact Red.auto)
                     | exact trivial
                     | assumption
                     | omega
                     | exact wrap_fits (by omega) (by omega)
                     | (simp_all; done)
                     | (simp_all; omega))
                | (simp_all; done)
                | (simp_all; omega)
            · clear hr0
              refine awp_block ?_
              replace h := bind_some h
              obtain ⟨x54, hx, h⟩ := h
              refine awp_loopL hx (fun ((t8, p0_1_2, t5_1, t5_0s, t5_2s, t5_3s, t5_4s) : Int × Int × Int × List Int × List Int × (List (Int × Int)) × List Int) => [(0, .pp 0 0), (1, .v (.int .i64 a1)), (4, .pp 2 0), (5, .pp 3 0), (8, .v (.int .i64 t8))]) (fun ((t8, p0_1_2, t5_1, t5_0s, t5_2s, t5_3s, t5_4s) : Int × Int × Int × List Int × List Int × (List (Int × Int)) × List Int) => [.box [.sl 1, .v (.int .i64 p0_1_2)], .row false (.ints .u8 a0_0), .box [.v (.slice none 0 0), .v (.int .i64 0), .v (.slice none 0 0), .v (.slice none 0 0), .v (.slice none 0 0)], .box [.sl 4, .v (.int .i64 t5_1), .sl 5, .sl 6, .sl 7], .row true (.ints .i64 t5_0s), .row true (.ints .i64 t5_2s), .row true (.pairs t5_3s), .row true (.ints .i64 t5_4s)]) (fun ((p0_1_3, t5_1_1, t5_0s_1, t5_2s_1, t5_3s_1, t5_4s_1) : Int × Int × List Int × List Int × (List (Int × Int)) × List Int) => Exit.exit 2) (fun ((p0_1_3, t5_1_1, t5_0s_1, t5_2s_1, t5_3s_1, t5_4s_1) : Int × Int × List Int × List Int × (List (Int × Int)) × List Int) => [(0, .pp 0 0), (1, .v (.int .i64 a1)), (4, .pp 2 0), (5, .pp 3 0)]) (fun ((p0_1_3, t5_1_1, t5_0s_1, t5_2s_1, t5_3s_1, t5_4s_1) : Int × Int × List Int × List Int × (List (Int × Int)) × List Int) => [.box [.sl 1, .v (.int .i64 p0_1_3)], .row false (.ints .u8 a0_0), .box [.v (.slice none 0 0), .v (.int .i64 0), .v (.slice none 0 0), .v (.slice none 0 0), .v (.slice none 0 0)], .box [.sl 4, .v (.int .i64 t5_1_1), .sl 5, .sl 6, .sl 7], .row true (.ints .i64 t5_0s_1), .row true (.ints .i64 t5_2s_1), .row true (.pairs t5_3s_1), .row true (.ints .i64 t5_4s_1)]) ?_ ?_ ?_ ?_
              · rintro ⟨p0_1_3, t5_1_1, t5_0s_1, t5_2s_1, t5_3s_1, t5_4s_1⟩ hy <;> cases hy
              · clear h hx
                exact Red.selA [0, 1, 2, 3, 9, 10, 11, 12] Red.auto
              · clear h hx
                rintro ⟨t8, p0_1_2, t5_1, t5_0s, t5_2s, t5_3s, t5_4s⟩ r h
                unfold spec_l20Channel_b1 at h
                try dsimp only at h
                try dsimp only
                refine awp_seq fun K51 hK51 => ?_
                refine awp_reg ftCOk [(0, .pp 0 0), (1, .v (.int .i64 a1)), (4, .pp 2 0), (5, .pp 3 0), (8, .v (.int .i64 t8)), (29, .v (.bool (decide (0 < t8))))] [.box [.sl 1, .v (.int .i64 p0_1_2)], .row false (.ints .u8 a0_0), .box [.v (.slice none 0 0), .v (.int .i64 0), .v (.slice none 0 0), .v (.slice none 0 0), .v (.slice none 0 0)], .box [.sl 4, .v (.int .i64 t5_1), .sl 5, .sl 6, .sl 7], .row true (.ints .i64 t5_0s), .row true (.ints .i64 t5_2s), .row true (.pairs t5_3s), .row true (.ints .i64 t5_4s)] ?_
                refine awp_cond (t := 29) rfl (fun hc52 => ?_) (fun hc52 => ?_)
                · replace h := bite_t h hc52
                  refine awp_skip ?_
                  (try simp only [Thn, InBlk, ↓reduceIte, Nat.reduceEqDiff])
                  refine hK51 _ _ ?_
                  clear hK51
                  refine awp_seq fun K53 hK53 => ?_
                  refine awp_block ?_
                  replace h := bind_some h
                  obtain ⟨⟨y_18, y_19⟩, hr0, h⟩ := h
                  try dsimp only at h
                  replace h := chk_some h
                  obtain ⟨hp1, h⟩ := h
                  replace h := bind_some h
                  obtain ⟨⟨y_20, y_21, y_22, y_23, y_24, y_25⟩, hr2, h⟩ := h
                  try dsimp only at h
                  refine awp_end [(0, .pp 0 0), (1, .v (.int .i64 a1)), (4, .pp 2 0), (5, .pp 3 0), (8, .v (.int .i64 t8))] [.box [.sl 1, .v (.int .i64 y_19)], .row false (.ints .u8 a0_0), .box [.v (.slice none 0 0), .v (.int .i64 0), .v (.slice none 0 0), .v (.slice none 0 0), .v (.slice none 0 0)], .box [.sl 9, .v (.int .i64 y_21), .sl 10, .sl 11, .sl 12], .row true (.ints .i64 t5_0s), .row true (.ints .i64 t5_2s), .row true (.pairs t5_3s), .row true (.ints .i64 t5_4s), .row true (.ints .i64 [0, 1, 1, 2, 3, 4, 5, 6, 7]), .row true (.ints .i64 y_20), .row true (.ints .i64 y_22), .row true (.pairs y_23), .row true (.ints .i64 y_24)] ?_ ?_
                  · clear h
                    intro K hK
                    refine awp_drawL [0, 1, 2, 3, 4, 5, 6, 7] [2] 10 #[false, false, true, false, false, false, false, false, false, false, false] mixed ftCOk (by kernel_rfl) (by first | rfl | kernel_rfl) (by rfl) (by simp) fun L hL => ?_
                    have n8 : L 0 #[true, true, true, true, true, true, true, true, true, true, true] [(0, .pp 0 0), (1, .v (.int .i64 a1)), (4, .pp 2 0), (5, .pp 3 0), (8, .v (.int .i64 t8)), (29, .v (.bool (decide (0 < t8)))), (32, .tup [.agg [.sl 9, .v (.int .i64 y_21), .sl 10, .sl 11, .sl 12], .v (.bool y_25)]), (33, .agg [.sl 4, .v (.int .i64 t5_1), .sl 5, .sl 6, .sl 7]), (34, .sl 8), (35, .pp 0 0), (36, .v (.int .i64 y_18)), (37, .ep 8 y_18.toNat 1 0), (38, .v (.int .i64 (([0, 1, 1, 2, 3, 4, 5, 6, 7] : List Int).getD y_18.toNat 0))), (39, .tup [.agg [.sl 9, .v (.int .i64 y_21), .sl 10, .sl 11, .sl 12], .v (.bool y_25)]), (40, .agg [.sl 9, .v (.int .i64 y_21), .sl 10, .sl 11, .sl 12]), (41, .v (.bool y_25))] [.box [.sl 1, .v (.int .i64 y_19)], .row false (.ints .u8 a0_0), .box [.v (.slice none 0 0), .v (.int .i64 0), .v (.slice none 0 0), .v (.slice none 0 0), .v (.slice none 0 0)], .box [.sl 9, .v (.int .i64 y_21), .sl 10, .sl 11, .sl 12], .row true (.ints .i64 t5_0s), .row true (.ints .i64 t5_2s), .row true (.pairs t5_3s), .row true (.ints .i64 t5_4s), .row true (.ints .i64 [0, 1, 1, 2, 3, 4, 5, 6, 7]), .row true (.ints .i64 y_20), .row true (.ints .i64 y_22), .row true (.pairs y_23), .row true (.ints .i64 y_24)] := by
                      exact hL.fin (by kernel_rfl) (hK _ _ Red.auto)
                    have n7 : L 1 #[true, true, true, true, true, true, true, true, true, true, false] [(0, .pp 0 0), (1, .v (.int .i64 a1)), (4, .pp 2 0), (5, .pp 3 0), (8, .v (.int .i64 t8)), (29, .v (.bool (decide (0 < t8)))), (32, .tup [.agg [.sl 9, .v (.int .i64 y_21), .sl 10, .sl 11, .sl 12], .v (.bool y_25)]), (33, .agg [.sl 4, .v (.int .i64 t5_1), .sl 5, .sl 6, .sl 7]), (34, .sl 8), (35, .pp 0 0), (36, .v (.int .i64 y_18)), (37, .ep 8 y_18.toNat 1 0), (38, .v (.int .i64 (([0, 1, 1, 2, 3, 4, 5, 6, 7] : List Int).getD y_18.toNat 0))), (39, .tup [.agg [.sl 9, .v (.int .i64 y_21), .sl 10, .sl 11, .sl 12], .v (.bool y_25)]), (40, .agg [.sl 9, .v (.int .i64 y_21), .sl 10, .sl 11, .sl 12]), (41, .v (.bool y_25))] [.box [.sl 1, .v (.int .i64 y_19)], .row false (.ints .u8 a0_0), .box [.v (.slice none 0 0), .v (.int .i64 0), .v (.slice none 0 0), .v (.slice none 0 0), .v (.slice none 0 0)], .box [.sl 4, .v (.int .i64 t5_1), .sl 5, .sl 6, .sl 7], .row true (.ints .i64 t5_0s), .row true (.ints .i64 t5_2s), .row true (.pairs t5_3s), .row true (.ints .i64 t5_4s), .row true (.ints .i64 [0, 1, 1, 2, 3, 4, 5, 6, 7]), .row true (.ints .i64 y_20), .row true (.ints .i64 y_22), .row true (.pairs y_23), .row true (.ints .i64 y_24)] := by
                      refine hL.step [(10, [], 0, #[true, true, true, true, true, true, true, true, true, true, true])] (by kernel_rfl) ⟨?_, trivial⟩
                      · exact hL.edge n8
                    have n6 : L 4 #[true, true, true, true, true, true, true, false, false, false, false] [(0, .pp 0 0), (1, .v (.int .i64 a1)), (4, .pp 2 0), (5, .pp 3 0), (8, .v (.int .i64 t8)), (29, .v (.bool (decide (0 < t8)))), (33, .agg [.sl 4, .v (.int .i64 t5_1), .sl 5, .sl 6, .sl 7]), (34, .sl 8), (35, .pp 0 0), (36, .v (.int .i64 y_18)), (37, .ep 8 y_18.toNat 1 0), (38, .v (.int .i64 (([0, 1, 1, 2, 3, 4, 5, 6, 7] : List Int).getD y_18.toNat 0))), (39, .tup [.agg [.sl 9, .v (.int .i64 y_21), .sl 10, .sl 11, .sl 12], .v (.bool y_25)])] [.box [.sl 1, .v (.int .i64 y_19)], .row false (.ints .u8 a0_0), .box [.v (.slice none 0 0), .v (.int .i64 0), .v (.slice none 0 0), .v (.slice none 0 0), .v (.slice none 0 0)], .box [.sl 4, .v (.int .i64 t5_1), .sl 5, .sl 6, .sl 7], .row true (.ints .i64 t5_0s), .row true (.ints .i64 t5_2s), .row true (.pairs t5_3s), .row true (.ints .i64 t5_4s), .row true (.ints .i64 [0, 1, 1, 2, 3, 4, 5, 6, 7]), .row true (.ints .i64 y_20), .row true (.ints .i64 y_22), .row true (.pairs y_23), .row true (.ints .i64 y_24)] := by
                      refine hL.step [(7, [8, 9], 1, #[true, true, true, true, true, true, true, true, true, true, false])] (by kernel_rfl) ⟨?_, trivial⟩
                      · exact hL.edge n7
                    have n5 : L 5 #[true, true, true, true, true, true, false, false, false, false, false] [(0, .pp 0 0), (1, .v (.int .i64 a1)), (4, .pp 2 0), (5, .pp 3 0), (8, .v (.int .i64 t8)), (29, .v (.bool (decide (0 < t8)))), (33, .agg [.sl 4, .v (.int .i64 t5_1), .sl 5, .sl 6, .sl 7]), (34, .sl 8), (35, .pp 0 0), (36, .v (.int .i64 y_18)), (37, .ep 8 y_18.toNat 1 0), (38, .v (.int .i64 (([0, 1, 1, 2, 3, 4, 5, 6, 7] : List Int).getD y_18.toNat 0)))] [.box [.sl 1, .v (.int .i64 y_19)], .row false (.ints .u8 a0_0), .box [.v (.slice none 0 0), .v (.int .i64 0), .v (.slice none 0 0), .v (.slice none 0 0), .v (.slice none 0 0)], .box [.sl 4, .v (.int .i64 t5_1), .sl 5, .sl 6, .sl 7], .row true (.ints .i64 t5_0s), .row true (.ints .i64 t5_2s), .row true (.pairs t5_3s), .row true (.ints .i64 t5_4s), .row true (.ints .i64 [0, 1, 1, 2, 3, 4, 5, 6, 7])] := by
                      refine hL.step [(6, [], 4, #[true, true, true, true, true, true, true, false, false, false, false])] (by kernel_rfl) ⟨?_, trivial⟩
                      · simp (maxSteps := 4000000) only [go_sem, Nat.reduceBEq, Nat.reduceLT, Nat.reduceAdd, Nat.reduceLeDiff, Nat.reduceSub, Nat.reduceEqDiff, Int.reduceToNat, reduceCtorEq, ↓reduceIte]
                        repeat' (first | refine And.intro ?_ ?_ | intro hg)
                        all_goals (try simp (disch := omega) only [wrap_fits])
                        all_goals first
                          | (refine hL.red ?_ n6; exact Red.auto)
                          | exact trivial
                          | assumption
                          | omega
                          | exact wrap_fits (by omega) (by omega)
                          | (refine OpK_callA (k_spec_ChannelStep t5_0s t5_1 t5_2s t5_3s t5_4s (([0, 1, 1, 2, 3, 4, 5, 6, 7] : List Int).getD y_18.toNat 0) (h := hr2)) [4, 5, 6, 7] [] ?_
                             rintro x Hc' ⟨rfl, rfl⟩ hlen
                             simp (maxSteps := 4000000) only [go_sem, Nat.reduceBEq, Nat.reduceLT, Nat.reduceAdd, Nat.reduceLeDiff, Nat.reduceSub, Nat.reduceEqDiff, Int.reduceToNat, reduceCtorEq, ↓reduceIte]
                             repeat' (first | refine And.intro ?_ ?_ | intro hg)
                             all_goals (try simp (disch := omega) only [wrap_fits])
                             all_goals first
                               | (refine hL.red ?_ n6; exact Red.auto)
                               | exact trivial
                               | assumption
                               | omega
                               | exact wrap_fits (by omega) (by omega)
                               | (simp_all; done)
                               | (simp_all; omega))
                          | (simp (maxSteps := 4000000) only [go_sem, Nat.reduceBEq, Nat.reduceLT, Nat.reduceAdd, Nat.reduceLeDiff, Nat.reduceSub, Nat.reduceEqDiff, Int.reduceToNat, reduceCtorEq, ↓reduceIte]
                             repeat' (first | refine And.intro ?_ ?_ | intro hg)
                             all_goals (try simp (disch := omega) only [wrap_fits])
                             all_goals first | (refine hL.red ?_ n6; exact Red.auto) | exact trivial | assumption | omega | exact wrap_fits (by omega) (by omega))
                          | (simp_all; done)
                          | (simp_all; omega)
                    have n4 : L 6 #[true, true, true, true, true, false, false, false, false, false, false] [(0, .pp 0 0), (1, .v (.int .i64 a1)), (4, .pp 2 0), (5, .pp 3 0), (8, .v (.int .i64 t8)), (29, .v (.bool (decide (0 < t8)))), (33, .agg [.sl 4, .v (.int .i64 t5_1), .sl 5, .sl 6, .sl 7]), (34, .sl 8), (35, .pp 0 0), (36, .v (.int .i64 y_18)), (37, .ep 8 y_18.toNat 1 0)] [.box [.sl 1, .v (.int .i64 y_19)], .row false (.ints .u8 a0_0), .box [.v (.slice none 0 0), .v (.int .i64 0), .v (.slice none 0 0), .v (.slice none 0 0), .v (.slice none 0 0)], .box [.sl 4, .v (.int .i64 t5_1), .sl 5, .sl 6, .sl 7], .row true (.ints .i64 t5_0s), .row true (.ints .i64 t5_2s), .row true (.pairs t5_3s), .row true (.ints .i64 t5_4s), .row true (.ints .i64 [0, 1, 1, 2, 3, 4, 5, 6, 7])] := by
                      refine hL.step [(5, [], 5, #[true, true, true, true, true, true, false, false, false, false, false])] (by kernel_rfl) ⟨?_, trivial⟩
                      · exact hL.edge n5
                    have n3 : L 7 #[true, true, true, true, false, false, false, false, false, false, false] [(0, .pp 0 0), (1, .v (.int .i64 a1)), (4, .pp 2 0), (5, .pp 3 0), (8, .v (.int .i64 t8)), (29, .v (.bool (decide (0 < t8)))), (33, .agg [.sl 4, .v (.int .i64 t5_1), .sl 5, .sl 6, .sl 7]), (34, .sl 8), (35, .pp 0 0), (36, .v (.int .i64 y_18))] [.box [.sl 1, .v (.int .i64 y_19)], .row false (.ints .u8 a0_0), .box [.v (.slice none 0 0), .v (.int .i64 0), .v (.slice none 0 0), .v (.slice none 0 0), .v (.slice none 0 0)], .box [.sl 4, .v (.int .i64 t5_1), .sl 5, .sl 6, .sl 7], .row true (.ints .i64 t5_0s), .row true (.ints .i64 t5_2s), .row true (.pairs t5_3s), .row true (.ints .i64 t5_4s), .row true (.ints .i64 [0, 1, 1, 2, 3, 4, 5, 6, 7])] := by
                      refine hL.step [(4, [], 6, #[true, true, true, true, true, false, false, false, false, false, false])] (by kernel_rfl) ⟨?_, trivial⟩
                      · exact hL.edge n4
                    have n2 : L 8 #[true, true, true, false, false, false, false, false, false, false, false] [(0, .pp 0 0), (1, .v (.int .i64 a1)), (4, .pp 2 0), (5, .pp 3 0), (8, .v (.int .i64 t8)), (29, .v (.bool (decide (0 < t8)))), (33, .agg [.sl 4, .v (.int .i64 t5_1), .sl 5, .sl 6, .sl 7]), (34, .sl 8), (35, .pp 0 0)] [.box [.sl 1, .v (.int .i64 p0_1_2)], .row false (.ints .u8 a0_0), .box [.v (.slice none 0 0), .v (.int .i64 0), .v (.slice none 0 0), .v (.slice none 0 0), .v (.slice none 0 0)], .box [.sl 4, .v (.int .i64 t5_1), .sl 5, .sl 6, .sl 7], .row true (.ints .i64 t5_0s), .row true (.ints .i64 t5_2s), .row true (.pairs t5_3s), .row true (.ints .i64 t5_4s), .row true (.ints .i64 [0, 1, 1, 2, 3, 4, 5, 6, 7])] := by
                      refine hL.step [(3, [], 7, #[true, true, true, true, false, false, false, false, false, false, false])] (by kernel_rfl) ⟨?_, trivial⟩
                      · simp (maxSteps := 4000000) only [go_sem, Nat.reduceBEq, Nat.reduceLT, Nat.reduceAdd, Nat.reduceLeDiff, Nat.reduceSub, Nat.reduceEqDiff, Int.reduceToNat, reduceCtorEq, ↓reduceIte]
                        repeat' (first | refine And.intro ?_ ?_ | intro hg)
                        all_goals (try simp (disch := omega) only [wrap_fits])
                        all_goals first
                          | (refine hL.red ?_ n3; exact Red.auto)
                          | exact trivial
                          | assumption
                          | omega
                          | exact wrap_fits (by omega) (by omega)
                          | (refine OpK_callA (k_spec_l20Rd_pick a0_0 p0_1_2 9 (h := hr0)) [0, 1] [] ?_
                             rintro x Hc' ⟨rfl, rfl⟩ hlen
                             simp (maxSteps := 4000000) only [go_sem, Nat.reduceBEq, Nat.reduceLT, Nat.reduceAdd, Nat.reduceLeDiff, Nat.reduceSub, Nat.reduceEqDiff, Int.reduceToNat, reduceCtorEq, ↓reduceIte]
                             repeat' (first | refine And.intro ?_ ?_ | intro hg)
                             all_goals (try simp (disch := omega) only [wrap_fits])
                             all_goals first
                               | (refine hL.red ?_ n3; exact Red.auto)
                               | exact trivial
                               | assumption
                               | omega
                               | exact wrap_fits (by omega) (by omega)
                               | (simp_all; done)
                               | (simp_all; omega))
                          | (simp (maxSteps := 4000000) only [go_sem, Nat.reduceBEq, Nat.reduceLT, Nat.reduceAdd, Nat.reduceLeDiff, Nat.reduceSub, Nat.reduceEqDiff, Int.reduceToNat, reduceCtorEq, ↓reduceIte]
                             repeat' (first | refine And.intro ?_ ?_ | intro hg)
                             all_goals (try simp (disch := omega) only [wrap_fits])
                             all_goals first | (refine hL.red ?_ n3; exact Red.auto) | exact trivial | assumption | omega | exact wrap_fits (by omega) (by omega))
                          | (simp_all; done)
                          | (simp_all; omega)
                    have n9 : L 8 #[true, false, true, true, false, false, false, false, false, false, false] [(0, .pp 0 0), (1, .v (.int .i64 a1)), (4, .pp 2 0), (5, .pp 3 0), (8, .v (.int .i64 t8)), (29, .v (.bool (decide (0 < t8)))), (33, .agg [.sl 4, .v (.int .i64 t5_1), .sl 5, .sl 6, .sl 7]), (35, .pp 0 0), (36, .v (.int .i64 y_18))] [.box [.sl 1, .v (.int .i64 y_19)], .row false (.ints .u8 a0_0), .box [.v (.slice none 0 0), .v (.int .i64 0), .v (.slice none 0 0), .v (.slice none 0 0), .v (.slice none 0 0)], .box [.sl 4, .v (.int .i64 t5_1), .sl 5, .sl 6, .sl 7], .row true (.ints .i64 t5_0s), .row true (.ints .i64 t5_2s), .row true (.pairs t5_3s), .row true (.ints .i64 t5_4s)] := by
                      refine hL.step [(1, [], 7, #[true, true, true, true, false, false, false, false, false, false, false])] (by kernel_rfl) ⟨?_, trivial⟩
                      · exact hL.edge n3
                    have n1 : L 9 #[true, false, true, false, false, false, false, false, false, false, false] [(0, .pp 0 0), (1, .v (.int .i64 a1)), (4, .pp 2 0), (5, .pp 3 0), (8, .v (.int .i64 t8)), (29, .v (.bool (decide (0 < t8)))), (33, .agg [.sl 4, .v (.int .i64 t5_1), .sl 5, .sl 6, .sl 7]), (35, .pp 0 0)] [.box [.sl 1, .v (.int .i64 p0_1_2)], .row false (.ints .u8 a0_0), .box [.v (.slice none 0 0), .v (.int .i64 0), .v (.slice none 0 0), .v (.slice none 0 0), .v (.slice none 0 0)], .box [.sl 4, .v (.int .i64 t5_1), .sl 5, .sl 6, .sl 7], .row true (.ints .i64 t5_0s), .row true (.ints .i64 t5_2s), .row true (.pairs t5_3s), .row true (.ints .i64 t5_4s)] := by
                      refine hL.step [(1, [], 8, #[true, true, true, false, false, false, false, false, false, false, false]), (3, [], 8, #[true, false, true, true, false, false, false, false, false, false, false])] (by kernel_rfl) ⟨?_, ?_, trivial⟩
                      · exact hL.edge n2
                      · simp (maxSteps := 4000000) only [go_sem, Nat.reduceBEq, Nat.reduceLT, Nat.reduceAdd, Nat.reduceLeDiff, Nat.reduceSub, Nat.reduceEqDiff, Int.reduceToNat, reduceCtorEq, ↓reduceIte]
                        repeat' (first | refine And.intro ?_ ?_ | intro hg)
                        all_goals (try simp (disch := omega) only [wrap_fits])
                        all_goals first
                          | (refine hL.red ?_ n9; exact Red.auto)
                          | exact trivial
                          | assumption
                          | omega
                          | exact wrap_fits (by omega) (by omega)
                          | (refine OpK_callA (k_spec_l20Rd_pick a0_0 p0_1_2 9 (h := hr0)) [0, 1] [] ?_
                             rintro x Hc' ⟨rfl, rfl⟩ hlen
                             simp (maxSteps := 4000000) only [go_sem, Nat.reduceBEq, Nat.reduceLT, Nat.reduceAdd, Nat.reduceLeDiff, Nat.reduceSub, Nat.reduceEqDiff, Int.reduceToNat, reduceCtorEq, ↓reduceIte]
                             repeat' (first | refine And.intro ?_ ?_ | intro hg)
                             all_goals (try simp (disch := omega) only [wrap_fits])
                             all_goals first
                               | (refine hL.red ?_ n9; exact Red.auto)
                               | exact trivial
                               | assumption
                               | omega
                               | exact wrap_fits (by omega) (by omega)
                               | (simp_all; done)
                               | (simp_all; omega))
                          | (simp (maxSteps := 4000000) only [go_sem, Nat.reduceBEq, Nat.reduceLT, Nat.reduceAdd, Nat.reduceLeDiff, Nat.reduceSub, Nat.reduceEqDiff, Int.reduceToNat, reduceCtorEq, ↓reduceIte]
                             repeat' (first | refine And.intro ?_ ?_ | intro hg)
                             all_goals (try simp (disch := omega) only [wrap_fits])
                             all_goals first | (refine hL.red ?_ n9; exact Red.auto) | exact trivial | assumption | omega | exact wrap_fits (by omega) (by omega))
                          | (simp_all; done)
                          | (simp_all; omega)
                    have n13 : L 6 #[false, true, true, true, true, true, false, false, false, false, false] [(0, .pp 0 0), (1, .v (.int .i64 a1)), (4, .pp 2 0), (5, .pp 3 0), (8, .v (.int .i64 t8)), (29, .v (.bool (decide (0 < t8)))), (34, .sl 8), (35, .pp 0 0), (36, .v (.int .i64 y_18)), (37, .ep 8 y_18.toNat 1 0), (38, .v (.int .i64 (([0, 1, 1, 2, 3, 4, 5, 6, 7] : List Int).getD y_18.toNat 0)))] [.box [.sl 1, .v (.int .i64 y_19)], .row false (.ints .u8 a0_0), .box [.v (.slice none 0 0), .v (.int .i64 0), .v (.slice none 0 0), .v (.slice none 0 0), .v (.slice none 0 0)], .box [.sl 4, .v (.int .i64 t5_1), .sl 5, .sl 6, .sl 7], .row true (.ints .i64 t5_0s), .row true (.ints .i64 t5_2s), .row true (.pairs t5_3s), .row true (.ints .i64 t5_4s), .row true (.ints .i64 [0, 1, 1, 2, 3, 4, 5, 6, 7])] := by
                      refine hL.step [(0, [], 5, #[true, true, true, true, true, true, false, false, false, false, false])] (by kernel_rfl) ⟨?_, trivial⟩
                      · exact hL.edge n5
                    have n12 : L 7 #[false, true, true, true, true, false, false, false, false, false, false] [(0, .pp 0 0), (1, .v (.int .i64 a1)), (4, .pp 2 0), (5, .pp 3 0), (8, .v (.int .i64 t8)), (29, .v (.bool (decide (0 < t8)))), (34, .sl 8), (35, .pp 0 0), (36, .v (.int .i64 y_18)), (37, .ep 8 y_18.toNat 1 0)] [.box [.sl 1, .v (.int .i64 y_19)], .row false (.ints .u8 a0_0), .box [.v (.slice none 0 0), .v (.int .i64 0), .v (.slice none 0 0), .v (.slice none 0 0), .v (.slice none 0 0)], .box [.sl 4, .v (.int .i64 t5_1), .sl 5, .sl 6, .sl 7], .row true (.ints .i64 t5_0s), .row true (.ints .i64 t5_2s), .row true (.pairs t5_3s), .row true (.ints .i64 t5_4s), .row true (.ints .i64 [0, 1, 1, 2, 3, 4, 5, 6, 7])] := by
                      refine hL.step [(0, [], 6, #[true, true, true, true, true, false, false, false, false, false, false]), (5, [], 6, #[false, true, true, true, true, true, false, false, false, false, false])] (by kernel_rfl) ⟨?_, ?_, trivial⟩
                      · exact hL.edge n4
                      · exact hL.edge n13
                    have n11 : L 8 #[false, true, true, true, false, false, false, false, false, false, false] [(0, .pp 0 0), (1, .v (.int .i64 a1)), (4, .pp 2 0), (5, .pp 3 0), (8, .v (.int .i64 t8)), (29, .v (.bool (decide (0 < t8)))), (34, .sl 8), (35, .pp 0 0), (36, .v (.int .i64 y_18))] [.box [.sl 1, .v (.int .i64 y_19)], .row false (.ints .u8 a0_0), .box [.v (.slice none 0 0), .v (.int .i64 0), .v (.slice none 0 0), .v (.slice none 0 0), .v (.slice none 0 0)], .box [.sl 4, .v (.int .i64 t5_1), .sl 5, .sl 6, .sl 7], .row true (.ints .i64 t5_0s), .row true (.ints .i64 t5_2s), .row true (.pairs t5_3s), .row true (.ints .i64 t5_4s), .row true (.ints .i64 [0, 1, 1, 2, 3, 4, 5, 6, 7])] := by
                      refine hL.step [(0, [], 7, #[true, true, true, true, false, false, false, false, false, false, false]), (4, [], 7, #[false, true, true, true, true, false, false, false, false, false, false])] (by kernel_rfl) ⟨?_, ?_, trivial⟩
                      · exact hL.edge n3
                      · exact hL.edge n12
                    have n10 : L 9 #[false, true, true, false, false, false, false, false, false, false, false] [(0, .pp 0 0), (1, .v (.int .i64 a1)), (4, .pp 2 0), (5, .pp 3 0), (8, .v (.int .i64 t8)), (29, .v (.bool (decide (0 < t8)))), (34, .sl 8), (35, .pp 0 0)] [.box [.sl 1, .v (.int .i64 p0_1_2)], .row false (.ints .u8 a0_0), .box [.v (.slice none 0 0), .v (.int .i64 0), .v (.slice none 0 0), .v (.slice none 0 0), .v (.slice none 0 0)], .box [.sl 4, .v (.int .i64 t5_1), .sl 5, .sl 6, .sl 7], .row true (.ints .i64 t5_0s), .row true (.ints .i64 t5_2s), .row true (.pairs t5_3s), .row true (.ints .i64 t5_4s), .row true (.ints .i64 [0, 1, 1, 2, 3, 4, 5, 6, 7])] := by
                      refine hL.step [(0, [], 8, #[true, true, true, false, false, false, false, false, false, false, false]), (3, [], 8, #[false, true, true, true, false, false, false, false, false, false, false])] (by kernel_rfl) ⟨?_, ?_, trivial⟩
                      · exact hL.edge n2
                      · simp (maxSteps := 4000000) only [go_sem, Nat.reduceBEq, Nat.reduceLT, Nat.reduceAdd, Nat.reduceLeDiff, Nat.reduceSub, Nat.reduceEqDiff, Int.reduceToNat, reduceCtorEq, ↓reduceIte]
                        repeat' (first | refine And.intro ?_ ?_ | intro hg)
                        all_goals (try simp (disch := omega) only [wrap_fits])
                        all_goals first
                          | (refine hL.red ?_ n11; exact Red.auto)
                          | exact trivial
                          | assumption
                          | omega
                          | exact wrap_fits (by omega) (by omega)
                          | (refine OpK_callA (k_spec_l20Rd_pick a0_0 p0_1_2 9 (h := hr0)) [0, 1] [] ?_
                             rintro x Hc' ⟨rfl, rfl⟩ hlen
                             simp (maxSteps := 4000000) only [go_sem, Nat.reduceBEq, Nat.reduceLT, Nat.reduceAdd, Nat.reduceLeDiff, Nat.reduceSub, Nat.reduceEqDiff, Int.reduceToNat, reduceCtorEq, ↓reduceIte]
                             repeat' (first | refine And.intro ?_ ?_ | intro hg)
                             all_goals (try simp (disch := omega) only [wrap_fits])
                             all_goals first
                               | (refine hL.red ?_ n11; exact Red.auto)
                               | exact trivial
                               | assumption
                               | omega
                               | exact wrap_fits (by omega) (by omega)
                               | (simp_all; done)
                               | (simp_all; omega))
                          | (simp (maxSteps := 4000000) only [go_sem, Nat.reduceBEq, Nat.reduceLT, Nat.reduceAdd, Nat.reduceLeDiff, Nat.reduceSub, Nat.reduceEqDiff, Int.reduceToNat, reduceCtorEq, ↓reduceIte]
                             repeat' (first | refine And.intro ?_ ?_ | intro hg)
                             all_goals (try simp (disch := omega) only [wrap_fits])
                             all_goals first | (refine hL.red ?_ n11; exact Red.auto) | exact trivial | assumption | omega | exact wrap_fits (by omega) (by omega))
                          | (simp_all; done)
                          | (simp_all; omega)
                    have n14 : L 9 #[false, false, true, true, false, false, false, false, false, false, false] [(0, .pp 0 0), (1, .v (.int .i64 a1)), (4, .pp 2 0), (5, .pp 3 0), (8, .v (.int .i64 t8)), (29, .v (.bool (decide (0 < t8)))), (35, .pp 0 0), (36, .v (.int .i64 y_18))] [.box [.sl 1, .v (.int .i64 y_19)], .row false (.ints .u8 a0_0), .box [.v (.slice none 0 0), .v (.int .i64 0), .v (.slice none 0 0), .v (.slice none 0 0), .v (.slice none 0 0)], .box [.sl 4, .v (.int .i64 t5_1), .sl 5, .sl 6, .sl 7], .row true (.ints .i64 t5_0s), .row true (.ints .i64 t5_2s), .row true (.pairs t5_3s), .row true (.ints .i64 t5_4s)] := by
                      refine hL.step [(0, [], 8, #[true, false, true, true, false, false, false, false, false, false, false]), (1, [], 8, #[false, true, true, true, false, false, false, false, false, false, false])] (by kernel_rfl) ⟨?_, ?_, trivial⟩
                      · exact hL.edge n9
                      · exact hL.edge n11
                    have n0 : L 10 #[false, false, true, false, false, false, false, false, false, false, false] [(0, .pp 0 0), (1, .v (.int .i64 a1)), (4, .pp 2 0), (5, .pp 3 0), (8, .v (.int .i64 t8)), (29, .v (.bool (decide (0 < t8)))), (35, .pp 0 0)] [.box [.sl 1, .v (.int .i64 p0_1_2)], .row false (.ints .u8 a0_0), .box [.v (.slice none 0 0), .v (.int .i64 0), .v (.slice none 0 0), .v (.slice none 0 0), .v (.slice none 0 0)], .box [.sl 4, .v (.int .i64 t5_1), .sl 5, .sl 6, .sl 7], .row true (.ints .i64 t5_0s), .row true (.ints .i64 t5_2s), .row true (.pairs t5_3s), .row true (.ints .i64 t5_4s)] := by
                      refine hL.step [(0, [], 9, #[true, false, true, false, false, false, false, false, false, false, false]), (1, [], 9, #[false, true, true, false, false, false, false, false, false, false, false]), (3, [], 9, #[false, false, true, true, false, false, false, false, false, false, false])] (by kernel_rfl) ⟨?_, ?_, ?_, trivial⟩
                      · exact hL.edge n1
                      · exact hL.edge n10
                      · simp (maxSteps := 4000000) only [go_sem, Nat.reduceBEq, Nat.reduceLT, Nat.reduceAdd, Nat.reduceLeDiff, Nat.reduceSub, Nat.reduceEqDiff, Int.reduceToNat, reduceCtorEq, ↓reduceIte]
                        repeat' (first | refine And.intro ?_ ?_ | intro hg)
                        all_goals (try simp (disch := omega) only [wrap_fits])
                        all_goals first
                          | (refine hL.red ?_ n14; exact Red.auto)
                          | exact trivial
                          | assumption
                          | omega
                          | exact wrap_fits (by omega) (by omega)
                          | (refine OpK_callA (k_spec_l20Rd_pick a0_0 p0_1_2 9 (h := hr0)) [0, 1] [] ?_
                             rintro x Hc' ⟨rfl, rfl⟩ hlen
                             simp (maxSteps := 4000000) only [go_sem, Nat.reduceBEq, Nat.reduceLT, Nat.reduceAdd, Nat.reduceLeDiff, Nat.reduceSub, Nat.reduceEqDiff, Int.reduceToNat, reduceCtorEq, ↓reduceIte]
                             repeat' (first | refine And.intro ?_ ?_ | intro hg)
                             all_goals (try simp (disch := omega) only [wrap_fits])
                             all_goals first
                               | (refine hL.red ?_ n14; exact Red.auto)
                               | exact trivial
                               | assumption
                               | omega
                               | exact wrap_fits (by omega) (by omega)
                               | (simp_all; done)
                               | (simp_all; omega))
                          | (simp (maxSteps := 4000000) only [go_sem, Nat.reduceBEq, Nat.reduceLT, Nat.reduceAdd, Nat.reduceLeDiff, Nat.reduceSub, Nat.reduceEqDiff, Int.reduceToNat, reduceCtorEq, ↓reduceIte]
                             repeat' (first | refine And.intro ?_ ?_ | intro hg)
                             all_goals (try simp (disch := omega) only [wrap_fits])
                             all_goals first | (refine hL.red ?_ n14; exact Red.auto) | exact trivial | assumption | omega | exact wrap_fits (by omega) (by omega))
                          | (simp_all; done)
                          | (simp_all; omega)
                    simp (maxSteps := 4000000) only [go_sem, Nat.reduceBEq, Nat.reduceLT, Nat.reduceAdd, Nat.reduceLeDiff, Nat.reduceSub, Nat.reduceEqDiff, Int.reduceToNat, reduceCtorEq, ↓reduceIte]
                    repeat' (first | refine And.intro ?_ ?_ | intro hg)
                    all_goals (try simp (disch := omega) only [wrap_fits])
                    all_goals first
                      | (refine hL.red ?_ n0; exact Red.auto)
                      | exact trivial
                      | assumption
                      | omega
                      | exact wrap_fits (by omega) (by omega)
                      | (simp (maxSteps := 4000000) only [go_sem, Nat.reduceBEq, Nat.reduceLT, Nat.reduceAdd, Nat.reduceLeDiff, Nat.reduceSub, Nat.reduceEqDiff, Int.reduceToNat, reduceCtorEq, ↓reduceIte]
                         repeat' (first | refine And.intro ?_ ?_ | intro hg)
                         all_goals (try simp (disch := omega) only [wrap_fits])
                         all_goals first | (refine hL.red ?_ n0; exact Red.auto) | exact trivial | assumption | omega | exact wrap_fits (by omega) (by omega))
                      | (simp_all; done)
                      | (simp_all; omega)
                  · clear hr0 hp1 hr2
                    (try simp only [Thn, InBlk, ↓reduceIte, Nat.reduceEqDiff])
                    (try simp only [Thn, InBlk, ↓reduceIte, Nat.reduceEqDiff])
                    refine hK53 _ _ ?_
                    clear hK53
                    replace h := chk_some h
                    obtain ⟨hp0, h⟩ := h
                    have hwhp0 := wrap_fits hp0.1 hp0.2
                    refine awp_regE ftCOk [(0, .pp 0 0), (1, .v (.int .i64 a1)), (4, .pp 2 0), (5, .pp 3 0), (8, .v (.int .i64 (t8 - 1)))] [.box [.sl 1, .v (.int .i64 y_19)], .row false (.ints .u8 a0_0), .box [.v (.slice none 0 0), .v (.int .i64 0), .v (.slice none 0 0), .v (.slice none 0 0), .v (.slice none 0 0)], .box [.sl 9, .v (.int .i64 y_21), .sl 10, .sl 11, .sl 12], .row true (.ints .i64 t5_0s), .row true (.ints .i64 t5_2s), .row true (.pairs t5_3s), .row true (.ints .i64 t5_4s), .row true (.ints .i64 [0, 1, 1, 2, 3, 4, 5, 6, 7]), .row true (.ints .i64 y_20), .row true (.ints .i64 y_22), .row true (.pairs y_23), .row true (.ints .i64 y_24)] ?_
                    clear hp0
                    obtain rfl := Option.some.inj h
                    refine LoopQ.next ?_
                    exact Red.selA [0, 1, 2, 3, 9, 10, 11, 12] Red.auto
                · replace h := bite_f h hc52
                  refine awp_exit ?_
                  (try simp only [Thn, InBlk, ↓reduceIte, Nat.reduceEqDiff])
                  obtain rfl := Option.some.inj h
                  refine LoopQ.out rfl ?_
                  exact Red.auto
              · clear hx
                rcases x54 with ⟨p0_1_3, t5_1_1, t5_0s_1, t5_2s_1, t5_3s_1, t5_4s_1⟩
                · try dsimp only [Sum.elim_inl, Sum.elim_inr] at h
                  try dsimp only [Sum.elim_inl, Sum.elim_inr]
                  (try simp only [Thn, InBlk, ↓reduceIte, Nat.reduceEqDiff])
                  (try simp only [Thn, InBlk, ↓reduceIte, Nat.reduceEqDiff])
                  (try simp only [Thn, InBlk, ↓reduceIte, Nat.reduceEqDiff])
                  refine hK41 _ _ ?_
                  clear hK41
                  refine awp_join h (fun ((p0_1_4, t5_1_2, t5_2s_2, t5_3s_2, t5_4s_2) : Int × Int × List Int × (List (Int × Int)) × List Int) => [(4, .pp 2 0), (5, .pp 3 0)]) (fun ((p0_1_4, t5_1_2, t5_2s_2, t5_3s_2, t5_4s_2) : Int × Int × List Int × (List (Int × Int)) × List Int) => [.box [.sl 1, .v (.int .i64 p0_1_4)], .row false (.ints .u8 a0_0), .box [.v (.slice none 0 0), .v (.int .i64 0), .v (.slice none 0 0), .v (.slice none 0 0), .v (.slice none 0 0)], .box [.sl 4, .v (.int .i64 t5_1_2), .sl 5, .sl 6, .sl 7], .row true (.ints .i64 t5_0s_1), .row true (.ints .i64 t5_2s_2), .row true (.pairs t5_3s_2), .row true (.ints .i64 t5_4s_2)]) ?_ ?_
                  · clear h
                    intro k h
                    try dsimp only at h
                    replace h := bind_some h
                    obtain ⟨⟨y_26, y_27⟩, hr0, h⟩ := h
                    try dsimp only at h
                    refine awp_to [(0, .pp 0 0), (4, .pp 2 0), (5, .pp 3 0), (44, .v (.bool y_26))] [.box [.sl 1, .v (.int .i64 y_27)], .row false (.ints .u8 a0_0), .box [.v (.slice none 0 0), .v (.int .i64 0), .v (.slice none 0 0), .v (.slice none 0 0), .v (.slice none 0 0)], .box [.sl 4, .v (.int .i64 t5_1_1), .sl 5, .sl 6, .sl 7], .row true (.ints .i64 t5_0s_1), .row true (.ints .i64 t5_2s_1), .row true (.pairs t5_3s_1), .row true (.ints .i64 t5_4s_1)] ?_ ?_
                    · clear h
                      intro K hK
                      refine awp_region ftCOk ?_
                      simp (maxSteps := 4000000) only [go_sem, Nat.reduceBEq, Nat.reduceLT, Nat.reduceAdd, Nat.reduceLeDiff, Nat.reduceSub, Nat.reduceEqDiff, Int.reduceToNat, reduceCtorEq, ↓reduceIte]
                      repeat' (first | refine And.intro ?_ ?_ | intro hg)
                      all_goals (try simp (disch := omega) only [wrap_fits])
                      all_goals first
                        | (refine hK _ _ ?_; exact Red.auto)
                        | exact trivial
                        | assumption
                        | omega
                        | exact wrap_fits (by omega) (by omega)
                        | (refine wpA_callA (k_spec_l20Rd_odd a0_0 p0_1_3 a1 (h := hr0)) [0, 1] [] ?_
                           rintro x Hc' ⟨rfl, rfl⟩ hlen
                           refine vcOps_sound ftCOk ?_
                           simp (maxSteps := 4000000) only [go_sem, Nat.reduceBEq, Nat.reduceLT, Nat.reduceAdd, Nat.reduceLeDiff, Nat.reduceSub, Nat.reduceEqDiff, Int.reduceToNat, reduceCtorEq, ↓reduceIte]
                           repeat' (first | refine And.intro ?_ ?_ | intro hg)
                           all_goals (try simp (disch := omega) only [wrap_fits])
                           all_goals first
                             | (refine hK _ _ ?_; exact Red.auto)
                             | exact trivial
                             | assumption
                             | omega
                             | exact wrap_fits (by omega) (by omega)
                             | (simp_all; done)
                             | (simp_all; omega))
                        | (simp_all; done)
                        | (simp_all; omega)
                    · clear hr0
                      refine awp_cond (t := 44) rfl (fun hc59 => ?_) (fun hc59 => ?_)
                      · replace h := bite_t h hc59
                        replace h := bind_some h
                        obtain ⟨⟨y_28, y_29⟩, hr0, h⟩ := h
                        try dsimp only at h
                        refine awp_to [(0, .pp 0 0), (4, .pp 2 0), (5, .pp 3 0), (46, .v (.int .i64 y_28))] [.box [.sl 1, .v (.int .i64 y_29)], .row false (.ints .u8 a0_0), .box [.v (.slice none 0 0), .v (.int .i64 0), .v (.slice none 0 0), .v (.slice none 0 0), .v (.slice none 0 0)], .box [.sl 4, .v (.int .i64 t5_1_1), .sl 5, .sl 6, .sl 7], .row true (.ints .i64 t5_0s_1), .row true (.ints .i64 t5_2s_1), .row true (.pairs t5_3s_1), .row true (.ints .i64 t5_4s_1)] ?_ ?_
                        · clear h
                          intro K hK
                          refine awp_region ftCOk ?_
                          simp (maxSteps := 4000000) only [go_sem, Nat.reduceBEq, Nat.reduceLT, Nat.reduceAdd, Nat.reduceLeDiff, Nat.reduceSub, Nat.reduceEqDiff, Int.reduceToNat, reduceCtorEq, ↓reduceIte]
                          repeat' (first | refine And.intro ?_ ?_ | intro hg)
                          all_goals (try simp (disch := omega) only [wrap_fits])
                          all_goals first
                            | (refine hK _ _ ?_; exact Red.auto)
                            | exact trivial
                            | assumption
                            | omega
                            | exact wrap_fits (by omega) (by omega)
                            | (refine wpA_callA (k_spec_l20Rd_pick a0_0 y_27 4 (h := hr0)) [0, 1] [] ?_
                               rintro x Hc' ⟨rfl, rfl⟩ hlen
                               refine vcOps_sound ftCOk ?_
                               simp (maxSteps := 4000000) only [go_sem, Nat.reduceBEq, Nat.reduceLT, Nat.reduceAdd, Nat.reduceLeDiff, Nat.reduceSub, Nat.reduceEqDiff, Int.reduceToNat, reduceCtorEq, ↓reduceIte]
                               repeat' (first | refine And.intro ?_ ?_ | intro hg)
                               all_goals (try simp (disch := omega) only [wrap_fits])
                               all_goals first
                                 | (refine hK _ _ ?_; exact Red.auto)
                                 | exact trivial
                                 | assumption
                                 | omega
                                 | exact wrap_fits (by omega) (by omega)
                                 | (simp_all; done)
                                 | (simp_all; omega))
                            | (simp_all; done)
                            | (simp_all; omega)
                        · clear hr0
                          refine awp_block ?_
                          refine awp_reg ftCOk [(0, .pp 0 0), (4, .pp 2 0), (5, .pp 3 0), (46, .v (.int .i64 y_28)), (56, .v (.bool (y_28 == 0)))] [.box [.sl 1, .v (.int .i64 y_29)], .row false (.ints .u8 a0_0), .box [.v (.slice none 0 0), .v (.int .i64 0), .v (.slice none 0 0), .v (.slice none 0 0), .v (.slice none 0 0)], .box [.sl 4, .v (.int .i64 t5_1_1), .sl 5, .sl 6, .sl 7], .row true (.ints .i64 t5_0s_1), .row true (.ints .i64 t5_2s_1), .row true (.pairs t5_3s_1), .row true (.ints .i64 t5_4s_1)] ?_
                          refine awp_cond (t := 56) rfl (fun hc60 => ?_) (fun hc60 => ?_)
                          · replace h := bite_t h hc60
                            replace h := chk_some h
                            obtain ⟨hp0, h⟩ := h
                            replace h := bind_some h
                            obtain ⟨⟨y_30, y_31⟩, hr1, h⟩ := h
                            try dsimp only at h
                            replace h := chk_some h
                            obtain ⟨hp2, h⟩ := h
                            refine awp_end [(4, .pp 2 0), (5, .pp 3 0)] [.box [.sl 1, .v (.int .i64 y_31)], .row false (.ints .u8 a0_0), .box [.v (.slice none 0 0), .v (.int .i64 0), .v (.slice none 0 0), .v (.slice none 0 0), .v (.slice none 0 0)], .box [.sl 4, .v (.int .i64 (([(-1), ((t5_2s_1.length : Int) + 1)] : List Int).getD y_30.toNat 0)), .sl 5, .sl 6, .sl 7], .row true (.ints .i64 t5_0s_1), .row true (.ints .i64 t5_2s_1), .row true (.pairs t5_3s_1), .row true (.ints .i64 t5_4s_1), .row true (.ints .i64 [(-1), ((t5_2s_1.length : Int) + 1)])] ?_ ?_
                            · clear h
                              intro K hK
                              refine awp_drawT mixed ftCOk (.free 0 (.free 5 (.two 1 6 (.two 2 6 (.free 3 (.two 4 6 (.one 6 (.one 7 (.one 8 (.one 9 (.one 10 .fin))))) (.one 4 (.one 7 (.one 8 (.one 9 (.one 10 .fin))))))) (.one 2 (.one 3 (.one 4 (.one 7 (.one 8 (.one 9 (.one 10 .fin)))))))) (.one 1 (.one 2 (.one 3 (.one 4 (.one 7 (.one 8 (.one 9 (.one 10 .fin))))))))))) (by kernel_rfl) (by simp) ?_
                              simp (maxSteps := 4000000) only [go_sem, Nat.reduceBEq, Nat.reduceLT, Nat.reduceAdd, Nat.reduceLeDiff, Nat.reduceSub, Nat.reduceEqDiff, Int.reduceToNat, reduceCtorEq, ↓reduceIte]
                              repeat' (first | refine And.intro ?_ ?_ | intro hg)
                              all_goals (try simp (disch := omega) only [wrap_fits])
                              all_goals first
                                | (refine hK _ _ ?_; exact Red.auto)
                                | exact trivial
                                | assumption
                                | omega
                                | exact wrap_fits (by omega) (by omega)
                                | (refine OpK_callA (k_spec_l20Rd_pick a0_0 y_29 2 (h := hr1)) [0, 1] [] ?_
                                   rintro x Hc' ⟨rfl, rfl⟩ hlen
                                   simp (maxSteps := 4000000) only [go_sem, Nat.reduceBEq, Nat.reduceLT, Nat.reduceAdd, Nat.reduceLeDiff, Nat.reduceSub, Nat.reduceEqDiff, Int.reduceToNat, reduceCtorEq, ↓reduceIte]
                                   repeat' (first | refine And.intro ?_ ?_ | intro hg)
                                   all_goals (try simp (disch := omega) only [wrap_fits])
                                   all_goals first
                                     | (refine hK _ _ ?_; exact Red.auto)
                                     | exact trivial
                                     | assumption
                                     | omega
                                     | exact wrap_fits (by omega) (by omega)
                                     | (simp (maxSteps := 4000000) only [go_sem, Nat.reduceBEq, Nat.reduceLT, Nat.reduceAdd, Nat.reduceLeDiff, Nat.reduceSub, Nat.reduceEqDiff, Int.reduceToNat, reduceCtorEq, ↓reduceIte]
                                        repeat' (first | refine And.intro ?_ ?_ | intro hg)
                                        all_goals (try simp (disch := omega) only [wrap_fits])
                                        all_goals first | (refine hK _ _ ?_; exact Red.auto) | exact trivial | assumption | omega | exact wrap_fits (by omega) (by omega))
                                     | (simp_all; done)
                                     | (simp_all; omega))
                                | (simp_all; done)
                                | (simp_all; omega)
                            · clear hp0 hr1 hp2
                              (try simp only [Thn, InBlk, ↓reduceIte, Nat.reduceEqDiff])
                              (try simp only [Thn, InBlk, ↓reduceIte, Nat.reduceEqDiff])
                              refine ⟨_, h, ?_⟩
                              exact Red.selA [0, 1, 2, 3, 4, 5, 6, 7] Red.auto
                          · replace h := bite_f h hc60
                            refine awp_reg ftCOk [(4, .pp 2 0), (5, .pp 3 0), (46, .v (.int .i64 y_28)), (68, .v (.bool (y_28 == 1)))] [.box [.sl 1, .v (.int .i64 y_29)], .row false (.ints .u8 a0_0), .box [.v (.slice none 0 0), .v (.int .i64 0), .v (.slice none 0 0), .v (.slice none 0 0), .v (.slice none 0 0)], .box [.sl 4, .v (.int .i64 t5_1_1), .sl 5, .sl 6, .sl 7], .row true (.ints .i64 t5_0s_1), .row true (.ints .i64 t5_2s_1), .row true (.pairs t5_3s_1), .row true (.ints .i64 t5_4s_1)] ?_
                            refine awp_cond (t := 68) rfl (fun hc61 => ?_) (fun hc61 => ?_)
                            · replace h := bite_t h hc61
                              replace h := chk_some h
                              obtain ⟨hp0, h⟩ := h
                              refine awp_regE ftCOk [(4, .pp 2 0), (5, .pp 3 0)] [.box [.sl 1, .v (.int .i64 y_29)], .row false (.ints .u8 a0_0), .box [.v (.slice none 0 0), .v (.int .i64 0), .v (.slice none 0 0), .v (.slice none 0 0), .v (.slice none 0 0)], .box [.sl 4, .v (.int .i64 t5_1_1), .sl 5, .sl 6, .sl 7], .row true (.ints .i64 t5_0s_1), .row true (.ints .i64 (t5_2s_1 ++ [(-5)])), .row true (.pairs t5_3s_1), .row true (.ints .i64 t5_4s_1), .row true (.ints .i64 [(-5)])] ?_
                              clear hp0
                              (try simp only [Thn, InBlk, ↓reduceIte, Nat.reduceEqDiff])
                              (try simp only [Thn, InBlk, ↓reduceIte, Nat.reduceEqDiff])
                              refine ⟨_, h, ?_⟩
                              exact Red.selA [0, 1, 2, 3, 4, 5, 6, 7] Red.auto
                            · replace h := bite_f h hc61
                              refine awp_reg ftCOk [(4, .pp 2 0), (5, .pp 3 0), (75, .v (.bool (y_28 == 2)))] [.box [.sl 1, .v (.int .i64 y_29)], .row false (.ints .u8 a0_0), .box [.v (.slice none 0 0), .v (.int .i64 0), .v (.slice none 0 0), .v (.slice none 0 0), .v (.slice none 0 0)], .box [.sl 4, .v (.int .i64 t5_1_1), .sl 5, .sl 6, .sl 7], .row true (.ints .i64 t5_0s_1), .row true (.ints .i64 t5_2s_1), .row true (.pairs t5_3s_1), .row true (.ints .i64 t5_4s_1)] ?_
                              refine awp_cond (t := 75) rfl (fun hc62 => ?_) (fun hc62 => ?_)
                              · replace h := bite_t h hc62
                                replace h := chk_some h
                                obtain ⟨hp0, h⟩ := h
                                refine awp_regE ftCOk [(4, .pp 2 0), (5, .pp 3 0)] [.box [.sl 1, .v (.int .i64 y_29)], .row false (.ints .u8 a0_0), .box [.v (.slice none 0 0), .v (.int .i64 0), .v (.slice none 0 0), .v (.slice none 0 0), .v (.slice none 0 0)], .box [.sl 4, .v (.int .i64 t5_1_1), .sl 5, .sl 6, .sl 7], .row true (.ints .i64 t5_0s_1), .row true (.ints .i64 t5_2s_1), .row true (.pairs (t5_3s_1 ++ [((t5_0s_1.length : Int), 1)])), .row true (.ints .i64 t5_4s_1), .row true (.pairs [((t5_0s_1.length : Int), 1)])] ?_
                                clear hp0
                                (try simp only [Thn, InBlk, ↓reduceIte, Nat.reduceEqDiff])
                                (try simp only [Thn, InBlk, ↓reduceIte, Nat.reduceEqDiff])
                                refine ⟨_, h, ?_⟩
                                exact Red.selA [0, 1, 2, 3, 4, 5, 6, 7] Red.auto
                              · replace h := bite_f h hc62
                                replace h := chk_some h
                                obtain ⟨hp0, h⟩ := h
                                replace h := chk_some h
                                obtain ⟨hp1, h⟩ := h
                                refine awp_regE ftCOk [(4, .pp 2 0), (5, .pp 3 0)] [.box [.sl 1, .v (.int .i64 y_29)], .row false (.ints .u8 a0_0), .box [.v (.slice none 0 0), .v (.int .i64 0), .v (.slice none 0 0), .v (.slice none 0 0), .v (.slice none 0 0)], .box [.sl 4, .v (.int .i64 t5_1_1), .sl 5, .sl 6, .sl 7], .row true (.ints .i64 t5_0s_1), .row true (.ints .i64 t5_2s_1), .row true (.pairs t5_3s_1), .row true (.ints .i64 (t5_4s_1 ++ [((t5_2s_1.length : Int) + 1)])), .row true (.ints .i64 [((t5_2s_1.length : Int) + 1)])] ?_
                                clear hp0 hp1
                                (try simp only [Thn, InBlk, ↓reduceIte, Nat.reduceEqDiff])
                                (try simp only [Thn, InBlk, ↓reduceIte, Nat.reduceEqDiff])
                                refine ⟨_, h, ?_⟩
                                exact Red.selA [0, 1, 2, 3, 4, 5, 6, 7] Red.auto
                      · replace h := bite_f h hc59
                        refine awp_skip ?_
                        (try simp only [Thn, InBlk, ↓reduceIte, Nat.reduceEqDiff])
                        refine ⟨_, h, ?_⟩
                        exact Red.auto
                  · clear h
                    rintro ⟨p0_1_4, t5_1_2, t5_2s_2, t5_3s_2, t5_4s_2⟩ h
                    try dsimp only at h
                    try dsimp only
                    refine awp_reg ftCOk [(4, .pp 2 0)] [.box [.sl 1, .v (.int .i64 p0_1_4)], .row false (.ints .u8 a0_0), .box [.sl 4, .v (.int .i64 t5_1_2), .sl 5, .sl 6, .sl 7], .box [.sl 4, .v (.int .i64 t5_1_2), .sl 5, .sl 6, .sl 7], .row true (.ints .i64 t5_0s_1), .row true (.ints .i64 t5_2s_2), .row true (.pairs t5_3s_2), .row true (.ints .i64 t5_4s_2)] ?_
                    refine awp_ret ?_
                    (try simp only [Thn, InBlk, ↓reduceIte, Nat.reduceEqDiff])
                    obtain rfl := Option.some.inj h
                    refine ⟨by simp, _, [0, 1, 4, 5, 6, 7], (by simp only [go_sem, Nat.reduceBEq, Nat.reduceLT, Nat.reduceAdd, Nat.reduceLeDiff, Nat.reduceSub, Nat.reduceEqDiff, Int.reduceToNat, reduceCtorEq, ↓reduceIte]; exact rfl), ?_, ?_, ?_, ?_⟩
                    · first | exact trivial | exact ⟨trivial, trivial⟩ | exact ⟨trivial, trivial, trivial⟩ | exact ⟨trivial, trivial, trivial, trivial⟩ | (simp only [allP, and_true, true_and]; done) | (simp only [allP, and_true, true_and]; omega)
                    · simp [selOk, pos]
                    · simp
                    · first | exact ⟨rfl, rfl⟩ | (simp only [go_sem, Nat.reduceBEq, Nat.reduceLT, Nat.reduceAdd, Nat.reduceLeDiff, Nat.reduceSub, Nat.reduceEqDiff, Int.reduceToNat, reduceCtorEq, ↓reduceIte]; done) | (simp [go_sem, Nat.reduceBEq, Nat.reduceLT, Nat.reduceAdd, Nat.reduceLeDiff, Nat.reduceSub, Nat.reduceEqDiff, Int.reduceToNat, reduceCtorEq, ↓reduceIte]; done) | (simp only [go_sem, Nat.reduceBEq, Nat.reduceLT, Nat.reduceAdd, Nat.reduceLeDiff, Nat.reduceSub, Nat.reduceEqDiff, Int.reduceToNat, reduceCtorEq, ↓reduceIte]; exact ⟨rfl, rfl⟩) | (simp_all [go_sem, Nat.reduceBEq, Nat.reduceLT, Nat.reduceAdd, Nat.reduceLeDiff, Nat.reduceSub, Nat.reduceEqDiff, Int.reduceToNat, reduceCtorEq, ↓reduceIte]; done)
theorem k_spec_l20Open_v1 (a0 : List Int) {r : List Int × Int} (h : spec_l20Open_v1 a0 = some r) :
    FnA Try.prog 73 [.sl 0] [.row false (.ints .u8 a0), .box [.v (.slice none 0 0), .v (.int .i64 0), .v (.slice none 0 0), .v (.slice none 0 0), .v (.slice none 0 0)]] [] (fun x H => x = .pp 2 0 ∧ H = [.row false (.ints .u8 a0), .box [.v (.slice none 0 0), .v (.int .i64 0), .v (.slice none 0 0), .v (.slice none 0 0), .v (.slice none 0 0)], .box [.sl 3, .v (.int .i64 r.2)], .row false (.ints .u8 r.1)]) := by
  unfold spec_l20Open_v1 at h
  refine FnA.of (N := 11) (pin := [0, 1]) (rs := [.tmp 2]) Try.func73 rfl en73 rfl rfl (by simp) (by simp; try omega) ?_
  refine awp_reg ftCOk [(0, .sl 0)] [.row false (.ints .u8 a0), .box [.v (.slice none 0 0), .v (.int .i64 0), .v (.slice none 0 0), .v (.slice none 0 0), .v (.slice none 0 0)]] ?_
  refine awp_join h (fun (t0s : List Int) => [(0, .sl 2)]) (fun (t0s : List Int) => [.row false (.ints .u8 a0), .box [.v (.slice none 0 0), .v (.int .i64 0), .v (.slice none 0 0), .v (.slice none 0 0), .v (.slice none 0 0)], .row false (.ints .u8 t0s)]) ?_ ?_
  · clear h
    intro k h
    try dsimp only at h
    refine awp_reg ftCOk [(0, .sl 0), (5, .v (.bool (decide (2000 < (a0.length : Int)))))] [.row false (.ints .u8 a0), .box [.v (.slice none 0 0), .v (.int .i64 0), .v (.slice none 0 0), .v (.slice none 0 0), .v (.slice none 0 0)]] ?_
    refine awp_cond (t := 5) rfl (fun hc2 => ?_) (fun hc2 => ?_)
    · replace h := bite_t h hc2
      replace h := chk_some h
      obtain ⟨hp0, h⟩ := h
      refine awp_regE ftCOk [(0, .sl 2)] [.row false (.ints .u8 a0), .box [.v (.slice none 0 0), .v (.int .i64 0), .v (.slice none 0 0), .v (.slice none 0 0), .v (.slice none 0 0)], .row false (.ints .u8 ((a0.take 2000).drop 0))] ?_
      clear hp0
      (try simp only [Thn, InBlk, ↓reduceIte, Nat.reduceEqDiff])
      refine ⟨_, h, ?_⟩
      exact Red.auto
    · replace h := bite_f h hc2
      refine awp_skip ?_
      (try simp only [Thn, InBlk, ↓reduceIte, Nat.reduceEqDiff])
      refine ⟨_, h, ?_⟩
      refine Red.trans (Red.dup (t := 0) rfl rfl) ?_
      exact Red.auto
  · clear h
    rintro t0s h
    try dsimp only at h
    try dsimp only
    refine awp_reg ftCOk [(2, .pp 3 0)] [.row false (.ints .u8 a0), .box [.v (.slice none 0 0), .v (.int .i64 0), .v (.slice none 0 0), .v (.slice none 0 0), .v (.slice none 0 0)], .row false (.ints .u8 t0s), .box [.sl 2, .v (.int .i64 0)]] ?_
    refine awp_ret ?_
    (try simp only [Thn, InBlk, ↓reduceIte, Nat.reduceEqDiff])
    obtain rfl := Option.some.inj h
    refine ⟨by simp, _, [0, 1, 3, 2], (by simp only [go_sem, Nat.reduceBEq, Nat.reduceLT, Nat.reduceAdd, Nat.reduceLeDiff, Nat.reduceSub, Nat.reduceEqDiff, Int.reduceToNat, reduceCtorEq, ↓reduceIte]; exact rfl), ?_, ?_, ?_, ?_⟩
    · first | exact trivial | exact ⟨trivial, trivial⟩ | exact ⟨trivial, trivial, trivial⟩ | exact ⟨trivial, trivial, trivial, trivial⟩ | (simp only [allP, and_true, true_and]; done) | (simp only [allP, and_true, true_and]; omega)
    · simp [selOk, pos]
    · simp
    · first | exact ⟨rfl, rfl⟩ | (simp only [go_sem, Nat.reduceBEq, Nat.reduceLT, Nat.reduceAdd, Nat.reduceLeDiff, Nat.reduceSub, Nat.reduceEqDiff, Int.reduceToNat, reduceCtorEq, ↓reduceIte]; done) | (simp [go_sem, Nat.reduceBEq, Nat.reduceLT, Nat.reduceAdd, Nat.reduceLeDiff, Nat.reduceSub, Nat.reduceEqDiff, Int.reduceToNat, reduceCtorEq, ↓reduceIte]; done) | (simp only [go_sem, Nat.reduceBEq, Nat.reduceLT, Nat.reduceAdd, Nat.reduceLeDiff, Nat.reduceSub, Nat.reduceEqDiff, Int.reduceToNat, reduceCtorEq, ↓reduceIte]; exact ⟨rfl, rfl⟩) | (simp_all [go_sem, Nat.reduceBEq, Nat.reduceLT, Nat.reduceAdd, Nat.reduceLeDiff, Nat.reduceSub, Nat.reduceEqDiff, Int.reduceToNat, reduceCtorEq, ↓reduceIte]; done)
theorem k_spec_DrawChannelFinish (a0 : List Int) {r : List Int × Int × List Int × (List (Int × Int)) × List Int} (h : spec_DrawChannelFinish a0 = some r) :
    FnA Try.prog 23 [.sl 0] [.row false (.ints .u8 a0)] [] (fun x H => x = .agg [.sl 1, .v (.int .i64 r.2.1), .sl 2, .sl 3, .sl 4] ∧ H = [.row false (.ints .u8 a0), .row true (.ints .i64 r.1), .row true (.ints .i64 r.2.2.1), .row true (.pairs r.2.2.2.1), .row true (.ints .i64 r.2.2.2.2)]) := by
  unfold spec_DrawChannelFinish at h
  refine FnA.of (N := 6) (pin := [0]) (rs := [.cell 2 40]) Try.func23 rfl en23 rfl rfl (by simp) (by simp; try omega) ?_
  refine awp_reg ftCOk [(0, .sl 0), (2, .pp 1 0)] [.row false (.ints .u8 a0), .box [.v (.slice none 0 0), .v (.int .i64 0), .v (.slice none 0 0), .v (.slice none 0 0), .v (.slice none 0 0)]] ?_
  replace h := bind_some h
  obtain ⟨⟨y, y_1⟩, hr0, h⟩ := h
  try dsimp only at h
  replace h := bind_some h
  obtain ⟨⟨y_2, y_3, y_4, y_5, y_6, y_7⟩, hr1, h⟩ := h
  try dsimp only at h
  refine awp_to [(2, .pp 1 0)] [.row false (.ints .u8 a0), .box [.sl 4, .v (.int .i64 y_3), .sl 5, .sl 6, .sl 7], .box [.sl 3, .v (.int .i64 y_7)], .row false (.ints .u8 y), .row true (.ints .i64 y_2), .row true (.ints .i64 y_4), .row true (.pairs y_5), .row true (.ints .i64 y_6)] ?_ ?_
  · clear h
    intro K hK
    refine awp_region ftCOk ?_
    simp (maxSteps := 4000000) only [go_sem, Nat.reduceBEq, Nat.reduceLT, Nat.reduceAdd, Nat.reduceLeDiff, Nat.reduceSub, Nat.reduceEqDiff, Int.reduceToNat, reduceCtorEq, ↓reduceIte]
    repeat' (first | refine And.intro ?_ ?_ | intro hg)
    all_goals (try simp (disch := omega) only [wrap_fits])
    all_goals first
      | (refine hK _ _ ?_; exact Red.auto)
      | exact trivial
      | assumption
      | omega
      | exact wrap_fits (by omega) (by omega)
      | (refine wpA_here (k_spec_l20Open_v1 a0 (h := hr0)) ?_
         rintro x Hc' ⟨rfl, rfl⟩ hlen
         refine vcOps_sound ftCOk ?_
         simp (maxSteps := 4000000) only [go_sem, Nat.reduceBEq, Nat.reduceLT, Nat.reduceAdd, Nat.reduceLeDiff, Nat.reduceSub, Nat.reduceEqDiff, Int.reduceToNat, reduceCtorEq, ↓reduceIte]
         repeat' (first | refine And.intro ?_ ?_ | intro hg)
         all_goals (try simp (disch := omega) only [wrap_fits])
         all_goals first
           | (refine hK _ _ ?_; exact Red.auto)
           | exact trivial
           | assumption
           | omega
           | exact wrap_fits (by omega) (by omega)
           | (refine wpA_callA (k_spec_l20Channel y y_1 9 (h := hr1)) [2, 3] [] ?_
              rintro x Hc' ⟨rfl, rfl⟩ hlen
              refine vcOps_sound ftCOk ?_
              simp (maxSteps := 4000000) only [go_sem, Nat.reduceBEq, Nat.reduceLT, Nat.reduceAdd, Nat.reduceLeDiff, Nat.reduceSub, Nat.reduceEqDiff, Int.reduceToNat, reduceCtorEq, ↓reduceIte]
              repeat' (first | refine And.intro ?_ ?_ | intro hg)
              all_goals (try simp (disch := omega) only [wrap_fits])
              all_goals first
                | (refine hK _ _ ?_; exact Red.auto)
                | exact trivial
                | assumption
                | omega
                | exact wrap_fits (by omega) (by omega)
                | (simp_all; done)
                | (simp_all; omega))
           | (simp_all; done)
           | (simp_all; omega))
      | (simp_all; done)
      | (simp_all; omega)
  · clear hr0 hr1
    refine awp_ret ?_
    (try simp only [Thn, InBlk, ↓reduceIte, Nat.reduceEqDiff])
    obtain rfl := Option.some.inj h
    refine ⟨by simp, _, [0, 4, 5, 6, 7], (by simp only [go_sem, Nat.reduceBEq, Nat.reduceLT, Nat.reduceAdd, Nat.reduceLeDiff, Nat.reduceSub, Nat.reduceEqDiff, Int.reduceToNat, reduceCtorEq, ↓reduceIte]; exact rfl), ?_, ?_, ?_, ?_⟩
    · first | exact trivial | exact ⟨trivial, trivial⟩ | exact ⟨trivial, trivial, trivial⟩ | exact ⟨trivial, trivial, trivial, trivial⟩ | (simp only [allP, and_true, true_and]; done) | (simp only [allP, and_true, true_and]; omega)
    · simp [selOk, pos]
    · simp
    · first | exact ⟨rfl, rfl⟩ | (simp only [go_sem, Nat.reduceBEq, Nat.reduceLT, Nat.reduceAdd, Nat.reduceLeDiff, Nat.reduceSub, Nat.reduceEqDiff, Int.reduceToNat, reduceCtorEq, ↓reduceIte]; done) | (simp [go_sem, Nat.reduceBEq, Nat.reduceLT, Nat.reduceAdd, Nat.reduceLeDiff, Nat.reduceSub, Nat.reduceEqDiff, Int.reduceToNat, reduceCtorEq, ↓reduceIte]; done) | (simp only [go_sem, Nat.reduceBEq, Nat.reduceLT, Nat.reduceAdd, Nat.reduceLeDiff, Nat.reduceSub, Nat.reduceEqDiff, Int.reduceToNat, reduceCtorEq, ↓reduceIte]; exact ⟨rfl, rfl⟩) | (simp_all [go_sem, Nat.reduceBEq, Nat.reduceLT, Nat.reduceAdd, Nat.reduceLeDiff, Nat.reduceSub, Nat.reduceEqDiff, Int.reduceToNat, reduceCtorEq, ↓reduceIte]; done)
theorem k_impl_numberFits (a0 : Int) {r : Bool} (h : impl_numberFits a0 = some r) :
    FnA Try.prog 138 [.v (.int .i64 a0)] [] [] (fun x H => x = .v (.bool r) ∧ H = []) := by
  unfold impl_numberFits at h
  refine FnA.of (N := 9) (pin := []) (rs := [.tmp 2]) Try.func138 rfl en138 rfl rfl (by simp) (by simp; try omega) ?_
  refine awp_reg ftCOk [(0, .v (.int .i64 a0))] [] ?_
  refine awp_reg ftCOk [(2, .v (.bool ((decide (0 ≤ a0)) && (decide (a0 ≤ 1000000)))))] [] ?_
  refine awp_ret ?_
  (try simp only [Thn, InBlk, ↓reduceIte, Nat.reduceEqDiff])
  obtain rfl := Option.some.inj h
  refine ⟨by simp, _, [], (by simp only [go_sem, Nat.reduceBEq, Nat.reduceLT, Nat.reduceAdd, Nat.reduceLeDiff, Nat.reduceSub, Nat.reduceEqDiff, Int.reduceToNat, reduceCtorEq, ↓reduceIte]; exact rfl), ?_, ?_, ?_, ?_⟩
  · first | exact trivial | exact ⟨trivial, trivial⟩ | exact ⟨trivial, trivial, trivial⟩ | exact ⟨trivial, trivial, trivial, trivial⟩ | (simp only [allP, and_true, true_and]; done) | (simp only [allP, and_true, true_and]; omega)
  · simp [selOk, pos]
  · simp
  · first | exact ⟨rfl, rfl⟩ | (simp only [go_sem, Nat.reduceBEq, Nat.reduceLT, Nat.reduceAdd, Nat.reduceLeDiff, Nat.reduceSub, Nat.reduceEqDiff, Int.reduceToNat, reduceCtorEq, ↓reduceIte]; done) | (simp [go_sem, Nat.reduceBEq, Nat.reduceLT, Nat.reduceAdd, Nat.reduceLeDiff, Nat.reduceSub, Nat.reduceEqDiff, Int.reduceToNat, reduceCtorEq, ↓reduceIte]; done) | (simp only [go_sem, Nat.reduceBEq, Nat.reduceLT, Nat.reduceAdd, Nat.reduceLeDiff, Nat.reduceSub, Nat.reduceEqDiff, Int.reduceToNat, reduceCtorEq, ↓reduceIte]; exact ⟨rfl, rfl⟩) | (simp_all [go_sem, Nat.reduceBEq, Nat.reduceLT, Nat.reduceAdd, Nat.reduceLeDiff, Nat.reduceSub, Nat.reduceEqDiff, Int.reduceToNat, reduceCtorEq, ↓reduceIte]; done)
theorem k_impl_channelValuesFit (a0 : List Int) {r : Bool} (h : impl_channelValuesFit a0 = some r) :
    FnA Try.prog 116 [.sl 0] [.row false (.ints .i64 a0)] [] (fun x H => x = .v (.bool r) ∧ H = [.row false (.ints .i64 a0)]) := by
  unfold impl_channelValuesFit at h
  refine FnA.of (N := 18) (pin := [0]) (rs := [.tmp 2]) Try.func116 rfl en116 rfl rfl (by simp) (by simp; try omega) ?_
  refine awp_reg ftCOk [(0, .sl 0)] [.row false (.ints .i64 a0)] ?_
  refine awp_seq fun K2 hK2 => ?_
  refine awp_reg ftCOk [(0, .sl 0), (7, .v (.bool (decide (20 < (a0.length : Int)))))] [.row false (.ints .i64 a0)] ?_
  refine awp_cond (t := 7) rfl (fun hc3 => ?_) (fun hc3 => ?_)
  · replace h := bite_t h hc3
    refine awp_reg ftCOk [(2, .v (.bool false))] [.row false (.ints .i64 a0)] ?_
    refine awp_ret ?_
    (try simp only [Thn, InBlk, ↓reduceIte, Nat.reduceEqDiff])
    obtain rfl := Option.some.inj h
    refine ⟨by simp, _, [0], (by simp only [go_sem, Nat.reduceBEq, Nat.reduceLT, Nat.reduceAdd, Nat.reduceLeDiff, Nat.reduceSub, Nat.reduceEqDiff, Int.reduceToNat, reduceCtorEq, ↓reduceIte]; exact rfl), ?_, ?_, ?_, ?_⟩
    · first | exact trivial | exact ⟨trivial, trivial⟩ | exact ⟨trivial, trivial, trivial⟩ | exact ⟨trivial, trivial, trivial, trivial⟩ | (simp only [allP, and_true, true_and]; done) | (simp only [allP, and_true, true_and]; omega)
    · simp [selOk, pos]
    · simp
    · first | exact ⟨rfl, rfl⟩ | (simp only [go_sem, Nat.reduceBEq, Nat.reduceLT, Nat.reduceAdd, Nat.reduceLeDiff, Nat.reduceSub, Nat.reduceEqDiff, Int.reduceToNat, reduceCtorEq, ↓reduceIte]; done) | (simp [go_sem, Nat.reduceBEq, Nat.reduceLT, Nat.reduceAdd, Nat.reduceLeDiff, Nat.reduceSub, Nat.reduceEqDiff, Int.reduceToNat, reduceCtorEq, ↓reduceIte]; done) | (simp only [go_sem, Nat.reduceBEq, Nat.reduceLT, Nat.reduceAdd, Nat.reduceLeDiff, Nat.reduceSub, Nat.reduceEqDiff, Int.reduceToNat, reduceCtorEq, ↓reduceIte]; exact ⟨rfl, rfl⟩) | (simp_all [go_sem, Nat.reduceBEq, Nat.reduceLT, Nat.reduceAdd, Nat.reduceLeDiff, Nat.reduceSub, Nat.reduceEqDiff, Int.reduceToNat, reduceCtorEq, ↓reduceIte]; done)
  · replace h := bite_f h hc3
    refine awp_skip ?_
    (try simp only [Thn, InBlk, ↓reduceIte, Nat.reduceEqDiff])
    refine hK2 _ _ ?_
    clear hK2
    refine awp_seq fun K23 hK23 => ?_
    refine awp_reg ftCOk [(8, .sl 0), (9, .v (.int .i64 (a0.length : Int))), (10, .v (.int .i64 0))] [.row false (.ints .i64 a0)] ?_
    refine awp_block ?_
    replace h := bind_some h
    obtain ⟨x42, hx, h⟩ := h
    refine awp_loopL hx (fun (t10 : Int) => [(8, .sl 0), (9, .v (.int .i64 (a0.length : Int))), (10, .v (.int .i64 t10))]) (fun (t10 : Int) => [.row false (.ints .i64 a0)]) (Sum.elim (fun (_ : Unit) => Exit.exit 0) (fun (_ : Unit) => Exit.ret)) (Sum.elim (fun (_ : Unit) => []) (fun (_ : Unit) => [(2, .v (.bool false))])) (Sum.elim (fun (_ : Unit) => [.row false (.ints .i64 a0)]) (fun (_ : Unit) => [.row false (.ints .i64 a0)])) ?_ ?_ ?_ ?_
    · rintro (⟨⟩ | ⟨⟩) hy <;> cases hy
    · clear h hx
      exact Red.auto
    · clear h hx
      rintro t10 r h
      unfold impl_channelValuesFit_b0 at h
      try dsimp only at h
      try dsimp only
      refine awp_reg ftCOk [(8, .sl 0), (9, .v (.int .i64 (a0.length : Int))), (10, .v (.int .i64 t10)), (11, .v (.bool (decide (t10 < (a0.length : Int)))))] [.row false (.ints .i64 a0)] ?_
      refine awp_seq fun K37 hK37 => ?_
      refine awp_cond (t := 11) rfl (fun hc38 => ?_) (fun hc38 => ?_)
      · replace h := bite_t h hc38
        refine awp_skip ?_
        (try simp only [Thn, InBlk, ↓reduceIte, Nat.reduceEqDiff])
        refine hK37 _ _ ?_
        clear hK37
        refine awp_seq fun K40 hK40 => ?_
        refine awp_block ?_
        replace h := chk_some h
        obtain ⟨hp0, h⟩ := h
        refine awp_reg ftCOk [(4, .v (.int .i64 (a0.getD t10.toNat 0))), (8, .sl 0), (9, .v (.int .i64 (a0.length : Int))), (10, .v (.int .i64 t10))] [.row false (.ints .i64 a0)] ?_
        clear hp0
        replace h := bind_some h
        obtain ⟨y, hr0, h⟩ := h
        try dsimp only at h
        refine awp_to [(8, .sl 0), (9, .v (.int .i64 (a0.length : Int))), (10, .v (.int .i64 t10)), (16, .v (.bool (!y)))] [.row false (.ints .i64 a0)] ?_ ?_
        · clear h
          intro K hK
          refine awp_region ftCOk ?_
          simp (maxSteps := 4000000) only [go_sem, Nat.reduceBEq, Nat.reduceLT, Nat.reduceAdd, Nat.reduceLeDiff, Nat.reduceSub, Nat.reduceEqDiff, Int.reduceToNat, reduceCtorEq, ↓reduceIte]
          repeat' (first | refine And.intro ?_ ?_ | intro hg)
          all_goals (try simp (disch := omega) only [wrap_fits])
          all_goals first
            | (refine hK _ _ ?_; exact Red.auto)
            | exact trivial
            | assumption
            | omega
            | exact wrap_fits (by omega) (by omega)
            | (refine wpA_callA (k_impl_numberFits (a0.getD t10.toNat 0) (h := hr0)) [] [] ?_
               rintro x Hc' ⟨rfl, rfl⟩ hlen
               refine vcOps_sound ftCOk ?_
               simp (maxSteps := 4000000) only [go_sem, Nat.reduceBEq, Nat.reduceLT, Nat.reduceAdd, Nat.reduceLeDiff, Nat.reduceSub, Nat.reduceEqDiff, Int.reduceToNat, reduceCtorEq, ↓reduceIte]
               repeat' (first | refine And.intro ?_ ?_ | intro hg)
               all_goals (try simp (disch := omega) only [wrap_fits])
               all_goals first
                 | (refine hK _ _ ?_; exact Red.auto)
                 | exact trivial
                 | assumption
                 | omega
                 | exact wrap_fits (by omega) (by omega)
                 | (simp_all; done)
                 | (simp_all; omega))
            | (simp_all; done)
            | (simp_all; omega)
        · clear hr0
          refine awp_cond (t := 16) rfl (fun hc41 => ?_) (fun hc41 => ?_)
          · replace h := bite_t h hc41
            refine awp_reg ftCOk [(2, .v (.bool false))] [.row false (.ints .i64 a0)] ?_
            refine awp_ret ?_
            (try simp only [Thn, InBlk, ↓reduceIte, Nat.reduceEqDiff])
            obtain rfl := Option.some.inj h
            refine LoopQ.out rfl ?_
            exact Red.auto
          · replace h := bite_f h hc41
            refine awp_skip ?_
            (try simp only [Thn, InBlk, ↓reduceIte, Nat.reduceEqDiff])
            (try simp only [Thn, InBlk, ↓reduceIte, Nat.reduceEqDiff])
            refine hK40 _ _ ?_
            clear hK40
            replace h := chk_some h
            obtain ⟨hp0, h⟩ := h
            refine awp_regE ftCOk [(8, .sl 0), (9, .v (.int .i64 (a0.length : Int))), (10, .v (.int .i64 (t10 + 1)))] [.row false (.ints .i64 a0)] ?_
            clear hp0
            obtain rfl := Option.some.inj h
            refine LoopQ.next ?_
            exact Red.auto
      · replace h := bite_f h hc38
        refine awp_exit ?_
        (try simp only [Thn, InBlk, ↓reduceIte, Nat.reduceEqDiff])
        obtain rfl := Option.some.inj h
        refine LoopQ.out rfl ?_
        exact Red.auto
    · clear hx
      rcases x42 with (⟨⟩ | ⟨⟩)
      · try dsimp only [Sum.elim_inl, Sum.elim_inr] at h
        try dsimp only [Sum.elim_inl, Sum.elim_inr]
        (try simp only [Thn, InBlk, ↓reduceIte, Nat.reduceEqDiff])
        (try simp only [Thn, InBlk, ↓reduceIte, Nat.reduceEqDiff])
        (try simp only [Thn, InBlk, ↓reduceIte, Nat.reduceEqDiff])
        refine hK23 _ _ ?_
        clear hK23
        refine awp_reg ftCOk [(2, .v (.bool true))] [.row false (.ints .i64 a0)] ?_
        refine awp_ret ?_
        (try simp only [Thn, InBlk, ↓reduceIte, Nat.reduceEqDiff])
        obtain rfl := Option.some.inj h
        refine ⟨by simp, _, [0], (by simp only [go_sem, Nat.reduceBEq, Nat.reduceLT, Nat.reduceAdd, Nat.reduceLeDiff, Nat.reduceSub, Nat.reduceEqDiff, Int.reduceToNat, reduceCtorEq, ↓reduceIte]; exact rfl), ?_, ?_, ?_, ?_⟩
        · first | exact trivial | exact ⟨trivial, trivial⟩ | exact ⟨trivial, trivial, trivial⟩ | exact ⟨trivial, trivial, trivial, trivial⟩ | (simp only [allP, and_true, true_and]; done) | (simp only [allP, and_true, true_and]; omega)
        · simp [selOk, pos]
        · simp
        · first | exact ⟨rfl, rfl⟩ | (simp only [go_sem, Nat.reduceBEq, Nat.reduceLT, Nat.reduceAdd, Nat.reduceLeDiff, Nat.reduceSub, Nat.reduceEqDiff, Int.reduceToNat, reduceCtorEq, ↓reduceIte]; done) | (simp [go_sem, Nat.reduceBEq, Nat.reduceLT, Nat.reduceAdd, Nat.reduceLeDiff, Nat.reduceSub, Nat.reduceEqDiff, Int.reduceToNat, reduceCtorEq, ↓reduceIte]; done) | (simp only [go_sem, Nat.reduceBEq, Nat.reduceLT, Nat.reduceAdd, Nat.reduceLeDiff, Nat.reduceSub, Nat.reduceEqDiff, Int.reduceToNat, reduceCtorEq, ↓reduceIte]; exact ⟨rfl, rfl⟩) | (simp_all [go_sem, Nat.reduceBEq, Nat.reduceLT, Nat.reduceAdd, Nat.reduceLeDiff, Nat.reduceSub, Nat.reduceEqDiff, Int.reduceToNat, reduceCtorEq, ↓reduceIte]; done)
      · try dsimp only [Sum.elim_inl, Sum.elim_inr] at h
        try dsimp only [Sum.elim_inl, Sum.elim_inr]
        (try simp only [Thn, InBlk, ↓reduceIte, Nat.reduceEqDiff])
        obtain rfl := Option.some.inj h
        refine ⟨by simp, _, [0], (by simp only [go_sem, Nat.reduceBEq, Nat.reduceLT, Nat.reduceAdd, Nat.reduceLeDiff, Nat.reduceSub, Nat.reduceEqDiff, Int.reduceToNat, reduceCtorEq, ↓reduceIte]; exact rfl), ?_, ?_, ?_, ?_⟩
        · first | exact trivial | exact ⟨trivial, trivial⟩ | exact ⟨trivial, trivial, trivial⟩ | exact ⟨trivial, trivial, trivial, trivial⟩ | (simp only [allP, and_true, true_and]; done) | (simp only [allP, and_true, true_and]; omega)
        · simp [selOk, pos]
        · simp
        · first | exact ⟨rfl, rfl⟩ | (simp only [go_sem, Nat.reduceBEq, Nat.reduceLT, Nat.reduceAdd, Nat.reduceLeDiff, Nat.reduceSub, Nat.reduceEqDiff, Int.reduceToNat, reduceCtorEq, ↓reduceIte]; done) | (simp [go_sem, Nat.reduceBEq, Nat.reduceLT, Nat.reduceAdd, Nat.reduceLeDiff, Nat.reduceSub, Nat.reduceEqDiff, Int.reduceToNat, reduceCtorEq, ↓reduceIte]; done) | (simp only [go_sem, Nat.reduceBEq, Nat.reduceLT, Nat.reduceAdd, Nat.reduceLeDiff, Nat.reduceSub, Nat.reduceEqDiff, Int.reduceToNat, reduceCtorEq, ↓reduceIte]; exact ⟨rfl, rfl⟩) | (simp_all [go_sem, Nat.reduceBEq, Nat.reduceLT, Nat.reduceAdd, Nat.reduceLeDiff, Nat.reduceSub, Nat.reduceEqDiff, Int.reduceToNat, reduceCtorEq, ↓reduceIte]; done)
theorem k_slices_Equal_int_int (a0 : List Int) (a1 : List Int) {r : Bool} (h : slices_Equal_int_int a0 a1 = some r) :
    FnA Try.prog 117 [.sl 0, .sl 1] [.row false (.ints .i64 a0), .row false (.ints .i64 a1)] [] (fun x H => x = .v (.bool r) ∧ H = [.row false (.ints .i64 a0), .row false (.ints .i64 a1)]) := by
  unfold slices_Equal_int_int at h
  refine FnA.of (N := 26) (pin := [0, 1]) (rs := [.tmp 4]) Try.func117 rfl en117 rfl rfl (by simp) (by simp; try omega) ?_
  refine awp_reg ftCOk [(0, .sl 0), (1, .sl 1)] [.row false (.ints .i64 a0), .row false (.ints .i64 a1)] ?_
  refine awp_seq fun K2 hK2 => ?_
  refine awp_reg ftCOk [(0, .sl 0), (1, .sl 1), (10, .v (.bool ((a0.length : Int) != (a1.length : Int))))] [.row false (.ints .i64 a0), .row false (.ints .i64 a1)] ?_
  refine awp_cond (t := 10) rfl (fun hc3 => ?_) (fun hc3 => ?_)
  · replace h := bite_t h hc3
    refine awp_reg ftCOk [(4, .v (.bool false))] [.row false (.ints .i64 a0), .row false (.ints .i64 a1)] ?_
    refine awp_ret ?_
    (try simp only [Thn, InBlk, ↓reduceIte, Nat.reduceEqDiff])
    obtain rfl := Option.some.inj h
    refine ⟨by simp, _, [0, 1], (by simp only [go_sem, Nat.reduceBEq, Nat.reduceLT, Nat.reduceAdd, Nat.reduceLeDiff, Nat.reduceSub, Nat.reduceEqDiff, Int.reduceToNat, reduceCtorEq, ↓reduceIte]; exact rfl), ?_, ?_, ?_, ?_⟩
    · first | exact trivial | exact ⟨trivial, trivial⟩ | exact ⟨trivial, trivial, trivial⟩ | exact ⟨trivial, trivial, trivial, trivial⟩ | (simp only [allP, and_true, true_and]; done) | (simp only [allP, and_true, true_and]; omega)
    · simp [selOk, pos]
    · simp
    · first | exact ⟨rfl, rfl⟩ | (simp only [go_sem, Nat.reduceBEq, Nat.reduceLT, Nat.reduceAdd, Nat.reduceLeDiff, Nat.reduceSub, Nat.reduceEqDiff, Int.reduceToNat, reduceCtorEq, ↓reduceIte]; done) | (simp [go_sem, Nat.reduceBEq, Nat.reduceLT, Nat.reduceAdd, Nat.reduceLeDiff, Nat.reduceSub, Nat.reduceEqDiff, Int.reduceToNat, reduceCtorEq, ↓reduceIte]; done) | (simp only [go_sem, Nat.reduceBEq, Nat.reduceLT, Nat.reduceAdd, Nat.reduceLeDiff, Nat.reduceSub, Nat.reduceEqDiff, Int.reduceToNat, reduceCtorEq, ↓reduceIte]; exact ⟨rfl, rfl⟩) | (simp_all [go_sem, Nat.reduceBEq, Nat.reduceLT, Nat.reduceAdd, Nat.reduceLeDiff, Nat.reduceSub, Nat.reduceEqDiff, Int.reduceToNat, reduceCtorEq, ↓reduceIte]; done)
  · replace h := bite_f h hc3
    refine awp_skip ?_
    (try simp only [Thn, InBlk, ↓reduceIte, Nat.reduceEqDiff])
    refine hK2 _ _ ?_
    clear hK2
    refine awp_seq fun K23 hK23 => ?_
    refine awp_reg ftCOk [(0, .sl 0), (1, .sl 1), (12, .v (.int .i64 (a0.length : Int))), (13, .v (.int .i64 0))] [.row false (.ints .i64 a0), .row false (.ints .i64 a1)] ?_
    refine awp_block ?_
    replace h := bind_some h
    obtain ⟨x42, hx, h⟩ := h
    refine awp_loopL hx (fun (t13 : Int) => [(0, .sl 0), (1, .sl 1), (12, .v (.int .i64 (a0.length : Int))), (13, .v (.int .i64 t13))]) (fun (t13 : Int) => [.row false (.ints .i64 a0), .row false (.ints .i64 a1)]) (Sum.elim (fun (_ : Unit) => Exit.exit 0) (fun (_ : Unit) => Exit.ret)) (Sum.elim (fun (_ : Unit) => []) (fun (_ : Unit) => [(4, .v (.bool false))])) (Sum.elim (fun (_ : Unit) => [.row false (.ints .i64 a0), .row false (.ints .i64 a1)]) (fun (_ : Unit) => [.row false (.ints .i64 a0), .row false (.ints .i64 a1)])) ?_ ?_ ?_ ?_
    · rintro (⟨⟩ | ⟨⟩) hy <;> cases hy
    · clear h hx
      exact Red.auto
    · clear h hx
      rintro t13 r h
      unfold slices_Equal_int_int_b0 at h
      try dsimp only at h
      try dsimp only
      refine awp_reg ftCOk [(0, .sl 0), (1, .sl 1), (12, .v (.int .i64 (a0.length : Int))), (13, .v (.int .i64 t13)), (14, .v (.bool (decide (t13 < (a0.length : Int)))))] [.row false (.ints .i64 a0), .row false (.ints .i64 a1)] ?_
      refine awp_seq fun K37 hK37 => ?_
      refine awp_cond (t := 14) rfl (fun hc38 => ?_) (fun hc38 => ?_)
      · replace h := bite_t h hc38
        refine awp_skip ?_
        (try simp only [Thn, InBlk, ↓reduceIte, Nat.reduceEqDiff])
        refine hK37 _ _ ?_
        clear hK37
        refine awp_seq fun K40 hK40 => ?_
        refine awp_block ?_
        refine awp_reg ftCOk [(0, .sl 0), (1, .sl 1), (5, .v (.int .i64 t13)), (12, .v (.int .i64 (a0.length : Int))), (13, .v (.int .i64 t13))] [.row false (.ints .i64 a0), .row false (.ints .i64 a1)] ?_
        replace h := chk_some h
        obtain ⟨hp0, h⟩ := h
        replace h := chk_some h
        obtain ⟨hp1, h⟩ := h
        refine awp_regQ mixed ftCOk [(0, .sl 0), (1, .sl 1), (12, .v (.int .i64 (a0.length : Int))), (13, .v (.int .i64 t13)), (24, .v (.bool ((a0.getD t13.toNat 0) != (a1.getD t13.toNat 0))))] [.row false (.ints .i64 a0), .row false (.ints .i64 a1)] ?_
        clear hp0 hp1
        refine awp_cond (t := 24) rfl (fun hc41 => ?_) (fun hc41 => ?_)
        · replace h := bite_t h hc41
          refine awp_reg ftCOk [(4, .v (.bool false))] [.row false (.ints .i64 a0), .row false (.ints .i64 a1)] ?_
          refine awp_ret ?_
          (try simp only [Thn, InBlk, ↓reduceIte, Nat.reduceEqDiff])
          obtain rfl := Option.some.inj h
          refine LoopQ.out rfl ?_
          exact Red.auto
        · replace h := bite_f h hc41
          refine awp_skip ?_
          (try simp only [Thn, InBlk, ↓reduceIte, Nat.reduceEqDiff])
          (try simp only [Thn, InBlk, ↓reduceIte, Nat.reduceEqDiff])
          refine hK40 _ _ ?_
          clear hK40
          replace h := chk_some h
          obtain ⟨hp0, h⟩ := h
          refine awp_regE ftCOk [(0, .sl 0), (1, .sl 1), (12, .v (.int .i64 (a0.length : Int))), (13, .v (.int .i64 (t13 + 1)))] [.row false (.ints .i64 a0), .row false (.ints .i64 a1)] ?_
          clear hp0
          obtain rfl := Option.some.inj h
          refine LoopQ.next ?_
          exact Red.auto
      · replace h := bite_f h hc38
        refine awp_exit ?_
        (try simp only [Thn, InBlk, ↓reduceIte, Nat.reduceEqDiff])
        obtain rfl := Option.some.inj h
        refine LoopQ.out rfl ?_
        exact Red.auto
    · clear hx
      rcases x42 with (⟨⟩ | ⟨⟩)
      · try dsimp only [Sum.elim_inl, Sum.elim_inr] at h
        try dsimp only [Sum.elim_inl, Sum.elim_inr]
        (try simp only [Thn, InBlk, ↓reduceIte, Nat.reduceEqDiff])
        (try simp only [Thn, InBlk, ↓reduceIte, Nat.reduceEqDiff])
        (try simp only [Thn, InBlk, ↓reduceIte, Nat.reduceEqDiff])
        refine hK23 _ _ ?_
        clear hK23
        refine awp_reg ftCOk [(4, .v (.bool true))] [.row false (.ints .i64 a0), .row false (.ints .i64 a1)] ?_
        refine awp_ret ?_
        (try simp only [Thn, InBlk, ↓reduceIte, Nat.reduceEqDiff])
        obtain rfl := Option.some.inj h
        refine ⟨by simp, _, [0, 1], (by simp only [go_sem, Nat.reduceBEq, Nat.reduceLT, Nat.reduceAdd, Nat.reduceLeDiff, Nat.reduceSub, Nat.reduceEqDiff, Int.reduceToNat, reduceCtorEq, ↓reduceIte]; exact rfl), ?_, ?_, ?_, ?_⟩
        · first | exact trivial | exact ⟨trivial, trivial⟩ | exact ⟨trivial, trivial, trivial⟩ | exact ⟨trivial, trivial, trivial, trivial⟩ | (simp only [allP, and_true, true_and]; done) | (simp only [allP, and_true, true_and]; omega)
        · simp [selOk, pos]
        · simp
        · first | exact ⟨rfl, rfl⟩ | (simp only [go_sem, Nat.reduceBEq, Nat.reduceLT, Nat.reduceAdd, Nat.reduceLeDiff, Nat.reduceSub, Nat.reduceEqDiff, Int.reduceToNat, reduceCtorEq, ↓reduceIte]; done) | (simp [go_sem, Nat.reduceBEq, Nat.reduceLT, Nat.reduceAdd, Nat.reduceLeDiff, Nat.reduceSub, Nat.reduceEqDiff, Int.reduceToNat, reduceCtorEq, ↓reduceIte]; done) | (simp only [go_sem, Nat.reduceBEq, Nat.reduceLT, Nat.reduceAdd, Nat.reduceLeDiff, Nat.reduceSub, Nat.reduceEqDiff, Int.reduceToNat, reduceCtorEq, ↓reduceIte]; exact ⟨rfl, rfl⟩) | (simp_all [go_sem, Nat.reduceBEq, Nat.reduceLT, Nat.reduceAdd, Nat.reduceLeDiff, Nat.reduceSub, Nat.reduceEqDiff, Int.reduceToNat, reduceCtorEq, ↓reduceIte]; done)
      · try dsimp only [Sum.elim_inl, Sum.elim_inr] at h
        try dsimp only [Sum.elim_inl, Sum.elim_inr]
        (try simp only [Thn, InBlk, ↓reduceIte, Nat.reduceEqDiff])
        obtain rfl := Option.some.inj h
        refine ⟨by simp, _, [0, 1], (by simp only [go_sem, Nat.reduceBEq, Nat.reduceLT, Nat.reduceAdd, Nat.reduceLeDiff, Nat.reduceSub, Nat.reduceEqDiff, Int.reduceToNat, reduceCtorEq, ↓reduceIte]; exact rfl), ?_, ?_, ?_, ?_⟩
        · first | exact trivial | exact ⟨trivial, trivial⟩ | exact ⟨trivial, trivial, trivial⟩ | exact ⟨trivial, trivial, trivial, trivial⟩ | (simp only [allP, and_true, true_and]; done) | (simp only [allP, and_true, true_and]; omega)
        · simp [selOk, pos]
        · simp
        · first | exact ⟨rfl, rfl⟩ | (simp only [go_sem, Nat.reduceBEq, Nat.reduceLT, Nat.reduceAdd, Nat.reduceLeDiff, Nat.reduceSub, Nat.reduceEqDiff, Int.reduceToNat, reduceCtorEq, ↓reduceIte]; done) | (simp [go_sem, Nat.reduceBEq, Nat.reduceLT, Nat.reduceAdd, Nat.reduceLeDiff, Nat.reduceSub, Nat.reduceEqDiff, Int.reduceToNat, reduceCtorEq, ↓reduceIte]; done) | (simp only [go_sem, Nat.reduceBEq, Nat.reduceLT, Nat.reduceAdd, Nat.reduceLeDiff, Nat.reduceSub, Nat.reduceEqDiff, Int.reduceToNat, reduceCtorEq, ↓reduceIte]; exact ⟨rfl, rfl⟩) | (simp_all [go_sem, Nat.reduceBEq, Nat.reduceLT, Nat.reduceAdd, Nat.reduceLeDiff, Nat.reduceSub, Nat.reduceEqDiff, Int.reduceToNat, reduceCtorEq, ↓reduceIte]; done)
theorem k_impl_ChannelValid (a0_0 : List Int) (a0_1 : Int) (a0_2 : List Int) (a0_3 : List (Int × Int)) (a0_4 : List Int) {r : Bool} (h : impl_ChannelValid a0_0 a0_1 a0_2 a0_3 a0_4 = some r) :
    FnA Try.prog 74 [.agg [.sl 0, .v (.int .i64 a0_1), .sl 1, .sl 2, .sl 3]] [.row false (.ints .i64 a0_0), .row false (.ints .i64 a0_2), .row false (.pairs a0_3), .row false (.ints .i64 a0_4)] [] (fun x H => x = .v (.bool r) ∧ H = [.row false (.ints .i64 a0_0), .row false (.ints .i64 a0_2), .row false (.pairs a0_3), .row false (.ints .i64 a0_4)]) := by
  unfold impl_ChannelValid at h
  refine FnA.of (N := 100) (pin := [0, 1, 2, 3]) (rs := [.tmp 2]) Try.func74 rfl en74 rfl rfl (by simp) (by simp; try omega) ?_
  refine awp_reg ftCOk [(1, .pp 4 0)] [.row false (.ints .i64 a0_0), .row false (.ints .i64 a0_2), .row false (.pairs a0_3), .row false (.ints .i64 a0_4), .box [.sl 0, .v (.int .i64 a0_1), .sl 1, .sl 2, .sl 3]] ?_
  refine awp_freeze 1 (by rfl) (by rfl) (by exact rfl) ?_
  refine awp_seq fun K2 hK2 => ?_
  replace h := bind_some h
  obtain ⟨y, hr0, h⟩ := h
  try dsimp only at h
  refine awp_to [(1, .pp 4 0), (19, .v (.bool ((!y) || (decide ((a0_0.length : Int) < (a0_2.length : Int))))))] [.row false (.ints .i64 a0_0), .row false (.ints .i64 a0_2), .row false (.pairs a0_3), .row false (.ints .i64 a0_4), .rbox [.sl 0, .v (.int .i64 a0_1), .sl 1, .sl 2, .sl 3]] ?_ ?_
  · clear h
    intro K hK
    refine awp_region ftCOk ?_
    simp (maxSteps := 4000000) only [go_sem, Nat.reduceBEq, Nat.reduceLT, Nat.reduceAdd, Nat.reduceLeDiff, Nat.reduceSub, Nat.reduceEqDiff, Int.reduceToNat, reduceCtorEq, ↓reduceIte]
    repeat' (first | refine And.intro ?_ ?_ | intro hg)
    all_goals (try simp (disch := omega) only [wrap_fits])
    all_goals first
      | (refine hK _ _ ?_; exact Red.auto)
      | exact trivial
      | assumption
      | omega
      | exact wrap_fits (by omega) (by omega)
      | (refine wpA_callA (k_impl_channelValuesFit a0_0 (h := hr0)) [0] [] ?_
         rintro x Hc' ⟨rfl, rfl⟩ hlen
         refine vcOps_sound ftCOk ?_
         simp (maxSteps := 4000000) only [go_sem, Nat.reduceBEq, Nat.reduceLT, Nat.reduceAdd, Nat.reduceLeDiff, Nat.reduceSub, Nat.reduceEqDiff, Int.reduceToNat, reduceCtorEq, ↓reduceIte]
         repeat' (first | refine And.intro ?_ ?_ | intro hg)
         all_goals (try simp (disch := omega) only [wrap_fits])
         all_goals first
           | (refine hK _ _ ?_; exact Red.auto)
           | exact trivial
           | assumption
           | omega
           | exact wrap_fits (by omega) (by omega)
           | (simp_all; done)
           | (simp_all; omega))
      | (simp_all; done)
      | (simp_all; omega)
  · clear hr0
    refine awp_cond (t := 19) rfl (fun hc3 => ?_) (fun hc3 => ?_)
    · replace h := bite_t h hc3
      refine awp_reg ftCOk [(2, .v (.bool false))] [.row false (.ints .i64 a0_0), .row false (.ints .i64 a0_2), .row false (.pairs a0_3), .row false (.ints .i64 a0_4), .rbox [.sl 0, .v (.int .i64 a0_1), .sl 1, .sl 2, .sl 3]] ?_
      refine awp_ret ?_
      (try simp only [Thn, InBlk, ↓reduceIte, Nat.reduceEqDiff])
      obtain rfl := Option.some.inj h
      refine ⟨by simp, _, [0, 1, 2, 3], (by simp only [go_sem, Nat.reduceBEq, Nat.reduceLT, Nat.reduceAdd, Nat.reduceLeDiff, Nat.reduceSub, Nat.reduceEqDiff, Int.reduceToNat, reduceCtorEq, ↓reduceIte]; exact rfl), ?_, ?_, ?_, ?_⟩
      · first | exact trivial | exact ⟨trivial, trivial⟩ | exact ⟨trivial, trivial, trivial⟩ | exact ⟨trivial, trivial, trivial, trivial⟩ | (simp only [allP, and_true, true_and]; done) | (simp only [allP, and_true, true_and]; omega)
      · simp [selOk, pos]
      · simp
      · first | exact ⟨rfl, rfl⟩ | (simp only [go_sem, Nat.reduceBEq, Nat.reduceLT, Nat.reduceAdd, Nat.reduceLeDiff, Nat.reduceSub, Nat.reduceEqDiff, Int.reduceToNat, reduceCtorEq, ↓reduceIte]; done) | (simp [go_sem, Nat.reduceBEq, Nat.reduceLT, Nat.reduceAdd, Nat.reduceLeDiff, Nat.reduceSub, Nat.reduceEqDiff, Int.reduceToNat, reduceCtorEq, ↓reduceIte]; done) | (simp only [go_sem, Nat.reduceBEq, Nat.reduceLT, Nat.reduceAdd, Nat.reduceLeDiff, Nat.reduceSub, Nat.reduceEqDiff, Int.reduceToNat, reduceCtorEq, ↓reduceIte]; exact ⟨rfl, rfl⟩) | (simp_all [go_sem, Nat.reduceBEq, Nat.reduceLT, Nat.reduceAdd, Nat.reduceLeDiff, Nat.reduceSub, Nat.reduceEqDiff, Int.reduceToNat, reduceCtorEq, ↓reduceIte]; done)
    · replace h := bite_f h hc3
      refine awp_skip ?_
      (try simp only [Thn, InBlk, ↓reduceIte, Nat.reduceEqDiff])
      refine hK2 _ _ ?_
      clear hK2
      refine awp_seq fun K5 hK5 => ?_
      replace h := chk_some h
      obtain ⟨hp0, h⟩ := h
      replace h := bind_some h
      obtain ⟨y_1, hr1, h⟩ := h
      try dsimp only at h
      refine awp_to [(1, .pp 4 0), (42, .v (.bool (((!y_1) || (decide (a0_1 < 0))) || (decide ((a0_2.length : Int) < a0_1)))))] [.row false (.ints .i64 a0_0), .row false (.ints .i64 a0_2), .row false (.pairs a0_3), .row false (.ints .i64 a0_4), .rbox [.sl 0, .v (.int .i64 a0_1), .sl 1, .sl 2, .sl 3], .row false (.ints .i64 ((a0_0.take ((a0_2.length : Int).toNat)).drop 0))] ?_ ?_
      · clear h
        intro K hK
        refine awp_drawT mixed ftCOk (.free 0 (.free 2 (.free 4 (.free 1 (.free 3 (.one 5 (.one 6 (.one 7 (.one 8 (.one 9 (.one 10 (.one 11 (.one 12 (.one 13 (.one 14 (.one 15 (.free 16 (.free 18 (.free 17 (.one 19 (.one 20 (.one 21 (.one 22 .fin))))))))))))))))))))))) (by kernel_rfl) (by simp) ?_
        simp (maxSteps := 4000000) only [go_sem, Nat.reduceBEq, Nat.reduceLT, Nat.reduceAdd, Nat.reduceLeDiff, Nat.reduceSub, Nat.reduceEqDiff, Int.reduceToNat, reduceCtorEq, ↓reduceIte]
        repeat' (first | refine And.intro ?_ ?_ | intro hg)
        all_goals (try simp (disch := omega) only [wrap_fits])
        all_goals first
          | (refine hK _ _ ?_; exact Red.auto)
          | exact trivial
          | assumption
          | omega
          | exact wrap_fits (by omega) (by omega)
          | (refine OpK_callA (k_slices_Equal_int_int a0_2 ((a0_0.take ((a0_2.length : Int).toNat)).drop 0) (h := hr1)) [1, 5] [] ?_
             rintro x Hc' ⟨rfl, rfl⟩ hlen
             simp (maxSteps := 4000000) only [go_sem, Nat.reduceBEq, Nat.reduceLT, Nat.reduceAdd, Nat.reduceLeDiff, Nat.reduceSub, Nat.reduceEqDiff, Int.reduceToNat, reduceCtorEq, ↓reduceIte]
             repeat' (first | refine And.intro ?_ ?_ | intro hg)
             all_goals (try simp (disch := omega) only [wrap_fits])
             all_goals first
               | (refine hK _ _ ?_; exact Red.auto)
               | exact trivial
               | assumption
               | omega
               | exact wrap_fits (by omega) (by omega)
               | (simp (maxSteps := 4000000) only [go_sem, Nat.reduceBEq, Nat.reduceLT, Nat.reduceAdd, Nat.reduceLeDiff, Nat.reduceSub, Nat.reduceEqDiff, Int.reduceToNat, reduceCtorEq, ↓reduceIte]
                  repeat' (first | refine And.intro ?_ ?_ | intro hg)
                  all_goals (try simp (disch := omega) only [wrap_fits])
                  all_goals first | (refine hK _ _ ?_; exact Red.auto) | exact trivial | assumption | omega | exact wrap_fits (by omega) (by omega))
               | (simp_all; done)
               | (simp_all; omega))
          | (simp_all; done)
          | (simp_all; omega)
      · clear hp0 hr1
        refine awp_cond (t := 42) rfl (fun hc6 => ?_) (fun hc6 => ?_)
        · replace h := bite_t h hc6
          refine awp_reg ftCOk [(2, .v (.bool false))] [.row false (.ints .i64 a0_0), .row false (.ints .i64 a0_2), .row false (.pairs a0_3), .row false (.ints .i64 a0_4), .rbox [.sl 0, .v (.int .i64 a0_1), .sl 1, .sl 2, .sl 3], .row false (.ints .i64 ((a0_0.take ((a0_2.length : Int).toNat)).drop 0))] ?_
          refine awp_ret ?_
          (try simp only [Thn, InBlk, ↓reduceIte, Nat.reduceEqDiff])
          obtain rfl := Option.some.inj h
          refine ⟨by simp, _, [0, 1, 2, 3], (by simp only [go_sem, Nat.reduceBEq, Nat.reduceLT, Nat.reduceAdd, Nat.reduceLeDiff, Nat.reduceSub, Nat.reduceEqDiff, Int.reduceToNat, reduceCtorEq, ↓reduceIte]; exact rfl), ?_, ?_, ?_, ?_⟩
          · first | exact trivial | exact ⟨trivial, trivial⟩ | exact ⟨trivial, trivial, trivial⟩ | exact ⟨trivial, trivial, trivial, trivial⟩ | (simp only [allP, and_true, true_and]; done) | (simp only [allP, and_true, true_and]; omega)
          · simp [selOk, pos]
          · simp
          · first | exact ⟨rfl, rfl⟩ | (simp only [go_sem, Nat.reduceBEq, Nat.reduceLT, Nat.reduceAdd, Nat.reduceLeDiff, Nat.reduceSub, Nat.reduceEqDiff, Int.reduceToNat, reduceCtorEq, ↓reduceIte]; done) | (simp [go_sem, Nat.reduceBEq, Nat.reduceLT, Nat.reduceAdd, Nat.reduceLeDiff, Nat.reduceSub, Nat.reduceEqDiff, Int.reduceToNat, reduceCtorEq, ↓reduceIte]; done) | (simp only [go_sem, Nat.reduceBEq, Nat.reduceLT, Nat.reduceAdd, Nat.reduceLeDiff, Nat.reduceSub, Nat.reduceEqDiff, Int.reduceToNat, reduceCtorEq, ↓reduceIte]; exact ⟨rfl, rfl⟩) | (simp_all [go_sem, Nat.reduceBEq, Nat.reduceLT, Nat.reduceAdd, Nat.reduceLeDiff, Nat.reduceSub, Nat.reduceEqDiff, Int.reduceToNat, reduceCtorEq, ↓reduceIte]; done)
        · replace h := bite_f h hc6
          refine awp_skip ?_
          (try simp only [Thn, InBlk, ↓reduceIte, Nat.reduceEqDiff])
          refine hK5 _ _ ?_
          clear hK5
          refine awp_seq fun K8 hK8 => ?_
          refine awp_reg ftCOk [(1, .pp 4 0), (52, .v (.bool ((decide (100 < (a0_3.length : Int))) || (decide (100 < (a0_4.length : Int))))))] [.row false (.ints .i64 a0_0), .row false (.ints .i64 a0_2), .row false (.pairs a0_3), .row false (.ints .i64 a0_4), .rbox [.sl 0, .v (.int .i64 a0_1), .sl 1, .sl 2, .sl 3], .row false (.ints .i64 ((a0_0.take ((a0_2.length : Int).toNat)).drop 0))] ?_
          refine awp_cond (t := 52) rfl (fun hc9 => ?_) (fun hc9 => ?_)
          · replace h := bite_t h hc9
            refine awp_reg ftCOk [(2, .v (.bool false))] [.row false (.ints .i64 a0_0), .row false (.ints .i64 a0_2), .row false (.pairs a0_3), .row false (.ints .i64 a0_4), .rbox [.sl 0, .v (.int .i64 a0_1), .sl 1, .sl 2, .sl 3], .row false (.ints .i64 ((a0_0.take ((a0_2.length : Int).toNat)).drop 0))] ?_
            refine awp_ret ?_
            (try simp only [Thn, InBlk, ↓reduceIte, Nat.reduceEqDiff])
            obtain rfl := Option.some.inj h
            refine ⟨by simp, _, [0, 1, 2, 3], (by simp only [go_sem, Nat.reduceBEq, Nat.reduceLT, Nat.reduceAdd, Nat.reduceLeDiff, Nat.reduceSub, Nat.reduceEqDiff, Int.reduceToNat, reduceCtorEq, ↓reduceIte]; exact rfl), ?_, ?_, ?_, ?_⟩
            · first | exact trivial | exact ⟨trivial, trivial⟩ | exact ⟨trivial, trivial, trivial⟩ | exact ⟨trivial, trivial, trivial, trivial⟩ | (simp only [allP, and_true, true_and]; done) | (simp only [allP, and_true, true_and]; omega)
            · simp [selOk, pos]
            · simp
            · first | exact ⟨rfl, rfl⟩ | (simp only [go_sem, Nat.reduceBEq, Nat.reduceLT, Nat.reduceAdd, Nat.reduceLeDiff, Nat.reduceSub, Nat.reduceEqDiff, Int.reduceToNat, reduceCtorEq, ↓reduceIte]; done) | (simp [go_sem, Nat.reduceBEq, Nat.reduceLT, Nat.reduceAdd, Nat.reduceLeDiff, Nat.reduceSub, Nat.reduceEqDiff, Int.reduceToNat, reduceCtorEq, ↓reduceIte]; done) | (simp only [go_sem, Nat.reduceBEq, Nat.reduceLT, Nat.reduceAdd, Nat.reduceLeDiff, Nat.reduceSub, Nat.reduceEqDiff, Int.reduceToNat, reduceCtorEq, ↓reduceIte]; exact ⟨rfl, rfl⟩) | (simp_all [go_sem, Nat.reduceBEq, Nat.reduceLT, Nat.reduceAdd, Nat.reduceLeDiff, Nat.reduceSub, Nat.reduceEqDiff, Int.reduceToNat, reduceCtorEq, ↓reduceIte]; done)
          · replace h := bite_f h hc9
            refine awp_skip ?_
            (try simp only [Thn, InBlk, ↓reduceIte, Nat.reduceEqDiff])
            refine hK8 _ _ ?_
            clear hK8
            refine awp_seq fun K29 hK29 => ?_
            refine awp_reg ftCOk [(1, .pp 4 0), (54, .sl 2), (55, .v (.int .i64 (a0_3.length : Int))), (56, .v (.int .i64 0))] [.row false (.ints .i64 a0_0), .row false (.ints .i64 a0_2), .row false (.pairs a0_3), .row false (.ints .i64 a0_4), .rbox [.sl 0, .v (.int .i64 a0_1), .sl 1, .sl 2, .sl 3], .row false (.ints .i64 ((a0_0.take ((a0_2.length : Int).toNat)).drop 0))] ?_
            refine awp_block ?_
            replace h := bind_some h
            obtain ⟨x48, hx, h⟩ := h
            refine awp_loopL hx (fun (t56 : Int) => [(1, .pp 4 0), (54, .sl 2), (55, .v (.int .i64 (a0_3.length : Int))), (56, .v (.int .i64 t56))]) (fun (t56 : Int) => [.row false (.ints .i64 a0_0), .row false (.ints .i64 a0_2), .row false (.pairs a0_3), .row false (.ints .i64 a0_4), .rbox [.sl 0, .v (.int .i64 a0_1), .sl 1, .sl 2, .sl 3]]) (Sum.elim (fun (_ : Unit) => Exit.exit 0) (fun (_ : Unit) => Exit.ret)) (Sum.elim (fun (_ : Unit) => [(1, .pp 4 0)]) (fun (_ : Unit) => [(2, .v (.bool false))])) (Sum.elim (fun (_ : Unit) => [.row false (.ints .i64 a0_0), .row false (.ints .i64 a0_2), .row false (.pairs a0_3), .row false (.ints .i64 a0_4), .rbox [.sl 0, .v (.int .i64 a0_1), .sl 1, .sl 2, .sl 3]]) (fun (_ : Unit) => [.row false (.ints .i64 a0_0), .row false (.ints .i64 a0_2), .row false (.pairs a0_3), .row false (.ints .i64 a0_4)])) ?_ ?_ ?_ ?_
            · rintro (⟨⟩ | ⟨⟩) hy <;> cases hy
            · clear h hx
              exact Red.selA [0, 1, 2, 3, 4] Red.auto
            · clear h hx
              rintro t56 r h
              unfold impl_ChannelValid_b0 at h
              try dsimp only at h
              try dsimp only
              refine awp_reg ftCOk [(1, .pp 4 0), (54, .sl 2), (55, .v (.int .i64 (a0_3.length : Int))), (56, .v (.int .i64 t56)), (57, .v (.bool (decide (t56 < (a0_3.length : Int)))))] [.row false (.ints .i64 a0_0), .row false (.ints .i64 a0_2), .row false (.pairs a0_3), .row false (.ints .i64 a0_4), .rbox [.sl 0, .v (.int .i64 a0_1), .sl 1, .sl 2, .sl 3]] ?_
              refine awp_seq fun K43 hK43 => ?_
              refine awp_cond (t := 57) rfl (fun hc44 => ?_) (fun hc44 => ?_)
              · replace h := bite_t h hc44
                refine awp_skip ?_
                (try simp only [Thn, InBlk, ↓reduceIte, Nat.reduceEqDiff])
                refine hK43 _ _ ?_
                clear hK43
                refine awp_seq fun K46 hK46 => ?_
                refine awp_block ?_
                replace h := chk_some h
                obtain ⟨hp0, h⟩ := h
                refine awp_reg ftCOk [(1, .pp 4 0), (4, .pp 5 0), (54, .sl 2), (55, .v (.int .i64 (a0_3.length : Int))), (56, .v (.int .i64 t56))] [.row false (.ints .i64 a0_0), .row false (.ints .i64 a0_2), .row false (.pairs a0_3), .row false (.ints .i64 a0_4), .rbox [.sl 0, .v (.int .i64 a0_1), .sl 1, .sl 2, .sl 3], .box [.v (.int .i64 ((a0_3.getD t56.toNat (0, 0)).1)), .v (.int .i64 ((a0_3.getD t56.toNat (0, 0)).2))]] ?_
                clear hp0
                replace h := chk_some h
                obtain ⟨hp0, h⟩ := h
                refine awp_to [(1, .pp 4 0), (54, .sl 2), (55, .v (.int .i64 (a0_3.length : Int))), (56, .v (.int .i64 t56)), (81, .v (.bool (((decide ((a0_3.getD t56.toNat (0, 0)).1 < 0)) || (decide ((a0_0.length : Int) ≤ (a0_3.getD t56.toNat (0, 0)).1))) || ((a0_3.getD t56.toNat (0, 0)).2 != (a0_0.getD (((a0_3.getD t56.toNat (0, 0)).1).toNat) 0)))))] [.row false (.ints .i64 a0_0), .row false (.ints .i64 a0_2), .row false (.pairs a0_3), .row false (.ints .i64 a0_4), .rbox [.sl 0, .v (.int .i64 a0_1), .sl 1, .sl 2, .sl 3], .box [.v (.int .i64 ((a0_3.getD t56.toNat (0, 0)).1)), .v (.int .i64 ((a0_3.getD t56.toNat (0, 0)).2))]] ?_ ?_
                · clear h
                  intro K hK
                  refine awp_quietg mixed ftCOk (by kernel_rfl) ?_
                  simp (maxSteps := 4000000) only [go_sem, Nat.reduceBEq, Nat.reduceLT, Nat.reduceAdd, Nat.reduceLeDiff, Nat.reduceSub, Nat.reduceEqDiff, Int.reduceToNat, reduceCtorEq, ↓reduceIte]
                  repeat' (first | refine And.intro ?_ ?_ | intro hg)
                  all_goals (try simp (disch := omega) only [wrap_fits])
                  all_goals first
                    | (refine hK _ _ ?_; exact Red.auto)
                    | exact trivial
                    | assumption
                    | omega
                    | exact wrap_fits (by omega) (by omega)
                    | (have hq := hp0 (by first | assumption | (simp only [*, Bool.false_or, Bool.true_or, Bool.or_false, Bool.or_true, Bool.false_and, Bool.true_and, Bool.and_false, Bool.and_true, Bool.not_true, Bool.not_false, beq_self_eq_true]; done) | (simp_all; done)); omega)
                    | (simp_all; done)
                    | (simp_all; omega)
                · clear hp0
                  refine awp_cond (t := 81) rfl (fun hc47 => ?_) (fun hc47 => ?_)
                  · replace h := bite_t h hc47
                    refine awp_reg ftCOk [(2, .v (.bool false))] [.row false (.ints .i64 a0_0), .row false (.ints .i64 a0_2), .row false (.pairs a0_3), .row false (.ints .i64 a0_4), .rbox [.sl 0, .v (.int .i64 a0_1), .sl 1, .sl 2, .sl 3], .box [.v (.int .i64 ((a0_3.getD t56.toNat (0, 0)).1)), .v (.int .i64 ((a0_3.getD t56.toNat (0, 0)).2))]] ?_
                    refine awp_ret ?_
                    (try simp only [Thn, InBlk, ↓reduceIte, Nat.reduceEqDiff])
                    obtain rfl := Option.some.inj h
                    refine LoopQ.out rfl ?_
                    exact Red.selA [0, 1, 2, 3] Red.auto
                  · replace h := bite_f h hc47
                    refine awp_skip ?_
                    (try simp only [Thn, InBlk, ↓reduceIte, Nat.reduceEqDiff])
                    (try simp only [Thn, InBlk, ↓reduceIte, Nat.reduceEqDiff])
                    refine hK46 _ _ ?_
                    clear hK46
                    replace h := chk_some h
                    obtain ⟨hp0, h⟩ := h
                    refine awp_regE ftCOk [(1, .pp 4 0), (54, .sl 2), (55, .v (.int .i64 (a0_3.length : Int))), (56, .v (.int .i64 (t56 + 1)))] [.row false (.ints .i64 a0_0), .row false (.ints .i64 a0_2), .row false (.pairs a0_3), .row false (.ints .i64 a0_4), .rbox [.sl 0, .v (.int .i64 a0_1), .sl 1, .sl 2, .sl 3], .box [.v (.int .i64 ((a0_3.getD t56.toNat (0, 0)).1)), .v (.int .i64 ((a0_3.getD t56.toNat (0, 0)).2))]] ?_
                    clear hp0
                    obtain rfl := Option.some.inj h
                    refine LoopQ.next ?_
                    exact Red.selA [0, 1, 2, 3, 4] Red.auto
              · replace h := bite_f h hc44
                refine awp_exit ?_
                (try simp only [Thn, InBlk, ↓reduceIte, Nat.reduceEqDiff])
                obtain rfl := Option.some.inj h
                refine LoopQ.out rfl ?_
                exact Red.auto
            · clear hx
              rcases x48 with (⟨⟩ | ⟨⟩)
              · try dsimp only [Sum.elim_inl, Sum.elim_inr] at h
                try dsimp only [Sum.elim_inl, Sum.elim_inr]
                (try simp only [Thn, InBlk, ↓reduceIte, Nat.reduceEqDiff])
                (try simp only [Thn, InBlk, ↓reduceIte, Nat.reduceEqDiff])
                (try simp only [Thn, InBlk, ↓reduceIte, Nat.reduceEqDiff])
                refine hK29 _ _ ?_
                clear hK29
                refine awp_seq fun K68 hK68 => ?_
                refine awp_reg ftCOk [(1, .pp 4 0), (84, .sl 3), (85, .v (.int .i64 (a0_4.length : Int))), (86, .v (.int .i64 0))] [.row false (.ints .i64 a0_0), .row false (.ints .i64 a0_2), .row false (.pairs a0_3), .row false (.ints .i64 a0_4), .rbox [.sl 0, .v (.int .i64 a0_1), .sl 1, .sl 2, .sl 3]] ?_
                refine awp_block ?_
                replace h := bind_some h
                obtain ⟨x87, hx, h⟩ := h
                refine awp_loopL hx (fun (t86 : Int) => [(1, .pp 4 0), (84, .sl 3), (85, .v (.int .i64 (a0_4.length : Int))), (86, .v (.int .i64 t86))]) (fun (t86 : Int) => [.row false (.ints .i64 a0_0), .row false (.ints .i64 a0_2), .row false (.pairs a0_3), .row false (.ints .i64 a0_4), .rbox [.sl 0, .v (.int .i64 a0_1), .sl 1, .sl 2, .sl 3]]) (Sum.elim (fun (_ : Unit) => Exit.exit 2) (fun (_ : Unit) => Exit.ret)) (Sum.elim (fun (_ : Unit) => []) (fun (_ : Unit) => [(2, .v (.bool false))])) (Sum.elim (fun (_ : Unit) => [.row false (.ints .i64 a0_0), .row false (.ints .i64 a0_2), .row false (.pairs a0_3), .row false (.ints .i64 a0_4)]) (fun (_ : Unit) => [.row false (.ints .i64 a0_0), .row false (.ints .i64 a0_2), .row false (.pairs a0_3), .row false (.ints .i64 a0_4)])) ?_ ?_ ?_ ?_
                · rintro (⟨⟩ | ⟨⟩) hy <;> cases hy
                · clear h hx
                  exact Red.auto
                · clear h hx
                  rintro t86 r h
                  unfold impl_ChannelValid_b1 at h
                  try dsimp only at h
                  try dsimp only
                  refine awp_reg ftCOk [(1, .pp 4 0), (84, .sl 3), (85, .v (.int .i64 (a0_4.length : Int))), (86, .v (.int .i64 t86)), (87, .v (.bool (decide (t86 < (a0_4.length : Int)))))] [.row false (.ints .i64 a0_0), .row false (.ints .i64 a0_2), .row false (.pairs a0_3), .row false (.ints .i64 a0_4), .rbox [.sl 0, .v (.int .i64 a0_1), .sl 1, .sl 2, .sl 3]] ?_
                  refine awp_seq fun K82 hK82 => ?_
                  refine awp_cond (t := 87) rfl (fun hc83 => ?_) (fun hc83 => ?_)
                  · replace h := bite_t h hc83
                    refine awp_skip ?_
                    (try simp only [Thn, InBlk, ↓reduceIte, Nat.reduceEqDiff])
                    refine hK82 _ _ ?_
                    clear hK82
                    refine awp_seq fun K85 hK85 => ?_
                    refine awp_block ?_
                    replace h := chk_some h
                    obtain ⟨hp0, h⟩ := h
                    refine awp_reg ftCOk [(1, .pp 4 0), (6, .v (.int .i64 (a0_4.getD t86.toNat 0))), (84, .sl 3), (85, .v (.int .i64 (a0_4.length : Int))), (86, .v (.int .i64 t86))] [.row false (.ints .i64 a0_0), .row false (.ints .i64 a0_2), .row false (.pairs a0_3), .row false (.ints .i64 a0_4), .rbox [.sl 0, .v (.int .i64 a0_1), .sl 1, .sl 2, .sl 3]] ?_
                    clear hp0
                    refine awp_reg ftCOk [(1, .pp 4 0), (84, .sl 3), (85, .v (.int .i64 (a0_4.length : Int))), (86, .v (.int .i64 t86)), (98, .v (.bool ((decide ((a0_4.getD t86.toNat 0) < 0)) || (decide ((a0_2.length : Int) < (a0_4.getD t86.toNat 0))))))] [.row false (.ints .i64 a0_0), .row false (.ints .i64 a0_2), .row false (.pairs a0_3), .row false (.ints .i64 a0_4), .rbox [.sl 0, .v (.int .i64 a0_1), .sl 1, .sl 2, .sl 3]] ?_
                    refine awp_cond (t := 98) rfl (fun hc86 => ?_) (fun hc86 => ?_)
                    · replace h := bite_t h hc86
                      refine awp_reg ftCOk [(2, .v (.bool false))] [.row false (.ints .i64 a0_0), .row false (.ints .i64 a0_2), .row false (.pairs a0_3), .row false (.ints .i64 a0_4), .rbox [.sl 0, .v (.int .i64 a0_1), .sl 1, .sl 2, .sl 3]] ?_
                      refine awp_ret ?_
                      (try simp only [Thn, InBlk, ↓reduceIte, Nat.reduceEqDiff])
                      obtain rfl := Option.some.inj h
                      refine LoopQ.out rfl ?_
                      exact Red.selA [0, 1, 2, 3] Red.auto
                    · replace h := bite_f h hc86
                      refine awp_skip ?_
                      (try simp only [Thn, InBlk, ↓reduceIte, Nat.reduceEqDiff])
                      (try simp only [Thn, InBlk, ↓reduceIte, Nat.reduceEqDiff])
                      refine hK85 _ _ ?_
                      clear hK85
                      replace h := chk_some h
                      obtain ⟨hp0, h⟩ := h
                      refine awp_regE ftCOk [(1, .pp 4 0), (84, .sl 3), (85, .v (.int .i64 (a0_4.length : Int))), (86, .v (.int .i64 (t86 + 1)))] [.row false (.ints .i64 a0_0), .row false (.ints .i64 a0_2), .row false (.pairs a0_3), .row false (.ints .i64 a0_4), .rbox [.sl 0, .v (.int .i64 a0_1), .sl 1, .sl 2, .sl 3]] ?_
                      clear hp0
                      obtain rfl := Option.some.inj h
                      refine LoopQ.next ?_
                      exact Red.auto
                  · replace h := bite_f h hc83
                    refine awp_exit ?_
                    (try simp only [Thn, InBlk, ↓reduceIte, Nat.reduceEqDiff])
                    obtain rfl := Option.some.inj h
                    refine LoopQ.out rfl ?_
                    exact Red.selA [0, 1, 2, 3] Red.auto
                · clear hx
                  rcases x87 with (⟨⟩ | ⟨⟩)
                  · try dsimp only [Sum.elim_inl, Sum.elim_inr] at h
                    try dsimp only [Sum.elim_inl, Sum.elim_inr]
                    (try simp only [Thn, InBlk, ↓reduceIte, Nat.reduceEqDiff])
                    (try simp only [Thn, InBlk, ↓reduceIte, Nat.reduceEqDiff])
                    (try simp only [Thn, InBlk, ↓reduceIte, Nat.reduceEqDiff])
                    refine hK68 _ _ ?_
                    clear hK68
                    refine awp_reg ftCOk [(2, .v (.bool true))] [.row false (.ints .i64 a0_0), .row false (.ints .i64 a0_2), .row false (.pairs a0_3), .row false (.ints .i64 a0_4)] ?_
                    refine awp_ret ?_
                    (try simp only [Thn, InBlk, ↓reduceIte, Nat.reduceEqDiff])
                    obtain rfl := Option.some.inj h
                    refine ⟨by simp, _, [0, 1, 2, 3], (by simp only [go_sem, Nat.reduceBEq, Nat.reduceLT, Nat.reduceAdd, Nat.reduceLeDiff, Nat.reduceSub, Nat.reduceEqDiff, Int.reduceToNat, reduceCtorEq, ↓reduceIte]; exact rfl), ?_, ?_, ?_, ?_⟩
                    · first | exact trivial | exact ⟨trivial, trivial⟩ | exact ⟨trivial, trivial, trivial⟩ | exact ⟨trivial, trivial, trivial, trivial⟩ | (simp only [allP, and_true, true_and]; done) | (simp only [allP, and_true, true_and]; omega)
                    · simp [selOk, pos]
                    · simp
                    · first | exact ⟨rfl, rfl⟩ | (simp only [go_sem, Nat.reduceBEq, Nat.reduceLT, Nat.reduceAdd, Nat.reduceLeDiff, Nat.reduceSub, Nat.reduceEqDiff, Int.reduceToNat, reduceCtorEq, ↓reduceIte]; done) | (simp [go_sem, Nat.reduceBEq, Nat.reduceLT, Nat.reduceAdd, Nat.reduceLeDiff, Nat.reduceSub, Nat.reduceEqDiff, Int.reduceToNat, reduceCtorEq, ↓reduceIte]; done) | (simp only [go_sem, Nat.reduceBEq, Nat.reduceLT, Nat.reduceAdd, Nat.reduceLeDiff, Nat.reduceSub, Nat.reduceEqDiff, Int.reduceToNat, reduceCtorEq, ↓reduceIte]; exact ⟨rfl, rfl⟩) | (simp_all [go_sem, Nat.reduceBEq, Nat.reduceLT, Nat.reduceAdd, Nat.reduceLeDiff, Nat.reduceSub, Nat.reduceEqDiff, Int.reduceToNat, reduceCtorEq, ↓reduceIte]; done)
                  · try dsimp only [Sum.elim_inl, Sum.elim_inr] at h
                    try dsimp only [Sum.elim_inl, Sum.elim_inr]
                    (try simp only [Thn, InBlk, ↓reduceIte, Nat.reduceEqDiff])
                    obtain rfl := Option.some.inj h
                    refine ⟨by simp, _, [0, 1, 2, 3], (by simp only [go_sem, Nat.reduceBEq, Nat.reduceLT, Nat.reduceAdd, Nat.reduceLeDiff, Nat.reduceSub, Nat.reduceEqDiff, Int.reduceToNat, reduceCtorEq, ↓reduceIte]; exact rfl), ?_, ?_, ?_, ?_⟩
                    · first | exact trivial | exact ⟨trivial, trivial⟩ | exact ⟨trivial, trivial, trivial⟩ | exact ⟨trivial, trivial, trivial, trivial⟩ | (simp only [allP, and_true, true_and]; done) | (simp only [allP, and_true, true_and]; omega)
                    · simp [selOk, pos]
                    · simp
                    · first | exact ⟨rfl, rfl⟩ | (simp only [go_sem, Nat.reduceBEq, Nat.reduceLT, Nat.reduceAdd, Nat.reduceLeDiff, Nat.reduceSub, Nat.reduceEqDiff, Int.reduceToNat, reduceCtorEq, ↓reduceIte]; done) | (simp [go_sem, Nat.reduceBEq, Nat.reduceLT, Nat.reduceAdd, Nat.reduceLeDiff, Nat.reduceSub, Nat.reduceEqDiff, Int.reduceToNat, reduceCtorEq, ↓reduceIte]; done) | (simp only [go_sem, Nat.reduceBEq, Nat.reduceLT, Nat.reduceAdd, Nat.reduceLeDiff, Nat.reduceSub, Nat.reduceEqDiff, Int.reduceToNat, reduceCtorEq, ↓reduceIte]; exact ⟨rfl, rfl⟩) | (simp_all [go_sem, Nat.reduceBEq, Nat.reduceLT, Nat.reduceAdd, Nat.reduceLeDiff, Nat.reduceSub, Nat.reduceEqDiff, Int.reduceToNat, reduceCtorEq, ↓reduceIte]; done)
              · try dsimp only [Sum.elim_inl, Sum.elim_inr] at h
                try dsimp only [Sum.elim_inl, Sum.elim_inr]
                (try simp only [Thn, InBlk, ↓reduceIte, Nat.reduceEqDiff])
                obtain rfl := Option.some.inj h
                refine ⟨by simp, _, [0, 1, 2, 3], (by simp only [go_sem, Nat.reduceBEq, Nat.reduceLT, Nat.reduceAdd, Nat.reduceLeDiff, Nat.reduceSub, Nat.reduceEqDiff, Int.reduceToNat, reduceCtorEq, ↓reduceIte]; exact rfl), ?_, ?_, ?_, ?_⟩
                · first | exact trivial | exact ⟨trivial, trivial⟩ | exact ⟨trivial, trivial, trivial⟩ | exact ⟨trivial, trivial, trivial, trivial⟩ | (simp only [allP, and_true, true_and]; done) | (simp only [allP, and_true, true_and]; omega)
                · simp [selOk, pos]
                · simp
                · first | exact ⟨rfl, rfl⟩ | (simp only [go_sem, Nat.reduceBEq, Nat.reduceLT, Nat.reduceAdd, Nat.reduceLeDiff, Nat.reduceSub, Nat.reduceEqDiff, Int.reduceToNat, reduceCtorEq, ↓reduceIte]; done) | (simp [go_sem, Nat.reduceBEq, Nat.reduceLT, Nat.reduceAdd, Nat.reduceLeDiff, Nat.reduceSub, Nat.reduceEqDiff, Int.reduceToNat, reduceCtorEq, ↓reduceIte]; done) | (simp only [go_sem, Nat.reduceBEq, Nat.reduceLT, Nat.reduceAdd, Nat.reduceLeDiff, Nat.reduceSub, Nat.reduceEqDiff, Int.reduceToNat, reduceCtorEq, ↓reduceIte]; exact ⟨rfl, rfl⟩) | (simp_all [go_sem, Nat.reduceBEq, Nat.reduceLT, Nat.reduceAdd, Nat.reduceLeDiff, Nat.reduceSub, Nat.reduceEqDiff, Int.reduceToNat, reduceCtorEq, ↓reduceIte]; done)
theorem k_slices_Clone_int_int (a0 : List Int) {r : List Int} (h : slices_Clone_int_int a0 = some r) :
    FnA Try.prog 118 [.sl 0] [.row false (.ints .i64 a0)] [] (fun x H => x = .sl 1 ∧ H = [.row false (.ints .i64 a0), .row true (.ints .i64 r)]) := by
  unfold slices_Clone_int_int at h
  refine FnA.of (N := 8) (pin := [0]) (rs := [.tmp 2]) Try.func118 rfl en118 rfl rfl (by simp) (by simp; try omega) ?_
  refine awp_reg ftCOk [(0, .sl 0)] [.row false (.ints .i64 a0)] ?_
  refine awp_seq fun K2 hK2 => ?_
  have hboth := both_some h
  refine awp_isnil (by rfl) (by rfl) Try.underlying26 rfl rfl fun b hb => ?_
  replace h := hboth b hb
  clear hboth
  refine awp_cond (t := 4) rfl (fun hc3 => ?_) (fun hc3 => ?_)
  · replace h := bite_t h hc3
    refine awp_reg ftCOk [(2, .v (.slice none 0 0))] [.row false (.ints .i64 a0)] ?_
    refine awp_red (Red.nil (t := 2) (.ints .i64 []) rfl rfl) ?_
    refine awp_ret ?_
    (try simp only [Thn, InBlk, ↓reduceIte, Nat.reduceEqDiff])
    obtain rfl := Option.some.inj h
    refine ⟨by simp, _, [0, 1], (by simp only [go_sem, Nat.reduceBEq, Nat.reduceLT, Nat.reduceAdd, Nat.reduceLeDiff, Nat.reduceSub, Nat.reduceEqDiff, Int.reduceToNat, reduceCtorEq, ↓reduceIte]; exact rfl), ?_, ?_, ?_, ?_⟩
    · first | exact trivial | exact ⟨trivial, trivial⟩ | exact ⟨trivial, trivial, trivial⟩ | exact ⟨trivial, trivial, trivial, trivial⟩ | (simp only [allP, and_true, true_and]; done) | (simp only [allP, and_true, true_and]; omega)
    · simp [selOk, pos]
    · simp
    · first | exact ⟨rfl, rfl⟩ | (simp only [go_sem, Nat.reduceBEq, Nat.reduceLT, Nat.reduceAdd, Nat.reduceLeDiff, Nat.reduceSub, Nat.reduceEqDiff, Int.reduceToNat, reduceCtorEq, ↓reduceIte]; done) | (simp [go_sem, Nat.reduceBEq, Nat.reduceLT, Nat.reduceAdd, Nat.reduceLeDiff, Nat.reduceSub, Nat.reduceEqDiff, Int.reduceToNat, reduceCtorEq, ↓reduceIte]; done) | (simp only [go_sem, Nat.reduceBEq, Nat.reduceLT, Nat.reduceAdd, Nat.reduceLeDiff, Nat.reduceSub, Nat.reduceEqDiff, Int.reduceToNat, reduceCtorEq, ↓reduceIte]; exact ⟨rfl, rfl⟩) | (simp_all [go_sem, Nat.reduceBEq, Nat.reduceLT, Nat.reduceAdd, Nat.reduceLeDiff, Nat.reduceSub, Nat.reduceEqDiff, Int.reduceToNat, reduceCtorEq, ↓reduceIte]; done)
  · replace h := bite_f h hc3
    refine awp_skip ?_
    (try simp only [Thn, InBlk, ↓reduceIte, Nat.reduceEqDiff])
    refine hK2 _ _ ?_
    clear hK2
    replace h := chk_some h
    obtain ⟨hp0, h⟩ := h
    refine awp_reg ftCOk [(2, .sl 1)] [.row false (.ints .i64 a0), .row true (.ints .i64 ([] ++ a0))] ?_
    clear hp0
    refine awp_ret ?_
    (try simp only [Thn, InBlk, ↓reduceIte, Nat.reduceEqDiff])
    obtain rfl := Option.some.inj h
    refine ⟨by simp, _, [0, 1], (by simp only [go_sem, Nat.reduceBEq, Nat.reduceLT, Nat.reduceAdd, Nat.reduceLeDiff, Nat.reduceSub, Nat.reduceEqDiff, Int.reduceToNat, reduceCtorEq, ↓reduceIte]; exact rfl), ?_, ?_, ?_, ?_⟩
    · first | exact trivial | exact ⟨trivial, trivial⟩ | exact ⟨trivial, trivial, trivial⟩ | exact ⟨trivial, trivial, trivial, trivial⟩ | (simp only [allP, and_true, true_and]; done) | (simp only [allP, and_true, true_and]; omega)
    · simp [selOk, pos]
    · simp
    · first | exact ⟨rfl, rfl⟩ | (simp only [go_sem, Nat.reduceBEq, Nat.reduceLT, Nat.reduceAdd, Nat.reduceLeDiff, Nat.reduceSub, Nat.reduceEqDiff, Int.reduceToNat, reduceCtorEq, ↓reduceIte]; done) | (simp [go_sem, Nat.reduceBEq, Nat.reduceLT, Nat.reduceAdd, Nat.reduceLeDiff, Nat.reduceSub, Nat.reduceEqDiff, Int.reduceToNat, reduceCtorEq, ↓reduceIte]; done) | (simp only [go_sem, Nat.reduceBEq, Nat.reduceLT, Nat.reduceAdd, Nat.reduceLeDiff, Nat.reduceSub, Nat.reduceEqDiff, Int.reduceToNat, reduceCtorEq, ↓reduceIte]; exact ⟨rfl, rfl⟩) | (simp_all [go_sem, Nat.reduceBEq, Nat.reduceLT, Nat.reduceAdd, Nat.reduceLeDiff, Nat.reduceSub, Nat.reduceEqDiff, Int.reduceToNat, reduceCtorEq, ↓reduceIte]; done)
theorem k_slices_Clone_impl_Packet_impl_Packet (a0 : List (Int × Int)) {r : (List (Int × Int))} (h : slices_Clone_impl_Packet_impl_Packet a0 = some r) :
    FnA Try.prog 119 [.sl 0] [.row false (.pairs a0)] [] (fun x H => x = .sl 1 ∧ H = [.row false (.pairs a0), .row true (.pairs r)]) := by
  unfold slices_Clone_impl_Packet_impl_Packet at h
  refine FnA.of (N := 8) (pin := [0]) (rs := [.tmp 2]) Try.func119 rfl en119 rfl rfl (by simp) (by simp; try omega) ?_
  refine awp_reg ftCOk [(0, .sl 0)] [.row false (.pairs a0)] ?_
  refine awp_seq fun K2 hK2 => ?_
  have hboth := both_some h
  refine awp_isnil (by rfl) (by rfl) Try.underlying38 rfl rfl fun b hb => ?_
  replace h := hboth b hb
  clear hboth
  refine awp_cond (t := 4) rfl (fun hc3 => ?_) (fun hc3 => ?_)
  · replace h := bite_t h hc3
    refine awp_reg ftCOk [(2, .v (.slice none 0 0))] [.row false (.pairs a0)] ?_
    refine awp_red (Red.nil (t := 2) (.pairs []) rfl rfl) ?_
    refine awp_ret ?_
    (try simp only [Thn, InBlk, ↓reduceIte, Nat.reduceEqDiff])
    obtain rfl := Option.some.inj h
    refine ⟨by simp, _, [0, 1], (by simp only [go_sem, Nat.reduceBEq, Nat.reduceLT, Nat.reduceAdd, Nat.reduceLeDiff, Nat.reduceSub, Nat.reduceEqDiff, Int.reduceToNat, reduceCtorEq, ↓reduceIte]; exact rfl), ?_, ?_, ?_, ?_⟩
    · first | exact trivial | exact ⟨trivial, trivial⟩ | exact ⟨trivial, trivial, trivial⟩ | exact ⟨trivial, trivial, trivial, trivial⟩ | (simp only [allP, and_true, true_and]; done) | (simp only [allP, and_true, true_and]; omega)
    · simp [selOk, pos]
    · simp
    · first | exact ⟨rfl, rfl⟩ | (simp only [go_sem, Nat.reduceBEq, Nat.reduceLT, Nat.reduceAdd, Nat.reduceLeDiff, Nat.reduceSub, Nat.reduceEqDiff, Int.reduceToNat, reduceCtorEq, ↓reduceIte]; done) | (simp [go_sem, Nat.reduceBEq, Nat.reduceLT, Nat.reduceAdd, Nat.reduceLeDiff, Nat.reduceSub, Nat.reduceEqDiff, Int.reduceToNat, reduceCtorEq, ↓reduceIte]; done) | (simp only [go_sem, Nat.reduceBEq, Nat.reduceLT, Nat.reduceAdd, Nat.reduceLeDiff, Nat.reduceSub, Nat.reduceEqDiff, Int.reduceToNat, reduceCtorEq, ↓reduceIte]; exact ⟨rfl, rfl⟩) | (simp_all [go_sem, Nat.reduceBEq, Nat.reduceLT, Nat.reduceAdd, Nat.reduceLeDiff, Nat.reduceSub, Nat.reduceEqDiff, Int.reduceToNat, reduceCtorEq, ↓reduceIte]; done)
  · replace h := bite_f h hc3
    refine awp_skip ?_
    (try simp only [Thn, InBlk, ↓reduceIte, Nat.reduceEqDiff])
    refine hK2 _ _ ?_
    clear hK2
    replace h := chk_some h
    obtain ⟨hp0, h⟩ := h
    refine awp_reg ftCOk [(2, .sl 1)] [.row false (.pairs a0), .row true (.pairs ([] ++ a0))] ?_
    clear hp0
    refine awp_ret ?_
    (try simp only [Thn, InBlk, ↓reduceIte, Nat.reduceEqDiff])
    obtain rfl := Option.some.inj h
    refine ⟨by simp, _, [0, 1], (by simp only [go_sem, Nat.reduceBEq, Nat.reduceLT, Nat.reduceAdd, Nat.reduceLeDiff, Nat.reduceSub, Nat.reduceEqDiff, Int.reduceToNat, reduceCtorEq, ↓reduceIte]; exact rfl), ?_, ?_, ?_, ?_⟩
    · first | exact trivial | exact ⟨trivial, trivial⟩ | exact ⟨trivial, trivial, trivial⟩ | exact ⟨trivial, trivial, trivial, trivial⟩ | (simp only [allP, and_true, true_and]; done) | (simp only [allP, and_true, true_and]; omega)
    · simp [selOk, pos]
    · simp
    · first | exact ⟨rfl, rfl⟩ | (simp only [go_sem, Nat.reduceBEq, Nat.reduceLT, Nat.reduceAdd, Nat.reduceLeDiff, Nat.reduceSub, Nat.reduceEqDiff, Int.reduceToNat, reduceCtorEq, ↓reduceIte]; done) | (simp [go_sem, Nat.reduceBEq, Nat.reduceLT, Nat.reduceAdd, Nat.reduceLeDiff, Nat.reduceSub, Nat.reduceEqDiff, Int.reduceToNat, reduceCtorEq, ↓reduceIte]; done) | (simp only [go_sem, Nat.reduceBEq, Nat.reduceLT, Nat.reduceAdd, Nat.reduceLeDiff, Nat.reduceSub, Nat.reduceEqDiff, Int.reduceToNat, reduceCtorEq, ↓reduceIte]; exact ⟨rfl, rfl⟩) | (simp_all [go_sem, Nat.reduceBEq, Nat.reduceLT, Nat.reduceAdd, Nat.reduceLeDiff, Nat.reduceSub, Nat.reduceEqDiff, Int.reduceToNat, reduceCtorEq, ↓reduceIte]; done)
theorem k_impl_Channel_copied (a0_0 : List Int) (a0_1 : Int) (a0_2 : List Int) (a0_3 : List (Int × Int)) (a0_4 : List Int) {r : List Int × Int × List Int × (List (Int × Int)) × List Int} (h : impl_Channel_copied a0_0 a0_1 a0_2 a0_3 a0_4 = some r) :
    FnA Try.prog 75 [.agg [.sl 0, .v (.int .i64 a0_1), .sl 1, .sl 2, .sl 3]] [.row false (.ints .i64 a0_0), .row false (.ints .i64 a0_2), .row false (.pairs a0_3), .row false (.ints .i64 a0_4)] [] (fun x H => x = .agg [.sl 4, .v (.int .i64 r.2.1), .sl 5, .sl 6, .sl 7] ∧ H = [.row false (.ints .i64 a0_0), .row false (.ints .i64 a0_2), .row false (.pairs a0_3), .row false (.ints .i64 a0_4), .row true (.ints .i64 r.1), .row true (.ints .i64 r.2.2.1), .row true (.pairs r.2.2.2.1), .row true (.ints .i64 r.2.2.2.2)]) := by
  unfold impl_Channel_copied at h
  refine FnA.of (N := 18) (pin := [0, 1, 2, 3]) (rs := [.cell 2 40]) Try.func75 rfl en75 rfl rfl (by simp) (by simp; try omega) ?_
  refine awp_reg ftCOk [(1, .pp 4 0), (2, .pp 5 0)] [.row false (.ints .i64 a0_0), .row false (.ints .i64 a0_2), .row false (.pairs a0_3), .row false (.ints .i64 a0_4), .box [.sl 0, .v (.int .i64 a0_1), .sl 1, .sl 2, .sl 3], .box [.v (.slice none 0 0), .v (.int .i64 0), .v (.slice none 0 0), .v (.slice none 0 0), .v (.slice none 0 0)]] ?_
  refine awp_freeze 1 (by rfl) (by rfl) (by exact rfl) ?_
  replace h := bind_some h
  obtain ⟨y, hr0, h⟩ := h
  try dsimp only at h
  replace h := bind_some h
  obtain ⟨y_1, hr1, h⟩ := h
  try dsimp only at h
  replace h := bind_some h
  obtain ⟨y_2, hr2, h⟩ := h
  try dsimp only at h
  replace h := bind_some h
  obtain ⟨y_3, hr3, h⟩ := h
  try dsimp only at h
  refine awp_to [(2, .pp 5 0)] [.row false (.ints .i64 a0_0), .row false (.ints .i64 a0_2), .row false (.pairs a0_3), .row false (.ints .i64 a0_4), .rbox [.sl 0, .v (.int .i64 a0_1), .sl 1, .sl 2, .sl 3], .box [.sl 6, .v (.int .i64 a0_1), .sl 7, .sl 8, .sl 9], .row true (.ints .i64 y), .row true (.ints .i64 y_1), .row true (.pairs y_2), .row true (.ints .i64 y_3)] ?_ ?_
  · clear h
    intro K hK
    refine awp_drawT mixed ftCOk (.free 0 (.free 3 (.free 5 (.free 8 (.free 11 (.free 1 (.free 4 (.free 6 (.free 9 (.free 12 (.one 2 (.one 7 (.one 10 (.one 13 (.one 14 (.one 15 .fin)))))))))))))))) (by kernel_rfl) (by simp) ?_
    simp (maxSteps := 4000000) only [go_sem, Nat.reduceBEq, Nat.reduceLT, Nat.reduceAdd, Nat.reduceLeDiff, Nat.reduceSub, Nat.reduceEqDiff, Int.reduceToNat, reduceCtorEq, ↓reduceIte]
    repeat' (first | refine And.intro ?_ ?_ | intro hg)
    all_goals (try simp (disch := omega) only [wrap_fits])
    all_goals first
      | (refine hK _ _ ?_; exact Red.auto)
      | exact trivial
      | assumption
      | omega
      | exact wrap_fits (by omega) (by omega)
      | (refine OpK_callA (k_slices_Clone_int_int a0_0 (h := hr0)) [0] [] ?_
         rintro x Hc' ⟨rfl, rfl⟩ hlen
         simp (maxSteps := 4000000) only [go_sem, Nat.reduceBEq, Nat.reduceLT, Nat.reduceAdd, Nat.reduceLeDiff, Nat.reduceSub, Nat.reduceEqDiff, Int.reduceToNat, reduceCtorEq, ↓reduceIte]
         repeat' (first | refine And.intro ?_ ?_ | intro hg)
         all_goals (try simp (disch := omega) only [wrap_fits])
         all_goals first
           | (refine hK _ _ ?_; exact Red.auto)
           | exact trivial
           | assumption
           | omega
           | exact wrap_fits (by omega) (by omega)
           | (refine OpK_callA (k_slices_Clone_int_int a0_2 (h := hr1)) [1] [] ?_
              rintro x Hc' ⟨rfl, rfl⟩ hlen
              simp (maxSteps := 4000000) only [go_sem, Nat.reduceBEq, Nat.reduceLT, Nat.reduceAdd, Nat.reduceLeDiff, Nat.reduceSub, Nat.reduceEqDiff, Int.reduceToNat, reduceCtorEq, ↓reduceIte]
              repeat' (first | refine And.intro ?_ ?_ | intro hg)
              all_goals (try simp (disch := omega) only [wrap_fits])
              all_goals first
                | (refine hK _ _ ?_; exact Red.auto)
                | exact trivial
                | assumption
                | omega
                | exact wrap_fits (by omega) (by omega)
                | (refine OpK_callA (k_slices_Clone_impl_Packet_impl_Packet a0_3 (h := hr2)) [2] [] ?_
                   rintro x Hc' ⟨rfl, rfl⟩ hlen
                   simp (maxSteps := 4000000) only [go_sem, Nat.reduceBEq, Nat.reduceLT, Nat.reduceAdd, Nat.reduceLeDiff, Nat.reduceSub, Nat.reduceEqDiff, Int.reduceToNat, reduceCtorEq, ↓reduceIte]
                   repeat' (first | refine And.intro ?_ ?_ | intro hg)
                   all_goals (try simp (disch := omega) only [wrap_fits])
                   all_goals first
                     | (refine hK _ _ ?_; exact Red.auto)
                     | exact trivial
                     | assumption
                     | omega
                     | exact wrap_fits (by omega) (by omega)
                     | (refine OpK_callA (k_slices_Clone_int_int a0_4 (h := hr3)) [3] [] ?_
                        rintro x Hc' ⟨rfl, rfl⟩ hlen
                        simp (maxSteps := 4000000) only [go_sem, Nat.reduceBEq, Nat.reduceLT, Nat.reduceAdd, Nat.reduceLeDiff, Nat.reduceSub, Nat.reduceEqDiff, Int.reduceToNat, reduceCtorEq, ↓reduceIte]
                        repeat' (first | refine And.intro ?_ ?_ | intro hg)
                        all_goals (try simp (disch := omega) only [wrap_fits])
                        all_goals first
                          | (refine hK _ _ ?_; exact Red.auto)
                          | exact trivial
                          | assumption
                          | omega
                          | exact wrap_fits (by omega) (by omega)
                          | (simp (maxSteps := 4000000) only [go_sem, Nat.reduceBEq, Nat.reduceLT, Nat.reduceAdd, Nat.reduceLeDiff, Nat.reduceSub, Nat.reduceEqDiff, Int.reduceToNat, reduceCtorEq, ↓reduceIte]
                             repeat' (first | refine And.intro ?_ ?_ | intro hg)
                             all_goals (try simp (disch := omega) only [wrap_fits])
                             all_goals first | (refine hK _ _ ?_; exact Red.auto) | exact trivial | assumption | omega | exact wrap_fits (by omega) (by omega))
                          | (simp_all; done)
                          | (simp_all; omega))
                     | (simp_all; done)
                     | (simp_all; omega))
                | (simp_all; done)
                | (simp_all; omega))
           | (simp_all; done)
           | (simp_all; omega))
      | (simp_all; done)
      | (simp_all; omega)
  · clear hr0 hr1 hr2 hr3
    refine awp_ret ?_
    (try simp only [Thn, InBlk, ↓reduceIte, Nat.reduceEqDiff])
    obtain rfl := Option.some.inj h
    refine ⟨by simp, _, [0, 1, 2, 3, 6, 7, 8, 9], (by simp only [go_sem, Nat.reduceBEq, Nat.reduceLT, Nat.reduceAdd, Nat.reduceLeDiff, Nat.reduceSub, Nat.reduceEqDiff, Int.reduceToNat, reduceCtorEq, ↓reduceIte]; exact rfl), ?_, ?_, ?_, ?_⟩
    · first | exact trivial | exact ⟨trivial, trivial⟩ | exact ⟨trivial, trivial, trivial⟩ | exact ⟨trivial, trivial, trivial, trivial⟩ | (simp only [allP, and_true, true_and]; done) | (simp only [allP, and_true, true_and]; omega)
    · simp [selOk, pos]
    · simp
    · first | exact ⟨rfl, rfl⟩ | (simp only [go_sem, Nat.reduceBEq, Nat.reduceLT, Nat.reduceAdd, Nat.reduceLeDiff, Nat.reduceSub, Nat.reduceEqDiff, Int.reduceToNat, reduceCtorEq, ↓reduceIte]; done) | (simp [go_sem, Nat.reduceBEq, Nat.reduceLT, Nat.reduceAdd, Nat.reduceLeDiff, Nat.reduceSub, Nat.reduceEqDiff, Int.reduceToNat, reduceCtorEq, ↓reduceIte]; done) | (simp only [go_sem, Nat.reduceBEq, Nat.reduceLT, Nat.reduceAdd, Nat.reduceLeDiff, Nat.reduceSub, Nat.reduceEqDiff, Int.reduceToNat, reduceCtorEq, ↓reduceIte]; exact ⟨rfl, rfl⟩) | (simp_all [go_sem, Nat.reduceBEq, Nat.reduceLT, Nat.reduceAdd, Nat.reduceLeDiff, Nat.reduceSub, Nat.reduceEqDiff, Int.reduceToNat, reduceCtorEq, ↓reduceIte]; done)
theorem k_impl_Channel_send (a0_0 : List Int) (a0_1 : Int) (a0_2 : List Int) (a0_3 : List (Int × Int)) (a0_4 : List Int) {r : Bool × (List (Int × Int))} (h : impl_Channel_send a0_0 a0_1 a0_2 a0_3 a0_4 = some r) :
    FnA Try.prog 120 [.pp 0 0] [.box [.sl 1, .v (.int .i64 a0_1), .sl 2, .sl 3, .sl 4], .row false (.ints .i64 a0_0), .row false (.ints .i64 a0_2), .row true (.pairs a0_3), .row false (.ints .i64 a0_4)] [] (fun x H => x = .v (.bool r.1) ∧ H = [.box [.sl 1, .v (.int .i64 a0_1), .sl 2, .sl 5, .sl 4], .row false (.ints .i64 a0_0), .row false (.ints .i64 a0_2), .dead, .row false (.ints .i64 a0_4), .row true (.pairs r.2)]) := by
  unfold impl_Channel_send at h
  refine FnA.of (N := 64) (pin := [0, 1, 2, 3, 4]) (rs := [.tmp 2]) Try.func120 rfl en120 rfl rfl (by simp) (by simp; try omega) ?_
  refine awp_move 3 [(0, .pp 0 0)] [.box [.sl 1, .v (.int .i64 a0_1), .sl 2, .sl 5, .sl 4], .row false (.ints .i64 a0_0), .row false (.ints .i64 a0_2), .dead, .row false (.ints .i64 a0_4), .row true (.pairs a0_3)] (by rfl) (by rfl) (by exact rfl) ?_
  refine awp_reg ftCOk [(0, .pp 0 0)] [.box [.sl 1, .v (.int .i64 a0_1), .sl 2, .sl 5, .sl 4], .row false (.ints .i64 a0_0), .row false (.ints .i64 a0_2), .dead, .row false (.ints .i64 a0_4), .row true (.pairs a0_3)] ?_
  replace h := chk_some h
  obtain ⟨hp0, h⟩ := h
  refine awp_regQ mixed ftCOk [(0, .pp 0 0), (3, .v (.int .i64 (min (a0_1 + 3) (a0_0.length : Int))))] [.box [.sl 1, .v (.int .i64 a0_1), .sl 2, .sl 5, .sl 4], .row false (.ints .i64 a0_0), .row false (.ints .i64 a0_2), .dead, .row false (.ints .i64 a0_4), .row true (.pairs a0_3)] ?_
  clear hp0
  refine awp_seq fun K2 hK2 => ?_
  replace h := chk_some h
  obtain ⟨hp0, h⟩ := h
  replace h := chk_some h
  obtain ⟨hp1, h⟩ := h
  have hwhp1 := wrap_fits hp1.1 hp1.2
  refine awp_to [(0, .pp 0 0), (3, .v (.int .i64 (min (a0_1 + 3) (a0_0.length : Int)))), (36, .v (.bool (((min (a0_1 + 3) (a0_0.length : Int)) == a0_1) || (decide (100 < (((a0_3.length : Int) + (min (a0_1 + 3) (a0_0.length : Int))) - a0_1))))))] [.box [.sl 1, .v (.int .i64 a0_1), .sl 2, .sl 5, .sl 4], .row false (.ints .i64 a0_0), .row false (.ints .i64 a0_2), .dead, .row false (.ints .i64 a0_4), .row true (.pairs a0_3)] ?_ ?_
  · clear h
    intro K hK
    refine awp_quietg mixed ftCOk (by kernel_rfl) ?_
    simp (maxSteps := 4000000) only [go_sem, Nat.reduceBEq, Nat.reduceLT, Nat.reduceAdd, Nat.reduceLeDiff, Nat.reduceSub, Nat.reduceEqDiff, Int.reduceToNat, reduceCtorEq, ↓reduceIte]
    repeat' (first | refine And.intro ?_ ?_ | intro hg)
    all_goals (try simp (disch := omega) only [wrap_fits])
    all_goals first
      | (refine hK _ _ ?_; exact Red.auto)
      | exact trivial
      | assumption
      | omega
      | exact wrap_fits (by omega) (by omega)
      | (have hq := hp0 (by first | assumption | (simp only [*, Bool.false_or, Bool.true_or, Bool.or_false, Bool.or_true, Bool.false_and, Bool.true_and, Bool.and_false, Bool.and_true, Bool.not_true, Bool.not_false, beq_self_eq_true]; done) | (simp_all; done)); omega)
      | (simp_all; done)
      | (simp_all; omega)
  · clear hp0 hp1
    refine awp_cond (t := 36) rfl (fun hc3 => ?_) (fun hc3 => ?_)
    · replace h := bite_t h hc3
      refine awp_reg ftCOk [(2, .v (.bool false))] [.box [.sl 1, .v (.int .i64 a0_1), .sl 2, .sl 5, .sl 4], .row false (.ints .i64 a0_0), .row false (.ints .i64 a0_2), .dead, .row false (.ints .i64 a0_4), .row true (.pairs a0_3)] ?_
      refine awp_ret ?_
      (try simp only [Thn, InBlk, ↓reduceIte, Nat.reduceEqDiff])
      obtain rfl := Option.some.inj h
      refine ⟨by simp, _, [0, 1, 2, 3, 4, 5], (by simp only [go_sem, Nat.reduceBEq, Nat.reduceLT, Nat.reduceAdd, Nat.reduceLeDiff, Nat.reduceSub, Nat.reduceEqDiff, Int.reduceToNat, reduceCtorEq, ↓reduceIte]; exact rfl), ?_, ?_, ?_, ?_⟩
      · first | exact trivial | exact ⟨trivial, trivial⟩ | exact ⟨trivial, trivial, trivial⟩ | exact ⟨trivial, trivial, trivial, trivial⟩ | (simp only [allP, and_true, true_and]; done) | (simp only [allP, and_true, true_and]; omega)
      · simp [selOk, pos]
      · simp
      · first | exact ⟨rfl, rfl⟩ | (simp only [go_sem, Nat.reduceBEq, Nat.reduceLT, Nat.reduceAdd, Nat.reduceLeDiff, Nat.reduceSub, Nat.reduceEqDiff, Int.reduceToNat, reduceCtorEq, ↓reduceIte]; done) | (simp [go_sem, Nat.reduceBEq, Nat.reduceLT, Nat.reduceAdd, Nat.reduceLeDiff, Nat.reduceSub, Nat.reduceEqDiff, Int.reduceToNat, reduceCtorEq, ↓reduceIte]; done) | (simp only [go_sem, Nat.reduceBEq, Nat.reduceLT, Nat.reduceAdd, Nat.reduceLeDiff, Nat.reduceSub, Nat.reduceEqDiff, Int.reduceToNat, reduceCtorEq, ↓reduceIte]; exact ⟨rfl, rfl⟩) | (simp_all [go_sem, Nat.reduceBEq, Nat.reduceLT, Nat.reduceAdd, Nat.reduceLeDiff, Nat.reduceSub, Nat.reduceEqDiff, Int.reduceToNat, reduceCtorEq, ↓reduceIte]; done)
    · replace h := bite_f h hc3
      refine awp_skip ?_
      (try simp only [Thn, InBlk, ↓reduceIte, Nat.reduceEqDiff])
      refine hK2 _ _ ?_
      clear hK2
      refine awp_seq fun K17 hK17 => ?_
      refine awp_reg ftCOk [(0, .pp 0 0), (3, .v (.int .i64 (min (a0_1 + 3) (a0_0.length : Int)))), (4, .v (.int .i64 a0_1))] [.box [.sl 1, .v (.int .i64 a0_1), .sl 2, .sl 5, .sl 4], .row false (.ints .i64 a0_0), .row false (.ints .i64 a0_2), .dead, .row false (.ints .i64 a0_4), .row true (.pairs a0_3)] ?_
      refine awp_block ?_
      replace h := bind_some h
      obtain ⟨p0_3s_1, hx, h⟩ := h
      refine awp_loopL hx (fun ((t4, p0_3s) : Int × (List (Int × Int))) => [(0, .pp 0 0), (3, .v (.int .i64 (min (a0_1 + 3) (a0_0.length : Int)))), (4, .v (.int .i64 t4))]) (fun ((t4, p0_3s) : Int × (List (Int × Int))) => [.box [.sl 1, .v (.int .i64 a0_1), .sl 2, .sl 5, .sl 4], .row false (.ints .i64 a0_0), .row false (.ints .i64 a0_2), .dead, .row false (.ints .i64 a0_4), .row true (.pairs p0_3s)]) (fun (p0_3s_1 : List (Int × Int)) => Exit.exit 0) (fun (p0_3s_1 : List (Int × Int)) => []) (fun (p0_3s_1 : List (Int × Int)) => [.box [.sl 1, .v (.int .i64 a0_1), .sl 2, .sl 5, .sl 4], .row false (.ints .i64 a0_0), .row false (.ints .i64 a0_2), .dead, .row false (.ints .i64 a0_4), .row true (.pairs p0_3s_1)]) ?_ ?_ ?_ ?_
      · rintro p0_3s_1 hy <;> cases hy
      · clear h hx
        exact Red.auto
      · clear h hx
        rintro ⟨t4, p0_3s⟩ r h
        unfold impl_Channel_send_b0 at h
        try dsimp only at h
        try dsimp only
        refine awp_seq fun K27 hK27 => ?_
        refine awp_reg ftCOk [(0, .pp 0 0), (3, .v (.int .i64 (min (a0_1 + 3) (a0_0.length : Int)))), (4, .v (.int .i64 t4)), (43, .v (.bool (decide (t4 < (min (a0_1 + 3) (a0_0.length : Int))))))] [.box [.sl 1, .v (.int .i64 a0_1), .sl 2, .sl 5, .sl 4], .row false (.ints .i64 a0_0), .row false (.ints .i64 a0_2), .dead, .row false (.ints .i64 a0_4), .row true (.pairs p0_3s)] ?_
        refine awp_cond (t := 43) rfl (fun hc28 => ?_) (fun hc28 => ?_)
        · replace h := bite_t h hc28
          refine awp_skip ?_
          (try simp only [Thn, InBlk, ↓reduceIte, Nat.reduceEqDiff])
          refine hK27 _ _ ?_
          clear hK27
          refine awp_seq fun K29 hK29 => ?_
          refine awp_block ?_
          replace h := chk_some h
          obtain ⟨hp0, h⟩ := h
          replace h := chk_some h
          obtain ⟨hp1, h⟩ := h
          refine awp_end [(0, .pp 0 0), (3, .v (.int .i64 (min (a0_1 + 3) (a0_0.length : Int)))), (4, .v (.int .i64 t4))] [.box [.sl 1, .v (.int .i64 a0_1), .sl 2, .sl 5, .sl 4], .row false (.ints .i64 a0_0), .row false (.ints .i64 a0_2), .dead, .row false (.ints .i64 a0_4), .row true (.pairs (p0_3s ++ [(t4, (a0_0.getD t4.toNat 0))])), .row true (.pairs [(t4, (a0_0.getD t4.toNat 0))])] ?_ ?_
          · clear h
            intro K hK
            refine awp_drawP [0, 1, 2, 3, 4] (by first | rfl | kernel_rfl) (by rfl) mixed ftCOk (.free 0 (.free 1 (.free 2 (.free 3 (.free 5 (.free 6 (.free 7 (.free 8 (.free 10 (.two 4 9 (.one 9 (.one 11 (.one 12 (.one 13 (.one 14 (.one 15 (.one 16 (.one 17 (.one 18 .fin))))))))) (.free 11 (.free 12 (.free 13 (.two 4 14 (.one 14 (.one 15 (.one 16 (.one 17 (.one 18 .fin))))) (.one 4 (.one 15 (.one 16 (.one 17 (.one 18 .fin))))))))))))))))))) (by kernel_rfl) (by simp) ?_
            simp (maxSteps := 4000000) only [go_sem, Nat.reduceBEq, Nat.reduceLT, Nat.reduceAdd, Nat.reduceLeDiff, Nat.reduceSub, Nat.reduceEqDiff, Int.reduceToNat, reduceCtorEq, ↓reduceIte]
            repeat' (first | refine And.intro ?_ ?_ | intro hg)
            all_goals (try simp (disch := omega) only [wrap_fits])
            all_goals first
              | (refine hK _ _ ?_; exact Red.auto)
              | exact trivial
              | assumption
              | omega
              | exact wrap_fits (by omega) (by omega)
              | (simp (maxSteps := 4000000) only [go_sem, Nat.reduceBEq, Nat.reduceLT, Nat.reduceAdd, Nat.reduceLeDiff, Nat.reduceSub, Nat.reduceEqDiff, Int.reduceToNat, reduceCtorEq, ↓reduceIte]
                 repeat' (first | refine And.intro ?_ ?_ | intro hg)
                 all_goals (try simp (disch := omega) only [wrap_fits])
                 all_goals first | (refine hK _ _ ?_; exact Red.auto) | exact trivial | assumption | omega | exact wrap_fits (by omega) (by omega))
              | (simp_all; done)
              | (simp_all; omega)
          · clear hp0 hp1
            (try simp only [Thn, InBlk, ↓reduceIte, Nat.reduceEqDiff])
            (try simp only [Thn, InBlk, ↓reduceIte, Nat.reduceEqDiff])
            refine hK29 _ _ ?_
            clear hK29
            replace h := chk_some h
            obtain ⟨hp0, h⟩ := h
            refine awp_regE ftCOk [(0, .pp 0 0), (3, .v (.int .i64 (min (a0_1 + 3) (a0_0.length : Int)))), (4, .v (.int .i64 (t4 + 1)))] [.box [.sl 1, .v (.int .i64 a0_1), .sl 2, .sl 5, .sl 4], .row false (.ints .i64 a0_0), .row false (.ints .i64 a0_2), .dead, .row false (.ints .i64 a0_4), .row true (.pairs (p0_3s ++ [(t4, (a0_0.getD t4.toNat 0))])), .row true (.pairs [(t4, (a0_0.getD t4.toNat 0))])] ?_
            clear hp0
            obtain rfl := Option.some.inj h
            refine LoopQ.next ?_
            exact Red.selA [0, 1, 2, 3, 4, 5] Red.auto
        · replace h := bite_f h hc28
          refine awp_exit ?_
          (try simp only [Thn, InBlk, ↓reduceIte, Nat.reduceEqDiff])
          obtain rfl := Option.some.inj h
          refine LoopQ.out rfl ?_
          exact Red.auto
      · clear hx
        skip
        · try dsimp only [Sum.elim_inl, Sum.elim_inr] at h
          try dsimp only [Sum.elim_inl, Sum.elim_inr]
          (try simp only [Thn, InBlk, ↓reduceIte, Nat.reduceEqDiff])
          (try simp only [Thn, InBlk, ↓reduceIte, Nat.reduceEqDiff])
          (try simp only [Thn, InBlk, ↓reduceIte, Nat.reduceEqDiff])
          refine hK17 _ _ ?_
          clear hK17
          refine awp_reg ftCOk [(2, .v (.bool true))] [.box [.sl 1, .v (.int .i64 a0_1), .sl 2, .sl 5, .sl 4], .row false (.ints .i64 a0_0), .row false (.ints .i64 a0_2), .dead, .row false (.ints .i64 a0_4), .row true (.pairs p0_3s_1)] ?_
          refine awp_ret ?_
          (try simp only [Thn, InBlk, ↓reduceIte, Nat.reduceEqDiff])
          obtain rfl := Option.some.inj h
          refine ⟨by simp, _, [0, 1, 2, 3, 4, 5], (by simp only [go_sem, Nat.reduceBEq, Nat.reduceLT, Nat.reduceAdd, Nat.reduceLeDiff, Nat.reduceSub, Nat.reduceEqDiff, Int.reduceToNat, reduceCtorEq, ↓reduceIte]; exact rfl), ?_, ?_, ?_, ?_⟩
          · first | exact trivial | exact ⟨trivial, trivial⟩ | exact ⟨trivial, trivial, trivial⟩ | exact ⟨trivial, trivial, trivial, trivial⟩ | (simp only [allP, and_true, true_and]; done) | (simp only [allP, and_true, true_and]; omega)
          · simp [selOk, pos]
          · simp
          · first | exact ⟨rfl, rfl⟩ | (simp only [go_sem, Nat.reduceBEq, Nat.reduceLT, Nat.reduceAdd, Nat.reduceLeDiff, Nat.reduceSub, Nat.reduceEqDiff, Int.reduceToNat, reduceCtorEq, ↓reduceIte]; done) | (simp [go_sem, Nat.reduceBEq, Nat.reduceLT, Nat.reduceAdd, Nat.reduceLeDiff, Nat.reduceSub, Nat.reduceEqDiff, Int.reduceToNat, reduceCtorEq, ↓reduceIte]; done) | (simp only [go_sem, Nat.reduceBEq, Nat.reduceLT, Nat.reduceAdd, Nat.reduceLeDiff, Nat.reduceSub, Nat.reduceEqDiff, Int.reduceToNat, reduceCtorEq, ↓reduceIte]; exact ⟨rfl, rfl⟩) | (simp_all [go_sem, Nat.reduceBEq, Nat.reduceLT, Nat.reduceAdd, Nat.reduceLeDiff, Nat.reduceSub, Nat.reduceEqDiff, Int.reduceToNat, reduceCtorEq, ↓reduceIte]; done)
theorem k_impl_Channel_packetStep (a0_0 : List Int) (a0_1 : Int) (a0_2 : List Int) (a0_3 : List (Int × Int)) (a0_4 : List Int) (a1 : Int) {r : Bool × List Int × (List (Int × Int))} (h : impl_Channel_packetStep a0_0 a0_1 a0_2 a0_3 a0_4 a1 = some r) :
    FnA Try.prog 121 [.pp 0 0, .v (.int .i64 a1)] [.box [.sl 1, .v (.int .i64 a0_1), .sl 2, .sl 3, .sl 4], .row false (.ints .i64 a0_0), .row true (.ints .i64 a0_2), .row true (.pairs a0_3), .row false (.ints .i64 a0_4)] [] (fun x H => x = .v (.bool r.1) ∧ H = [.box [.sl 1, .v (.int .i64 a0_1), .sl 5, .sl 6, .sl 4], .row false (.ints .i64 a0_0), .dead, .dead, .row false (.ints .i64 a0_4), .row true (.ints .i64 r.2.1), .row true (.pairs r.2.2)]) := by
  unfold impl_Channel_packetStep at h
  refine FnA.of (N := 83) (pin := [0, 1, 2, 3, 4]) (rs := [.tmp 4]) Try.func121 rfl en121 rfl rfl (by simp) (by simp; try omega) ?_
  refine awp_move 2 [(0, .pp 0 0), (1, .v (.int .i64 a1))] [.box [.sl 1, .v (.int .i64 a0_1), .sl 5, .sl 3, .sl 4], .row false (.ints .i64 a0_0), .dead, .row true (.pairs a0_3), .row false (.ints .i64 a0_4), .row true (.ints .i64 a0_2)] (by rfl) (by rfl) (by exact rfl) ?_
  refine awp_move 3 [(0, .pp 0 0), (1, .v (.int .i64 a1))] [.box [.sl 1, .v (.int .i64 a0_1), .sl 5, .sl 6, .sl 4], .row false (.ints .i64 a0_0), .dead, .dead, .row false (.ints .i64 a0_4), .row true (.ints .i64 a0_2), .row true (.pairs a0_3)] (by rfl) (by rfl) (by exact rfl) ?_
  refine awp_reg ftCOk [(0, .pp 0 0), (1, .v (.int .i64 a1))] [.box [.sl 1, .v (.int .i64 a0_1), .sl 5, .sl 6, .sl 4], .row false (.ints .i64 a0_0), .dead, .dead, .row false (.ints .i64 a0_4), .row true (.ints .i64 a0_2), .row true (.pairs a0_3)] ?_
  refine awp_seq fun K2 hK2 => ?_
  refine awp_reg ftCOk [(0, .pp 0 0), (1, .v (.int .i64 a1)), (12, .v (.bool ((a0_3.length : Int) == 0)))] [.box [.sl 1, .v (.int .i64 a0_1), .sl 5, .sl 6, .sl 4], .row false (.ints .i64 a0_0), .dead, .dead, .row false (.ints .i64 a0_4), .row true (.ints .i64 a0_2), .row true (.pairs a0_3)] ?_
  refine awp_cond (t := 12) rfl (fun hc3 => ?_) (fun hc3 => ?_)
  · replace h := bite_t h hc3
    refine awp_reg ftCOk [(4, .v (.bool false))] [.box [.sl 1, .v (.int .i64 a0_1), .sl 5, .sl 6, .sl 4], .row false (.ints .i64 a0_0), .dead, .dead, .row false (.ints .i64 a0_4), .row true (.ints .i64 a0_2), .row true (.pairs a0_3)] ?_
    refine awp_ret ?_
    (try simp only [Thn, InBlk, ↓reduceIte, Nat.reduceEqDiff])
    obtain rfl := Option.some.inj h
    refine ⟨by simp, _, [0, 1, 2, 3, 4, 5, 6], (by simp only [go_sem, Nat.reduceBEq, Nat.reduceLT, Nat.reduceAdd, Nat.reduceLeDiff, Nat.reduceSub, Nat.reduceEqDiff, Int.reduceToNat, reduceCtorEq, ↓reduceIte]; exact rfl), ?_, ?_, ?_, ?_⟩
    · first | exact trivial | exact ⟨trivial, trivial⟩ | exact ⟨trivial, trivial, trivial⟩ | exact ⟨trivial, trivial, trivial, trivial⟩ | (simp only [allP, and_true, true_and]; done) | (simp only [allP, and_true, true_and]; omega)
    · simp [selOk, pos]
    · simp
    · first | exact ⟨rfl, rfl⟩ | (simp only [go_sem, Nat.reduceBEq, Nat.reduceLT, Nat.reduceAdd, Nat.reduceLeDiff, Nat.reduceSub, Nat.reduceEqDiff, Int.reduceToNat, reduceCtorEq, ↓reduceIte]; done) | (simp [go_sem, Nat.reduceBEq, Nat.reduceLT, Nat.reduceAdd, Nat.reduceLeDiff, Nat.reduceSub, Nat.reduceEqDiff, Int.reduceToNat, reduceCtorEq, ↓reduceIte]; done) | (simp only [go_sem, Nat.reduceBEq, Nat.reduceLT, Nat.reduceAdd, Nat.reduceLeDiff, Nat.reduceSub, Nat.reduceEqDiff, Int.reduceToNat, reduceCtorEq, ↓reduceIte]; exact ⟨rfl, rfl⟩) | (simp_all [go_sem, Nat.reduceBEq, Nat.reduceLT, Nat.reduceAdd, Nat.reduceLeDiff, Nat.reduceSub, Nat.reduceEqDiff, Int.reduceToNat, reduceCtorEq, ↓reduceIte]; done)
  · replace h := bite_f h hc3
    refine awp_skip ?_
    (try simp only [Thn, InBlk, ↓reduceIte, Nat.reduceEqDiff])
    refine hK2 _ _ ?_
    clear hK2
    replace h := chk_some h
    obtain ⟨hp0, h⟩ := h
    replace h := chk_some h
    obtain ⟨hp1, h⟩ := h
    refine awp_to [(0, .pp 0 0), (1, .v (.int .i64 a1)), (5, .pp 8 0), (6, .sl 7)] [.box [.sl 1, .v (.int .i64 a0_1), .sl 5, .sl 6, .sl 4], .row false (.ints .i64 a0_0), .dead, .dead, .row false (.ints .i64 a0_4), .row true (.ints .i64 a0_2), .row true (.pairs a0_3), .view 6 (.pairs ((a0_3.take a0_3.length).drop 1)), .box [.v (.int .i64 ((a0_3.getD 0 (0, 0)).1)), .v (.int .i64 ((a0_3.getD 0 (0, 0)).2))]] ?_ ?_
    · clear h
      intro K hK
      refine awp_drawL [0, 1, 2, 3, 4, 5, 6] [0, 1, 2, 6, 7, 8] 8 #[true, true, true, false, false, false, true, true, true, false, false, false, false, false] mixed ftCOk (by kernel_rfl) (by first | rfl | kernel_rfl) (by rfl) (by simp) fun L hL => ?_
      have n7 : L 0 #[true, true, true, true, true, true, true, true, true, true, true, true, true, true] [(0, .pp 0 0), (1, .v (.int .i64 a1)), (5, .pp 8 0), (6, .sl 7), (12, .v (.bool ((a0_3.length : Int) == 0))), (13, .pp 0 0), (14, .pp 0 0), (15, .pp 0 3), (16, .sl 6), (17, .ep 6 0 2 0), (18, .agg [.v (.int .i64 ((a0_3.getD 0 (0, 0)).1)), .v (.int .i64 ((a0_3.getD 0 (0, 0)).2))]), (19, .pp 0 0), (20, .pp 0 0), (21, .pp 0 3), (22, .sl 6), (23, .sl 7)] [.box [.sl 1, .v (.int .i64 a0_1), .sl 5, .sl 6, .sl 4], .row false (.ints .i64 a0_0), .dead, .dead, .row false (.ints .i64 a0_4), .row true (.ints .i64 a0_2), .row true (.pairs a0_3), .view 6 (.pairs ((a0_3.take a0_3.length).drop 1)), .box [.v (.int .i64 ((a0_3.getD 0 (0, 0)).1)), .v (.int .i64 ((a0_3.getD 0 (0, 0)).2))]] := by
        exact hL.fin (by kernel_rfl) (hK _ _ Red.auto)
      have n6 : L 2 #[true, true, true, true, true, true, true, true, true, true, true, true, false, false] [(0, .pp 0 0), (1, .v (.int .i64 a1)), (5, .pp 8 0), (12, .v (.bool ((a0_3.length : Int) == 0))), (13, .pp 0 0), (14, .pp 0 0), (15, .pp 0 3), (16, .sl 6), (17, .ep 6 0 2 0), (18, .agg [.v (.int .i64 ((a0_3.getD 0 (0, 0)).1)), .v (.int .i64 ((a0_3.getD 0 (0, 0)).2))]), (19, .pp 0 0), (20, .pp 0 0), (21, .pp 0 3), (22, .sl 6), (23, .sl 7)] [.box [.sl 1, .v (.int .i64 a0_1), .sl 5, .sl 6, .sl 4], .row false (.ints .i64 a0_0), .dead, .dead, .row false (.ints .i64 a0_4), .row true (.ints .i64 a0_2), .row true (.pairs a0_3), .view 6 (.pairs ((a0_3.take a0_3.length).drop 1)), .box [.v (.int .i64 0), .v (.int .i64 0)]] := by
        refine hL.step [(12, [13], 0, #[true, true, true, true, true, true, true, true, true, true, true, true, true, true])] (by kernel_rfl) ⟨?_, trivial⟩
        · exact hL.edge n7
      have n5 : L 3 #[true, true, true, true, true, true, true, true, true, true, true, false, false, false] [(0, .pp 0 0), (1, .v (.int .i64 a1)), (12, .v (.bool ((a0_3.length : Int) == 0))), (13, .pp 0 0), (14, .pp 0 0), (15, .pp 0 3), (16, .sl 6), (17, .ep 6 0 2 0), (18, .agg [.v (.int .i64 ((a0_3.getD 0 (0, 0)).1)), .v (.int .i64 ((a0_3.getD 0 (0, 0)).2))]), (19, .pp 0 0), (20, .pp 0 0), (21, .pp 0 3), (22, .sl 6), (23, .sl 7)] [.box [.sl 1, .v (.int .i64 a0_1), .sl 5, .sl 6, .sl 4], .row false (.ints .i64 a0_0), .dead, .dead, .row false (.ints .i64 a0_4), .row true (.ints .i64 a0_2), .row true (.pairs a0_3), .view 6 (.pairs ((a0_3.take a0_3.length).drop 1))] := by
        refine hL.step [(11, [], 2, #[true, true, true, true, true, true, true, true, true, true, true, true, false, false])] (by kernel_rfl) ⟨?_, trivial⟩
        · exact hL.edge n6
      have n9 : L 2 #[true, true, true, true, true, true, true, true, true, true, false, true, true, false] [(0, .pp 0 0), (1, .v (.int .i64 a1)), (5, .pp 7 0), (12, .v (.bool ((a0_3.length : Int) == 0))), (13, .pp 0 0), (14, .pp 0 0), (15, .pp 0 3), (16, .sl 6), (17, .ep 6 0 2 0), (18, .agg [.v (.int .i64 ((a0_3.getD 0 (0, 0)).1)), .v (.int .i64 ((a0_3.getD 0 (0, 0)).2))]), (19, .pp 0 0), (20, .pp 0 0), (21, .pp 0 3), (22, .sl 6)] [.box [.sl 1, .v (.int .i64 a0_1), .sl 5, .sl 6, .sl 4], .row false (.ints .i64 a0_0), .dead, .dead, .row false (.ints .i64 a0_4), .row true (.ints .i64 a0_2), .row true (.pairs a0_3), .box [.v (.int .i64 ((a0_3.getD 0 (0, 0)).1)), .v (.int .i64 ((a0_3.getD 0 (0, 0)).2))]] := by
        refine hL.step [(10, [13], 0, #[true, true, true, true, true, true, true, true, true, true, true, true, true, true])] (by kernel_rfl) ⟨?_, trivial⟩
        · exact hL.edgeS [0, 1, 2, 3, 4, 5, 6, 8, 7] n7
      have n8 : L 3 #[true, true, true, true, true, true, true, true, true, true, false, true, false, false] [(0, .pp 0 0), (1, .v (.int .i64 a1)), (5, .pp 7 0), (12, .v (.bool ((a0_3.length : Int) == 0))), (13, .pp 0 0), (14, .pp 0 0), (15, .pp 0 3), (16, .sl 6), (17, .ep 6 0 2 0), (18, .agg [.v (.int .i64 ((a0_3.getD 0 (0, 0)).1)), .v (.int .i64 ((a0_3.getD 0 (0, 0)).2))]), (19, .pp 0 0), (20, .pp 0 0), (21, .pp 0 3), (22, .sl 6)] [.box [.sl 1, .v (.int .i64 a0_1), .sl 5, .sl 6, .sl 4], .row false (.ints .i64 a0_0), .dead, .dead, .row false (.ints .i64 a0_4), .row true (.ints .i64 a0_2), .row true (.pairs a0_3), .box [.v (.int .i64 0), .v (.int .i64 0)]] := by
        refine hL.step [(10, [], 2, #[true, true, true, true, true, true, true, true, true, true, true, true, false, false]), (12, [], 2, #[true, true, true, true, true, true, true, true, true, true, false, true, true, false])] (by kernel_rfl) ⟨?_, ?_, trivial⟩
        · exact hL.edgeS [0, 1, 2, 3, 4, 5, 6, 8, 7] n6
        · exact hL.edge n9
      have n4 : L 4 #[true, true, true, true, true, true, true, true, true, true, false, false, false, false] [(0, .pp 0 0), (1, .v (.int .i64 a1)), (12, .v (.bool ((a0_3.length : Int) == 0))), (13, .pp 0 0), (14, .pp 0 0), (15, .pp 0 3), (16, .sl 6), (17, .ep 6 0 2 0), (18, .agg [.v (.int .i64 ((a0_3.getD 0 (0, 0)).1)), .v (.int .i64 ((a0_3.getD 0 (0, 0)).2))]), (19, .pp 0 0), (20, .pp 0 0), (21, .pp 0 3), (22, .sl 6)] [.box [.sl 1, .v (.int .i64 a0_1), .sl 5, .sl 6, .sl 4], .row false (.ints .i64 a0_0), .dead, .dead, .row false (.ints .i64 a0_4), .row true (.ints .i64 a0_2), .row true (.pairs a0_3)] := by
        refine hL.step [(10, [], 3, #[true, true, true, true, true, true, true, true, true, true, true, false, false, false]), (11, [], 3, #[true, true, true, true, true, true, true, true, true, true, false, true, false, false])] (by kernel_rfl) ⟨?_, ?_, trivial⟩
        · exact hL.edge n5
        · exact hL.edge n8
      have n11 : L 3 #[true, true, true, true, true, true, true, true, true, false, false, true, true, false] [(0, .pp 0 0), (1, .v (.int .i64 a1)), (5, .pp 7 0), (12, .v (.bool ((a0_3.length : Int) == 0))), (13, .pp 0 0), (14, .pp 0 0), (15, .pp 0 3), (16, .sl 6), (17, .ep 6 0 2 0), (18, .agg [.v (.int .i64 ((a0_3.getD 0 (0, 0)).1)), .v (.int .i64 ((a0_3.getD 0 (0, 0)).2))]), (19, .pp 0 0), (20, .pp 0 0), (21, .pp 0 3)] [.box [.sl 1, .v (.int .i64 a0_1), .sl 5, .sl 6, .sl 4], .row false (.ints .i64 a0_0), .dead, .dead, .row false (.ints .i64 a0_4), .row true (.ints .i64 a0_2), .row true (.pairs a0_3), .box [.v (.int .i64 ((a0_3.getD 0 (0, 0)).1)), .v (.int .i64 ((a0_3.getD 0 (0, 0)).2))]] := by
        refine hL.step [(9, [], 2, #[true, true, true, true, true, true, true, true, true, true, false, true, true, false])] (by kernel_rfl) ⟨?_, trivial⟩
        · exact hL.edge n9
      have n10 : L 4 #[true, true, true, true, true, true, true, true, true, false, false, true, false, false] [(0, .pp 0 0), (1, .v (.int .i64 a1)), (5, .pp 7 0), (12, .v (.bool ((a0_3.length : Int) == 0))), (13, .pp 0 0), (14, .pp 0 0), (15, .pp 0 3), (16, .sl 6), (17, .ep 6 0 2 0), (18, .agg [.v (.int .i64 ((a0_3.getD 0 (0, 0)).1)), .v (.int .i64 ((a0_3.getD 0 (0, 0)).2))]), (19, .pp 0 0), (20, .pp 0 0), (21, .pp 0 3)] [.box [.sl 1, .v (.int .i64 a0_1), .sl 5, .sl 6, .sl 4], .row false (.ints .i64 a0_0), .dead, .dead, .row false (.ints .i64 a0_4), .row true (.ints .i64 a0_2), .row true (.pairs a0_3), .box [.v (.int .i64 0), .v (.int .i64 0)]] := by
        refine hL.step [(9, [], 3, #[true, true, true, true, true, true, true, true, true, true, false, true, false, false]), (12, [], 3, #[true, true, true, true, true, true, true, true, true, false, false, true, true, false])] (by kernel_rfl) ⟨?_, ?_, trivial⟩
        · exact hL.edge n8
        · exact hL.edge n11
      have n3 : L 5 #[true, true, true, true, true, true, true, true, true, false, false, false, false, false] [(0, .pp 0 0), (1, .v (.int .i64 a1)), (12, .v (.bool ((a0_3.length : Int) == 0))), (13, .pp 0 0), (14, .pp 0 0), (15, .pp 0 3), (16, .sl 6), (17, .ep 6 0 2 0), (18, .agg [.v (.int .i64 ((a0_3.getD 0 (0, 0)).1)), .v (.int .i64 ((a0_3.getD 0 (0, 0)).2))]), (19, .pp 0 0), (20, .pp 0 0), (21, .pp 0 3)] [.box [.sl 1, .v (.int .i64 a0_1), .sl 5, .sl 6, .sl 4], .row false (.ints .i64 a0_0), .dead, .dead, .row false (.ints .i64 a0_4), .row true (.ints .i64 a0_2), .row true (.pairs a0_3)] := by
        refine hL.step [(9, [], 4, #[true, true, true, true, true, true, true, true, true, true, false, false, false, false]), (11, [], 4, #[true, true, true, true, true, true, true, true, true, false, false, true, false, false])] (by kernel_rfl) ⟨?_, ?_, trivial⟩
        · exact hL.edge n4
        · exact hL.edge n10
      have n14 : L 3 #[true, true, true, true, true, false, true, true, true, true, true, true, false, false] [(0, .pp 0 0), (1, .v (.int .i64 a1)), (5, .pp 8 0), (12, .v (.bool ((a0_3.length : Int) == 0))), (13, .pp 0 0), (14, .pp 0 0), (15, .pp 0 3), (16, .sl 6), (17, .ep 6 0 2 0), (19, .pp 0 0), (20, .pp 0 0), (21, .pp 0 3), (22, .sl 6), (23, .sl 7)] [.box [.sl 1, .v (.int .i64 a0_1), .sl 5, .sl 6, .sl 4], .row false (.ints .i64 a0_0), .dead, .dead, .row false (.ints .i64 a0_4), .row true (.ints .i64 a0_2), .row true (.pairs a0_3), .view 6 (.pairs ((a0_3.take a0_3.length).drop 1)), .box [.v (.int .i64 0), .v (.int .i64 0)]] := by
        refine hL.step [(5, [], 2, #[true, true, true, true, true, true, true, true, true, true, true, true, false, false])] (by kernel_rfl) ⟨?_, trivial⟩
        · exact hL.edge n6
      have n13 : L 4 #[true, true, true, true, true, false, true, true, true, true, true, false, false, false] [(0, .pp 0 0), (1, .v (.int .i64 a1)), (12, .v (.bool ((a0_3.length : Int) == 0))), (13, .pp 0 0), (14, .pp 0 0), (15, .pp 0 3), (16, .sl 6), (17, .ep 6 0 2 0), (19, .pp 0 0), (20, .pp 0 0), (21, .pp 0 3), (22, .sl 6), (23, .sl 7)] [.box [.sl 1, .v (.int .i64 a0_1), .sl 5, .sl 6, .sl 4], .row false (.ints .i64 a0_0), .dead, .dead, .row false (.ints .i64 a0_4), .row true (.ints .i64 a0_2), .row true (.pairs a0_3), .view 6 (.pairs ((a0_3.take a0_3.length).drop 1))] := by
        refine hL.step [(5, [], 3, #[true, true, true, true, true, true, true, true, true, true, true, false, false, false]), (11, [], 3, #[true, true, true, true, true, false, true, true, true, true, true, true, false, false])] (by kernel_rfl) ⟨?_, ?_, trivial⟩
        · exact hL.edge n5
        · exact hL.edge n14
      have n15 : L 4 #[true, true, true, true, true, false, true, true, true, true, false, true, false, false] [(0, .pp 0 0), (1, .v (.int .i64 a1)), (5, .pp 7 0), (12, .v (.bool ((a0_3.length : Int) == 0))), (13, .pp 0 0), (14, .pp 0 0), (15, .pp 0 3), (16, .sl 6), (17, .ep 6 0 2 0), (19, .pp 0 0), (20, .pp 0 0), (21, .pp 0 3), (22, .sl 6)] [.box [.sl 1, .v (.int .i64 a0_1), .sl 5, .sl 6, .sl 4], .row false (.ints .i64 a0_0), .dead, .dead, .row false (.ints .i64 a0_4), .row true (.ints .i64 a0_2), .row true (.pairs a0_3), .box [.v (.int .i64 0), .v (.int .i64 0)]] := by
        refine hL.step [(5, [], 3, #[true, true, true, true, true, true, true, true, true, true, false, true, false, false]), (10, [], 3, #[true, true, true, true, true, false, true, true, true, true, true, true, false, false])] (by kernel_rfl) ⟨?_, ?_, trivial⟩
        · exact hL.edge n8
        · exact hL.edgeS [0, 1, 2, 3, 4, 5, 6, 8, 7] n14
      have n12 : L 5 #[true, true, true, true, true, false, true, true, true, true, false, false, false, false] [(0, .pp 0 0), (1, .v (.int .i64 a1)), (12, .v (.bool ((a0_3.length : Int) == 0))), (13, .pp 0 0), (14, .pp 0 0), (15, .pp 0 3), (16, .sl 6), (17, .ep 6 0 2 0), (19, .pp 0 0), (20, .pp 0 0), (21, .pp 0 3), (22, .sl 6)] [.box [.sl 1, .v (.int .i64 a0_1), .sl 5, .sl 6, .sl 4], .row false (.ints .i64 a0_0), .dead, .dead, .row false (.ints .i64 a0_4), .row true (.ints .i64 a0_2), .row true (.pairs a0_3)] := by
        refine hL.step [(5, [], 4, #[true, true, true, true, true, true, true, true, true, true, false, false, false, false]), (10, [], 4, #[true, true, true, true, true, false, true, true, true, true, true, false, false, false]), (11, [], 4, #[true, true, true, true, true, false, true, true, true, true, false, true, false, false])] (by kernel_rfl) ⟨?_, ?_, ?_, trivial⟩
        · exact hL.edge n4
        · exact hL.edge n13
        · exact hL.edge n15
      have n16 : L 5 #[true, true, true, true, true, false, true, true, true, false, false, true, false, false] [(0, .pp 0 0), (1, .v (.int .i64 a1)), (5, .pp 7 0), (12, .v (.bool ((a0_3.length : Int) == 0))), (13, .pp 0 0), (14, .pp 0 0), (15, .pp 0 3), (16, .sl 6), (17, .ep 6 0 2 0), (19, .pp 0 0), (20, .pp 0 0), (21, .pp 0 3)] [.box [.sl 1, .v (.int .i64 a0_1), .sl 5, .sl 6, .sl 4], .row false (.ints .i64 a0_0), .dead, .dead, .row false (.ints .i64 a0_4), .row true (.ints .i64 a0_2), .row true (.pairs a0_3), .box [.v (.int .i64 0), .v (.int .i64 0)]] := by
        refine hL.step [(5, [], 4, #[true, true, true, true, true, true, true, true, true, false, false, true, false, false]), (9, [], 4, #[true, true, true, true, true, false, true, true, true, true, false, true, false, false])] (by kernel_rfl) ⟨?_, ?_, trivial⟩
        · exact hL.edge n10
        · exact hL.edge n15
      have n2 : L 6 #[true, true, true, true, true, false, true, true, true, false, false, false, false, false] [(0, .pp 0 0), (1, .v (.int .i64 a1)), (12, .v (.bool ((a0_3.length : Int) == 0))), (13, .pp 0 0), (14, .pp 0 0), (15, .pp 0 3), (16, .sl 6), (17, .ep 6 0 2 0), (19, .pp 0 0), (20, .pp 0 0), (21, .pp 0 3)] [.box [.sl 1, .v (.int .i64 a0_1), .sl 5, .sl 6, .sl 4], .row false (.ints .i64 a0_0), .dead, .dead, .row false (.ints .i64 a0_4), .row true (.ints .i64 a0_2), .row true (.pairs a0_3)] := by
        refine hL.step [(5, [], 5, #[true, true, true, true, true, true, true, true, true, false, false, false, false, false]), (9, [], 5, #[true, true, true, true, true, false, true, true, true, true, false, false, false, false]), (11, [], 5, #[true, true, true, true, true, false, true, true, true, false, false, true, false, false])] (by kernel_rfl) ⟨?_, ?_, ?_, trivial⟩
        · exact hL.edge n3
        · exact hL.edge n12
        · exact hL.edge n16
      have n19 : L 4 #[true, true, true, true, false, false, true, true, true, true, true, true, false, false] [(0, .pp 0 0), (1, .v (.int .i64 a1)), (5, .pp 8 0), (12, .v (.bool ((a0_3.length : Int) == 0))), (13, .pp 0 0), (14, .pp 0 0), (15, .pp 0 3), (16, .sl 6), (19, .pp 0 0), (20, .pp 0 0), (21, .pp 0 3), (22, .sl 6), (23, .sl 7)] [.box [.sl 1, .v (.int .i64 a0_1), .sl 5, .sl 6, .sl 4], .row false (.ints .i64 a0_0), .dead, .dead, .row false (.ints .i64 a0_4), .row true (.ints .i64 a0_2), .row true (.pairs a0_3), .view 6 (.pairs ((a0_3.take a0_3.length).drop 1)), .box [.v (.int .i64 0), .v (.int .i64 0)]] := by
        refine hL.step [(4, [], 3, #[true, true, true, true, true, false, true, true, true, true, true, true, false, false])] (by kernel_rfl) ⟨?_, trivial⟩
        · exact hL.edge n14
      have n18 : L 5 #[true, true, true, true, false, false, true, true, true, true, true, false, false, false] [(0, .pp 0 0), (1, .v (.int .i64 a1)), (12, .v (.bool ((a0_3.length : Int) == 0))), (13, .pp 0 0), (14, .pp 0 0), (15, .pp 0 3), (16, .sl 6), (19, .pp 0 0), (20, .pp 0 0), (21, .pp 0 3), (22, .sl 6), (23, .sl 7)] [.box [.sl 1, .v (.int .i64 a0_1), .sl 5, .sl 6, .sl 4], .row false (.ints .i64 a0_0), .dead, .dead, .row false (.ints .i64 a0_4), .row true (.ints .i64 a0_2), .row true (.pairs a0_3), .view 6 (.pairs ((a0_3.take a0_3.length).drop 1))] := by
        refine hL.step [(4, [], 4, #[true, true, true, true, true, false, true, true, true, true, true, false, false, false]), (11, [], 4, #[true, true, true, true, false, false, true, true, true, true, true, true, false, false])] (by kernel_rfl) ⟨?_, ?_, trivial⟩
        · exact hL.edge n13
        · exact hL.edge n19
      have n20 : L 5 #[true, true, true, true, false, false, true, true, true, true, false, true, false, false] [(0, .pp 0 0), (1, .v (.int .i64 a1)), (5, .pp 7 0), (12, .v (.bool ((a0_3.length : Int) == 0))), (13, .pp 0 0), (14, .pp 0 0), (15, .pp 0 3), (16, .sl 6), (19, .pp 0 0), (20, .pp 0 0), (21, .pp 0 3), (22, .sl 6)] [.box [.sl 1, .v (.int .i64 a0_1), .sl 5, .sl 6, .sl 4], .row false (.ints .i64 a0_0), .dead, .dead, .row false (.ints .i64 a0_4), .row true (.ints .i64 a0_2), .row true (.pairs a0_3), .box [.v (.int .i64 0), .v (.int .i64 0)]] := by
        refine hL.step [(4, [], 4, #[true, true, true, true, true, false, true, true, true, true, false, true, false, false]), (10, [], 4, #[true, true, true, true, false, false, true, true, true, true, true, true, false, false])] (by kernel_rfl) ⟨?_, ?_, trivial⟩
        · exact hL.edge n15
        · exact hL.edgeS [0, 1, 2, 3, 4, 5, 6, 8, 7] n19
      have n17 : L 6 #[true, true, true, true, false, false, true, true, true, true, false, false, false, false] [(0, .pp 0 0), (1, .v (.int .i64 a1)), (12, .v (.bool ((a0_3.length : Int) == 0))), (13, .pp 0 0), (14, .pp 0 0), (15, .pp 0 3), (16, .sl 6), (19, .pp 0 0), (20, .pp 0 0), (21, .pp 0 3), (22, .sl 6)] [.box [.sl 1, .v (.int .i64 a0_1), .sl 5, .sl 6, .sl 4], .row false (.ints .i64 a0_0), .dead, .dead, .row false (.ints .i64 a0_4), .row true (.ints .i64 a0_2), .row true (.pairs a0_3)] := by
        refine hL.step [(4, [], 5, #[true, true, true, true, true, false, true, true, true, true, false, false, false, false]), (10, [], 5, #[true, true, true, true, false, false, true, true, true, true, true, false, false, false]), (11, [], 5, #[true, true, true, true, false, false, true, true, true, true, false, true, false, false])] (by kernel_rfl) ⟨?_, ?_, ?_, trivial⟩
        · exact hL.edge n12
        · exact hL.edge n18
        · exact hL.edge n20
      have n21 : L 6 #[true, true, true, true, false, false, true, true, true, false, false, true, false, false] [(0, .pp 0 0), (1, .v (.int .i64 a1)), (5, .pp 7 0), (12, .v (.bool ((a0_3.length : Int) == 0))), (13, .pp 0 0), (14, .pp 0 0), (15, .pp 0 3), (16, .sl 6), (19, .pp 0 0), (20, .pp 0 0), (21, .pp 0 3)] [.box [.sl 1, .v (.int .i64 a0_1), .sl 5, .sl 6, .sl 4], .row false (.ints .i64 a0_0), .dead, .dead, .row false (.ints .i64 a0_4), .row true (.ints .i64 a0_2), .row true (.pairs a0_3), .box [.v (.int .i64 0), .v (.int .i64 0)]] := by
        refine hL.step [(4, [], 5, #[true, true, true, true, true, false, true, true, true, false, false, true, false, false]), (9, [], 5, #[true, true, true, true, false, false, true, true, true, true, false, true, false, false])] (by kernel_rfl) ⟨?_, ?_, trivial⟩
        · exact hL.edge n16
        · exact hL.edge n20
      have n1 : L 7 #[true, true, true, true, false, false, true, true, true, false, false, false, false, false] [(0, .pp 0 0), (1, .v (.int .i64 a1)), (12, .v (.bool ((a0_3.length : Int) == 0))), (13, .pp 0 0), (14, .pp 0 0), (15, .pp 0 3), (16, .sl 6), (19, .pp 0 0), (20, .pp 0 0), (21, .pp 0 3)] [.box [.sl 1, .v (.int .i64 a0_1), .sl 5, .sl 6, .sl 4], .row false (.ints .i64 a0_0), .dead, .dead, .row false (.ints .i64 a0_4), .row true (.ints .i64 a0_2), .row true (.pairs a0_3)] := by
        refine hL.step [(4, [], 6, #[true, true, true, true, true, false, true, true, true, false, false, false, false, false]), (9, [], 6, #[true, true, true, true, false, false, true, true, true, true, false, false, false, false]), (11, [], 6, #[true, true, true, true, false, false, true, true, true, false, false, true, false, false])] (by kernel_rfl) ⟨?_, ?_, ?_, trivial⟩
        · exact hL.edge n2
        · exact hL.edge n17
        · exact hL.edge n21
      have n24 : L 5 #[true, true, true, false, false, false, true, true, true, true, true, true, false, false] [(0, .pp 0 0), (1, .v (.int .i64 a1)), (5, .pp 8 0), (12, .v (.bool ((a0_3.length : Int) == 0))), (13, .pp 0 0), (14, .pp 0 0), (15, .pp 0 3), (19, .pp 0 0), (20, .pp 0 0), (21, .pp 0 3), (22, .sl 6), (23, .sl 7)] [.box [.sl 1, .v (.int .i64 a0_1), .sl 5, .sl 6, .sl 4], .row false (.ints .i64 a0_0), .dead, .dead, .row false (.ints .i64 a0_4), .row true (.ints .i64 a0_2), .row true (.pairs a0_3), .view 6 (.pairs ((a0_3.take a0_3.length).drop 1)), .box [.v (.int .i64 0), .v (.int .i64 0)]] := by
        refine hL.step [(3, [], 4, #[true, true, true, true, false, false, true, true, true, true, true, true, false, false])] (by kernel_rfl) ⟨?_, trivial⟩
        · exact hL.edge n19
      have n23 : L 6 #[true, true, true, false, false, false, true, true, true, true, true, false, false, false] [(0, .pp 0 0), (1, .v (.int .i64 a1)), (12, .v (.bool ((a0_3.length : Int) == 0))), (13, .pp 0 0), (14, .pp 0 0), (15, .pp 0 3), (19, .pp 0 0), (20, .pp 0 0), (21, .pp 0 3), (22, .sl 6), (23, .sl 7)] [.box [.sl 1, .v (.int .i64 a0_1), .sl 5, .sl 6, .sl 4], .row false (.ints .i64 a0_0), .dead, .dead, .row false (.ints .i64 a0_4), .row true (.ints .i64 a0_2), .row true (.pairs a0_3), .view 6 (.pairs ((a0_3.take a0_3.length).drop 1))] := by
        refine hL.step [(3, [], 5, #[true, true, true, true, false, false, true, true, true, true, true, false, false, false]), (11, [], 5, #[true, true, true, false, false, false, true, true, true, true, true, true, false, false])] (by kernel_rfl) ⟨?_, ?_, trivial⟩
        · exact hL.edge n18
        · exact hL.edge n24
      have n25 : L 6 #[true, true, true, false, false, false, true, true, true, true, false, true, false, false] [(0, .pp 0 0), (1, .v (.int .i64 a1)), (5, .pp 7 0), (12, .v (.bool ((a0_3.length : Int) == 0))), (13, .pp 0 0), (14, .pp 0 0), (15, .pp 0 3), (19, .pp 0 0), (20, .pp 0 0), (21, .pp 0 3), (22, .sl 6)] [.box [.sl 1, .v (.int .i64 a0_1), .sl 5, .sl 6, .sl 4], .row false (.ints .i64 a0_0), .dead, .dead, .row false (.ints .i64 a0_4), .row true (.ints .i64 a0_2), .row true (.pairs a0_3), .box [.v (.int .i64 0), .v (.int .i64 0)]] := by
        refine hL.step [(3, [], 5, #[true, true, true, true, false, false, true, true, true, true, false, true, false, false]), (10, [], 5, #[true, true, true, false, false, false, true, true, true, true, true, true, false, false])] (by kernel_rfl) ⟨?_, ?_, trivial⟩
        · exact hL.edge n20
        · exact hL.edgeS [0, 1, 2, 3, 4, 5, 6, 8, 7] n24
      have n22 : L 7 #[true, true, true, false, false, false, true, true, true, true, false, false, false, false] [(0, .pp 0 0), (1, .v (.int .i64 a1)), (12, .v (.bool ((a0_3.length : Int) == 0))), (13, .pp 0 0), (14, .pp 0 0), (15, .pp 0 3), (19, .pp 0 0), (20, .pp 0 0), (21, .pp 0 3), (22, .sl 6)] [.box [.sl 1, .v (.int .i64 a0_1), .sl 5, .sl 6, .sl 4], .row false (.ints .i64 a0_0), .dead, .dead, .row false (.ints .i64 a0_4), .row true (.ints .i64 a0_2), .row true (.pairs a0_3)] := by
        refine hL.step [(3, [], 6, #[true, true, true, true, false, false, true, true, true, true, false, false, false, false]), (10, [], 6, #[true, true, true, false, false, false, true, true, true, true, true, false, false, false]), (11, [], 6, #[true, true, true, false, false, false, true, true, true, true, false, true, false, false])] (by kernel_rfl) ⟨?_, ?_, ?_, trivial⟩
        · exact hL.edge n17
        · exact hL.edge n23
        · exact hL.edge n25
      have n26 : L 7 #[true, true, true, false, false, false, true, true, true, false, false, true, false, false] [(0, .pp 0 0), (1, .v (.int .i64 a1)), (5, .pp 7 0), (12, .v (.bool ((a0_3.length : Int) == 0))), (13, .pp 0 0), (14, .pp 0 0), (15, .pp 0 3), (19, .pp 0 0), (20, .pp 0 0), (21, .pp 0 3)] [.box [.sl 1, .v (.int .i64 a0_1), .sl 5, .sl 6, .sl 4], .row false (.ints .i64 a0_0), .dead, .dead, .row false (.ints .i64 a0_4), .row true (.ints .i64 a0_2), .row true (.pairs a0_3), .box [.v (.int .i64 0), .v (.int .i64 0)]] := by
        refine hL.step [(3, [], 6, #[true, true, true, true, false, false, true, true, true, false, false, true, false, false]), (9, [], 6, #[true, true, true, false, false, false, true, true, true, true, false, true, false, false])] (by kernel_rfl) ⟨?_, ?_, trivial⟩
        · exact hL.edge n21
        · exact hL.edge n25
      have n0 : L 8 #[true, true, true, false, false, false, true, true, true, false, false, false, false, false] [(0, .pp 0 0), (1, .v (.int .i64 a1)), (12, .v (.bool ((a0_3.length : Int) == 0))), (13, .pp 0 0), (14, .pp 0 0), (15, .pp 0 3), (19, .pp 0 0), (20, .pp 0 0), (21, .pp 0 3)] [.box [.sl 1, .v (.int .i64 a0_1), .sl 5, .sl 6, .sl 4], .row false (.ints .i64 a0_0), .dead, .dead, .row false (.ints .i64 a0_4), .row true (.ints .i64 a0_2), .row true (.pairs a0_3)] := by
        refine hL.step [(3, [], 7, #[true, true, true, true, false, false, true, true, true, false, false, false, false, false]), (9, [], 7, #[true, true, true, false, false, false, true, true, true, true, false, false, false, false]), (11, [], 7, #[true, true, true, false, false, false, true, true, true, false, false, true, false, false])] (by kernel_rfl) ⟨?_, ?_, ?_, trivial⟩
        · exact hL.edge n1
        · exact hL.edge n22
        · exact hL.edge n26
      simp (maxSteps := 4000000) only [go_sem, Nat.reduceBEq, Nat.reduceLT, Nat.reduceAdd, Nat.reduceLeDiff, Nat.reduceSub, Nat.reduceEqDiff, Int.reduceToNat, reduceCtorEq, ↓reduceIte]
      repeat' (first | refine And.intro ?_ ?_ | intro hg)
      all_goals (try simp (disch := omega) only [wrap_fits])
      all_goals first
        | (refine hL.red ?_ n0; exact Red.auto)
        | exact trivial
        | assumption
        | omega
        | exact wrap_fits (by omega) (by omega)
        | (simp (maxSteps := 4000000) only [go_sem, Nat.reduceBEq, Nat.reduceLT, Nat.reduceAdd, Nat.reduceLeDiff, Nat.reduceSub, Nat.reduceEqDiff, Int.reduceToNat, reduceCtorEq, ↓reduceIte]
           repeat' (first | refine And.intro ?_ ?_ | intro hg)
           all_goals (try simp (disch := omega) only [wrap_fits])
           all_goals first | (refine hL.red ?_ n0; exact Red.auto) | exact trivial | assumption | omega | exact wrap_fits (by omega) (by omega))
        | (simp_all; done)
        | (simp_all; omega)
    · clear hp0 hp1
      refine awp_join h (fun ((p0_2s, p0_3s) : List Int × (List (Int × Int))) => []) (fun ((p0_2s, p0_3s) : List Int × (List (Int × Int))) => [.box [.sl 1, .v (.int .i64 a0_1), .sl 5, .sl 6, .sl 4], .row false (.ints .i64 a0_0), .dead, .dead, .row false (.ints .i64 a0_4), .row true (.ints .i64 p0_2s), .row true (.pairs p0_3s)]) ?_ ?_
      · clear h
        intro k h
        try dsimp only at h
        refine awp_reg ftCOk [(0, .pp 0 0), (5, .pp 8 0), (6, .sl 7), (24, .v (.int .i64 a1))] [.box [.sl 1, .v (.int .i64 a0_1), .sl 5, .sl 6, .sl 4], .row false (.ints .i64 a0_0), .dead, .dead, .row false (.ints .i64 a0_4), .row true (.ints .i64 a0_2), .row true (.pairs a0_3), .view 6 (.pairs ((a0_3.take a0_3.length).drop 1)), .box [.v (.int .i64 ((a0_3.getD 0 (0, 0)).1)), .v (.int .i64 ((a0_3.getD 0 (0, 0)).2))]] ?_
        refine awp_block ?_
        refine awp_reg ftCOk [(0, .pp 0 0), (5, .pp 8 0), (6, .sl 7), (24, .v (.int .i64 a1)), (25, .v (.bool (a1 == 1)))] [.box [.sl 1, .v (.int .i64 a0_1), .sl 5, .sl 6, .sl 4], .row false (.ints .i64 a0_0), .dead, .dead, .row false (.ints .i64 a0_4), .row true (.ints .i64 a0_2), .row true (.pairs a0_3), .view 6 (.pairs ((a0_3.take a0_3.length).drop 1)), .box [.v (.int .i64 ((a0_3.getD 0 (0, 0)).1)), .v (.int .i64 ((a0_3.getD 0 (0, 0)).2))]] ?_
        refine awp_cond (t := 25) rfl (fun hc13 => ?_) (fun hc13 => ?_)
        · replace h := bite_t h hc13
          refine awp_join h (fun (p0_2s_1 : List Int) => [(0, .pp 0 0), (6, .sl 7)]) (fun (p0_2s_1 : List Int) => [.box [.sl 1, .v (.int .i64 a0_1), .sl 5, .sl 6, .sl 4], .row false (.ints .i64 a0_0), .dead, .dead, .row false (.ints .i64 a0_4), .row true (.ints .i64 p0_2s_1), .row true (.pairs a0_3), .view 6 (.pairs ((a0_3.take a0_3.length).drop 1))]) ?_ ?_
          · clear h
            intro k_1 h
            try dsimp only at h
            refine awp_regQ mixed ftCOk [(0, .pp 0 0), (5, .pp 8 0), (6, .sl 7), (34, .v (.bool ((a0_3.getD 0 (0, 0)).1 == (a0_2.length : Int))))] [.box [.sl 1, .v (.int .i64 a0_1), .sl 5, .sl 6, .sl 4], .row false (.ints .i64 a0_0), .dead, .dead, .row false (.ints .i64 a0_4), .row true (.ints .i64 a0_2), .row true (.pairs a0_3), .view 6 (.pairs ((a0_3.take a0_3.length).drop 1)), .box [.v (.int .i64 ((a0_3.getD 0 (0, 0)).1)), .v (.int .i64 ((a0_3.getD 0 (0, 0)).2))]] ?_
            refine awp_cond (t := 34) rfl (fun hc15 => ?_) (fun hc15 => ?_)
            · replace h := bite_t h hc15
              replace h := chk_some h
              obtain ⟨hp0, h⟩ := h
              refine awp_end [(0, .pp 0 0), (6, .sl 7)] [.box [.sl 1, .v (.int .i64 a0_1), .sl 5, .sl 6, .sl 4], .row false (.ints .i64 a0_0), .dead, .dead, .row false (.ints .i64 a0_4), .row true (.ints .i64 (a0_2 ++ [(a0_3.getD 0 (0, 0)).2])), .row true (.pairs a0_3), .view 6 (.pairs ((a0_3.take a0_3.length).drop 1)), .box [.v (.int .i64 ((a0_3.getD 0 (0, 0)).1)), .v (.int .i64 ((a0_3.getD 0 (0, 0)).2))], .row true (.ints .i64 [(a0_3.getD 0 (0, 0)).2])] ?_ ?_
              · clear h
                intro K hK
                refine awp_drawP [0, 1, 2, 3, 4, 6, 7, 8] (by first | rfl | kernel_rfl) (by rfl) mixed ftCOk (.free 0 (.free 1 (.free 2 (.free 3 (.free 5 (.two 4 6 (.one 6 (.one 7 (.one 8 (.one 9 (.one 10 (.one 11 .fin)))))) (.two 4 7 (.one 7 (.one 8 (.one 9 (.one 10 (.one 11 .fin))))) (.one 4 (.one 8 (.one 9 (.one 10 (.one 11 .fin)))))))))))) (by kernel_rfl) (by simp) ?_
                simp (maxSteps := 4000000) only [go_sem, Nat.reduceBEq, Nat.reduceLT, Nat.reduceAdd, Nat.reduceLeDiff, Nat.reduceSub, Nat.reduceEqDiff, Int.reduceToNat, reduceCtorEq, ↓reduceIte]
                repeat' (first | refine And.intro ?_ ?_ | intro hg)
                all_goals (try simp (disch := omega) only [wrap_fits])
                all_goals first
                  | (refine hK _ _ ?_; exact Red.auto)
                  | exact trivial
                  | assumption
                  | omega
                  | exact wrap_fits (by omega) (by omega)
                  | (simp (maxSteps := 4000000) only [go_sem, Nat.reduceBEq, Nat.reduceLT, Nat.reduceAdd, Nat.reduceLeDiff, Nat.reduceSub, Nat.reduceEqDiff, Int.reduceToNat, reduceCtorEq, ↓reduceIte]
                     repeat' (first | refine And.intro ?_ ?_ | intro hg)
                     all_goals (try simp (disch := omega) only [wrap_fits])
                     all_goals first | (refine hK _ _ ?_; exact Red.auto) | exact trivial | assumption | omega | exact wrap_fits (by omega) (by omega))
                  | (simp_all; done)
                  | (simp_all; omega)
              · clear hp0
                (try simp only [Thn, InBlk, ↓reduceIte, Nat.reduceEqDiff])
                refine ⟨_, h, ?_⟩
                exact Red.selA [0, 1, 2, 3, 4, 5, 6, 7] Red.auto
            · replace h := bite_f h hc15
              refine awp_skip ?_
              (try simp only [Thn, InBlk, ↓reduceIte, Nat.reduceEqDiff])
              refine ⟨_, h, ?_⟩
              exact Red.selA [0, 1, 2, 3, 4, 5, 6, 7] Red.auto
          · clear h
            rintro p0_2s_1 h
            try dsimp only at h
            try dsimp only
            refine awp_regE ftCOk [] [.box [.sl 1, .v (.int .i64 a0_1), .sl 5, .sl 7, .sl 4], .row false (.ints .i64 a0_0), .dead, .dead, .row false (.ints .i64 a0_4), .row true (.ints .i64 p0_2s_1), .row true (.pairs a0_3), .view 6 (.pairs ((a0_3.take a0_3.length).drop 1))] ?_
            (try simp only [Thn, InBlk, ↓reduceIte, Nat.reduceEqDiff])
            (try simp only [Thn, InBlk, ↓reduceIte, Nat.reduceEqDiff])
            refine ⟨_, h, ?_⟩
            refine Red.trans (Red.promote 6 7 (by rfl) (by rfl)) ?_
            exact Red.selA [0, 1, 2, 3, 4, 5, 7] Red.auto
        · replace h := bite_f h hc13
          refine awp_reg ftCOk [(0, .pp 0 0), (5, .pp 8 0), (6, .sl 7), (24, .v (.int .i64 a1)), (50, .v (.bool (a1 == 2)))] [.box [.sl 1, .v (.int .i64 a0_1), .sl 5, .sl 6, .sl 4], .row false (.ints .i64 a0_0), .dead, .dead, .row false (.ints .i64 a0_4), .row true (.ints .i64 a0_2), .row true (.pairs a0_3), .view 6 (.pairs ((a0_3.take a0_3.length).drop 1)), .box [.v (.int .i64 ((a0_3.getD 0 (0, 0)).1)), .v (.int .i64 ((a0_3.getD 0 (0, 0)).2))]] ?_
          refine awp_cond (t := 50) rfl (fun hc16 => ?_) (fun hc16 => ?_)
          · replace h := bite_t h hc16
            refine awp_regE ftCOk [] [.box [.sl 1, .v (.int .i64 a0_1), .sl 5, .sl 7, .sl 4], .row false (.ints .i64 a0_0), .dead, .dead, .row false (.ints .i64 a0_4), .row true (.ints .i64 a0_2), .row true (.pairs a0_3), .view 6 (.pairs ((a0_3.take a0_3.length).drop 1)), .box [.v (.int .i64 ((a0_3.getD 0 (0, 0)).1)), .v (.int .i64 ((a0_3.getD 0 (0, 0)).2))]] ?_
            (try simp only [Thn, InBlk, ↓reduceIte, Nat.reduceEqDiff])
            (try simp only [Thn, InBlk, ↓reduceIte, Nat.reduceEqDiff])
            refine ⟨_, h, ?_⟩
            refine Red.trans (Red.promote 6 7 (by rfl) (by rfl)) ?_
            exact Red.selA [0, 1, 2, 3, 4, 5, 7] Red.auto
          · replace h := bite_f h hc16
            refine awp_reg ftCOk [(0, .pp 0 0), (5, .pp 8 0), (6, .sl 7), (24, .v (.int .i64 a1)), (56, .v (.bool (a1 == 3)))] [.box [.sl 1, .v (.int .i64 a0_1), .sl 5, .sl 6, .sl 4], .row false (.ints .i64 a0_0), .dead, .dead, .row false (.ints .i64 a0_4), .row true (.ints .i64 a0_2), .row true (.pairs a0_3), .view 6 (.pairs ((a0_3.take a0_3.length).drop 1)), .box [.v (.int .i64 ((a0_3.getD 0 (0, 0)).1)), .v (.int .i64 ((a0_3.getD 0 (0, 0)).2))]] ?_
            refine awp_cond (t := 56) rfl (fun hc17 => ?_) (fun hc17 => ?_)
            · replace h := bite_t h hc17
              refine awp_seq fun K19 hK19 => ?_
              refine awp_reg ftCOk [(0, .pp 0 0), (5, .pp 8 0), (63, .v (.bool (decide (100 ≤ (a0_3.length : Int)))))] [.box [.sl 1, .v (.int .i64 a0_1), .sl 5, .sl 6, .sl 4], .row false (.ints .i64 a0_0), .dead, .dead, .row false (.ints .i64 a0_4), .row true (.ints .i64 a0_2), .row true (.pairs a0_3), .view 6 (.pairs ((a0_3.take a0_3.length).drop 1)), .box [.v (.int .i64 ((a0_3.getD 0 (0, 0)).1)), .v (.int .i64 ((a0_3.getD 0 (0, 0)).2))]] ?_
              refine awp_cond (t := 63) rfl (fun hc20 => ?_) (fun hc20 => ?_)
              · replace h := bite_t h hc20
                refine awp_reg ftCOk [(4, .v (.bool false))] [.box [.sl 1, .v (.int .i64 a0_1), .sl 5, .sl 6, .sl 4], .row false (.ints .i64 a0_0), .dead, .dead, .row false (.ints .i64 a0_4), .row true (.ints .i64 a0_2), .row true (.pairs a0_3), .view 6 (.pairs ((a0_3.take a0_3.length).drop 1)), .box [.v (.int .i64 ((a0_3.getD 0 (0, 0)).1)), .v (.int .i64 ((a0_3.getD 0 (0, 0)).2))]] ?_
                refine awp_ret ?_
                (try simp only [Thn, InBlk, ↓reduceIte, Nat.reduceEqDiff])
                obtain rfl := Option.some.inj h
                refine ⟨by simp, _, [0, 1, 2, 3, 4, 5, 6], (by simp only [go_sem, Nat.reduceBEq, Nat.reduceLT, Nat.reduceAdd, Nat.reduceLeDiff, Nat.reduceSub, Nat.reduceEqDiff, Int.reduceToNat, reduceCtorEq, ↓reduceIte]; exact rfl), ?_, ?_, ?_, ?_⟩
                · first | exact trivial | exact ⟨trivial, trivial⟩ | exact ⟨trivial, trivial, trivial⟩ | exact ⟨trivial, trivial, trivial, trivial⟩ | (simp only [allP, and_true, true_and]; done) | (simp only [allP, and_true, true_and]; omega)
                · simp [selOk, pos]
                · simp
                · first | exact ⟨rfl, rfl⟩ | (simp only [go_sem, Nat.reduceBEq, Nat.reduceLT, Nat.reduceAdd, Nat.reduceLeDiff, Nat.reduceSub, Nat.reduceEqDiff, Int.reduceToNat, reduceCtorEq, ↓reduceIte]; done) | (simp [go_sem, Nat.reduceBEq, Nat.reduceLT, Nat.reduceAdd, Nat.reduceLeDiff, Nat.reduceSub, Nat.reduceEqDiff, Int.reduceToNat, reduceCtorEq, ↓reduceIte]; done) | (simp only [go_sem, Nat.reduceBEq, Nat.reduceLT, Nat.reduceAdd, Nat.reduceLeDiff, Nat.reduceSub, Nat.reduceEqDiff, Int.reduceToNat, reduceCtorEq, ↓reduceIte]; exact ⟨rfl, rfl⟩) | (simp_all [go_sem, Nat.reduceBEq, Nat.reduceLT, Nat.reduceAdd, Nat.reduceLeDiff, Nat.reduceSub, Nat.reduceEqDiff, Int.reduceToNat, reduceCtorEq, ↓reduceIte]; done)
              · replace h := bite_f h hc20
                refine awp_skip ?_
                (try simp only [Thn, InBlk, ↓reduceIte, Nat.reduceEqDiff])
                refine hK19 _ _ ?_
                clear hK19
                replace h := chk_some h
                obtain ⟨hp0, h⟩ := h
                refine awp_end [] [.box [.sl 1, .v (.int .i64 a0_1), .sl 5, .sl 6, .sl 4], .row false (.ints .i64 a0_0), .dead, .dead, .row false (.ints .i64 a0_4), .row true (.ints .i64 a0_2), .row true (.pairs (a0_3 ++ [((a0_3.getD 0 (0, 0)).1, (a0_3.getD 0 (0, 0)).2)])), .dead, .box [.v (.int .i64 ((a0_3.getD 0 (0, 0)).1)), .v (.int .i64 ((a0_3.getD 0 (0, 0)).2))], .row true (.pairs [((a0_3.getD 0 (0, 0)).1, (a0_3.getD 0 (0, 0)).2)])] ?_ ?_
                · clear h
                  intro K hK
                  refine awp_drawP [0, 1, 2, 3, 4, 5, 7, 8] (by first | rfl | kernel_rfl) (by rfl) mixed ftCOk (.free 0 (.free 1 (.free 2 (.free 3 (.two 4 5 (.one 5 (.one 6 (.one 7 (.one 8 (.one 9 (.one 10 .fin)))))) (.two 4 6 (.one 6 (.one 7 (.one 8 (.one 9 (.one 10 .fin))))) (.one 4 (.one 7 (.one 8 (.one 9 (.one 10 .fin))))))))))) (by kernel_rfl) (by simp) ?_
                  simp (maxSteps := 4000000) only [go_sem, Nat.reduceBEq, Nat.reduceLT, Nat.reduceAdd, Nat.reduceLeDiff, Nat.reduceSub, Nat.reduceEqDiff, Int.reduceToNat, reduceCtorEq, ↓reduceIte]
                  repeat' (first | refine And.intro ?_ ?_ | intro hg)
                  all_goals (try simp (disch := omega) only [wrap_fits])
                  all_goals first
                    | (refine hK _ _ ?_; exact Red.auto)
                    | exact trivial
                    | assumption
                    | omega
                    | exact wrap_fits (by omega) (by omega)
                    | (simp (maxSteps := 4000000) only [go_sem, Nat.reduceBEq, Nat.reduceLT, Nat.reduceAdd, Nat.reduceLeDiff, Nat.reduceSub, Nat.reduceEqDiff, Int.reduceToNat, reduceCtorEq, ↓reduceIte]
                       repeat' (first | refine And.intro ?_ ?_ | intro hg)
                       all_goals (try simp (disch := omega) only [wrap_fits])
                       all_goals first | (refine hK _ _ ?_; exact Red.auto) | exact trivial | assumption | omega | exact wrap_fits (by omega) (by omega))
                    | (simp_all; done)
                    | (simp_all; omega)
                · clear hp0
                  (try simp only [Thn, InBlk, ↓reduceIte, Nat.reduceEqDiff])
                  (try simp only [Thn, InBlk, ↓reduceIte, Nat.reduceEqDiff])
                  refine ⟨_, h, ?_⟩
                  exact Red.selA [0, 1, 2, 3, 4, 5, 6] Red.auto
            · replace h := bite_f h hc17
              refine awp_reg ftCOk [(0, .pp 0 0), (5, .pp 8 0), (6, .sl 7), (74, .v (.bool (a1 == 4)))] [.box [.sl 1, .v (.int .i64 a0_1), .sl 5, .sl 6, .sl 4], .row false (.ints .i64 a0_0), .dead, .dead, .row false (.ints .i64 a0_4), .row true (.ints .i64 a0_2), .row true (.pairs a0_3), .view 6 (.pairs ((a0_3.take a0_3.length).drop 1)), .box [.v (.int .i64 ((a0_3.getD 0 (0, 0)).1)), .v (.int .i64 ((a0_3.getD 0 (0, 0)).2))]] ?_
              refine awp_cond (t := 74) rfl (fun hc21 => ?_) (fun hc21 => ?_)
              · replace h := bite_t h hc21
                replace h := chk_some h
                obtain ⟨hp0, h⟩ := h
                refine awp_regE ftCOk [] [.box [.sl 1, .v (.int .i64 a0_1), .sl 5, .sl 7, .sl 4], .row false (.ints .i64 a0_0), .dead, .dead, .row false (.ints .i64 a0_4), .row true (.ints .i64 a0_2), .dead, .row true (.pairs (((a0_3.take a0_3.length).drop 1) ++ [((a0_3.getD 0 (0, 0)).1, (a0_3.getD 0 (0, 0)).2)])), .box [.v (.int .i64 ((a0_3.getD 0 (0, 0)).1)), .v (.int .i64 ((a0_3.getD 0 (0, 0)).2))], .row true (.pairs [((a0_3.getD 0 (0, 0)).1, (a0_3.getD 0 (0, 0)).2)])] ?_
                clear hp0
                (try simp only [Thn, InBlk, ↓reduceIte, Nat.reduceEqDiff])
                (try simp only [Thn, InBlk, ↓reduceIte, Nat.reduceEqDiff])
                refine ⟨_, h, ?_⟩
                exact Red.selA [0, 1, 2, 3, 4, 5, 7] Red.auto
              · replace h := bite_f h hc21
                refine awp_skip ?_
                (try simp only [Thn, InBlk, ↓reduceIte, Nat.reduceEqDiff])
                (try simp only [Thn, InBlk, ↓reduceIte, Nat.reduceEqDiff])
                refine ⟨_, h, ?_⟩
                exact Red.selA [0, 1, 2, 3, 4, 5, 6] Red.auto
      · clear h
        rintro ⟨p0_2s, p0_3s⟩ h
        try dsimp only at h
        try dsimp only
        refine awp_reg ftCOk [(4, .v (.bool true))] [.box [.sl 1, .v (.int .i64 a0_1), .sl 5, .sl 6, .sl 4], .row false (.ints .i64 a0_0), .dead, .dead, .row false (.ints .i64 a0_4), .row true (.ints .i64 p0_2s), .row true (.pairs p0_3s)] ?_
        refine awp_ret ?_
        (try simp only [Thn, InBlk, ↓reduceIte, Nat.reduceEqDiff])
        obtain rfl := Option.some.inj h
        refine ⟨by simp, _, [0, 1, 2, 3, 4, 5, 6], (by simp only [go_sem, Nat.reduceBEq, Nat.reduceLT, Nat.reduceAdd, Nat.reduceLeDiff, Nat.reduceSub, Nat.reduceEqDiff, Int.reduceToNat, reduceCtorEq, ↓reduceIte]; exact rfl), ?_, ?_, ?_, ?_⟩
        · first | exact trivial | exact ⟨trivial, trivial⟩ | exact ⟨trivial, trivial, trivial⟩ | exact ⟨trivial, trivial, trivial, trivial⟩ | (simp only [allP, and_true, true_and]; done) | (simp only [allP, and_true, true_and]; omega)
        · simp [selOk, pos]
        · simp
        · first | exact ⟨rfl, rfl⟩ | (simp only [go_sem, Nat.reduceBEq, Nat.reduceLT, Nat.reduceAdd, Nat.reduceLeDiff, Nat.reduceSub, Nat.reduceEqDiff, Int.reduceToNat, reduceCtorEq, ↓reduceIte]; done) | (simp [go_sem, Nat.reduceBEq, Nat.reduceLT, Nat.reduceAdd, Nat.reduceLeDiff, Nat.reduceSub, Nat.reduceEqDiff, Int.reduceToNat, reduceCtorEq, ↓reduceIte]; done) | (simp only [go_sem, Nat.reduceBEq, Nat.reduceLT, Nat.reduceAdd, Nat.reduceLeDiff, Nat.reduceSub, Nat.reduceEqDiff, Int.reduceToNat, reduceCtorEq, ↓reduceIte]; exact ⟨rfl, rfl⟩) | (simp_all [go_sem, Nat.reduceBEq, Nat.reduceLT, Nat.reduceAdd, Nat.reduceLeDiff, Nat.reduceSub, Nat.reduceEqDiff, Int.reduceToNat, reduceCtorEq, ↓reduceIte]; done)
theorem k_impl_Channel_receipt (a0_0 : List Int) (a0_1 : Int) (a0_2 : List Int) (a0_3 : List (Int × Int)) (a0_4 : List Int) {r : Bool × List Int} (h : impl_Channel_receipt a0_0 a0_1 a0_2 a0_3 a0_4 = some r) :
    FnA Try.prog 122 [.pp 0 0] [.box [.sl 1, .v (.int .i64 a0_1), .sl 2, .sl 3, .sl 4], .row false (.ints .i64 a0_0), .row false (.ints .i64 a0_2), .row false (.pairs a0_3), .row true (.ints .i64 a0_4)] [] (fun x H => x = .v (.bool r.1) ∧ H = [.box [.sl 1, .v (.int .i64 a0_1), .sl 2, .sl 3, .sl 5], .row false (.ints .i64 a0_0), .row false (.ints .i64 a0_2), .row false (.pairs a0_3), .dead, .row true (.ints .i64 r.2)]) := by
  unfold impl_Channel_receipt at h
  refine FnA.of (N := 23) (pin := [0, 1, 2, 3, 4]) (rs := [.tmp 2]) Try.func122 rfl en122 rfl rfl (by simp) (by simp; try omega) ?_
  refine awp_move 4 [(0, .pp 0 0)] [.box [.sl 1, .v (.int .i64 a0_1), .sl 2, .sl 3, .sl 5], .row false (.ints .i64 a0_0), .row false (.ints .i64 a0_2), .row false (.pairs a0_3), .dead, .row true (.ints .i64 a0_4)] (by rfl) (by rfl) (by exact rfl) ?_
  refine awp_reg ftCOk [(0, .pp 0 0)] [.box [.sl 1, .v (.int .i64 a0_1), .sl 2, .sl 3, .sl 5], .row false (.ints .i64 a0_0), .row false (.ints .i64 a0_2), .row false (.pairs a0_3), .dead, .row true (.ints .i64 a0_4)] ?_
  refine awp_seq fun K2 hK2 => ?_
  refine awp_reg ftCOk [(0, .pp 0 0), (8, .v (.bool (decide (100 ≤ (a0_4.length : Int)))))] [.box [.sl 1, .v (.int .i64 a0_1), .sl 2, .sl 3, .sl 5], .row false (.ints .i64 a0_0), .row false (.ints .i64 a0_2), .row false (.pairs a0_3), .dead, .row true (.ints .i64 a0_4)] ?_
  refine awp_cond (t := 8) rfl (fun hc3 => ?_) (fun hc3 => ?_)
  · replace h := bite_t h hc3
    refine awp_reg ftCOk [(2, .v (.bool false))] [.box [.sl 1, .v (.int .i64 a0_1), .sl 2, .sl 3, .sl 5], .row false (.ints .i64 a0_0), .row false (.ints .i64 a0_2), .row false (.pairs a0_3), .dead, .row true (.ints .i64 a0_4)] ?_
    refine awp_ret ?_
    (try simp only [Thn, InBlk, ↓reduceIte, Nat.reduceEqDiff])
    obtain rfl := Option.some.inj h
    refine ⟨by simp, _, [0, 1, 2, 3, 4, 5], (by simp only [go_sem, Nat.reduceBEq, Nat.reduceLT, Nat.reduceAdd, Nat.reduceLeDiff, Nat.reduceSub, Nat.reduceEqDiff, Int.reduceToNat, reduceCtorEq, ↓reduceIte]; exact rfl), ?_, ?_, ?_, ?_⟩
    · first | exact trivial | exact ⟨trivial, trivial⟩ | exact ⟨trivial, trivial, trivial⟩ | exact ⟨trivial, trivial, trivial, trivial⟩ | (simp only [allP, and_true, true_and]; done) | (simp only [allP, and_true, true_and]; omega)
    · simp [selOk, pos]
    · simp
    · first | exact ⟨rfl, rfl⟩ | (simp only [go_sem, Nat.reduceBEq, Nat.reduceLT, Nat.reduceAdd, Nat.reduceLeDiff, Nat.reduceSub, Nat.reduceEqDiff, Int.reduceToNat, reduceCtorEq, ↓reduceIte]; done) | (simp [go_sem, Nat.reduceBEq, Nat.reduceLT, Nat.reduceAdd, Nat.reduceLeDiff, Nat.reduceSub, Nat.reduceEqDiff, Int.reduceToNat, reduceCtorEq, ↓reduceIte]; done) | (simp only [go_sem, Nat.reduceBEq, Nat.reduceLT, Nat.reduceAdd, Nat.reduceLeDiff, Nat.reduceSub, Nat.reduceEqDiff, Int.reduceToNat, reduceCtorEq, ↓reduceIte]; exact ⟨rfl, rfl⟩) | (simp_all [go_sem, Nat.reduceBEq, Nat.reduceLT, Nat.reduceAdd, Nat.reduceLeDiff, Nat.reduceSub, Nat.reduceEqDiff, Int.reduceToNat, reduceCtorEq, ↓reduceIte]; done)
  · replace h := bite_f h hc3
    refine awp_skip ?_
    (try simp only [Thn, InBlk, ↓reduceIte, Nat.reduceEqDiff])
    refine hK2 _ _ ?_
    clear hK2
    replace h := chk_some h
    obtain ⟨hp0, h⟩ := h
    refine awp_to [] [.box [.sl 1, .v (.int .i64 a0_1), .sl 2, .sl 3, .sl 5], .row false (.ints .i64 a0_0), .row false (.ints .i64 a0_2), .row false (.pairs a0_3), .dead, .row true (.ints .i64 (a0_4 ++ [(a0_2.length : Int)])), .row true (.ints .i64 [(a0_2.length : Int)])] ?_ ?_
    · clear h
      intro K hK
      refine awp_drawP [0, 1, 2, 3, 4] (by first | rfl | kernel_rfl) (by rfl) mixed ftCOk (.free 0 (.free 1 (.free 2 (.free 3 (.free 5 (.free 6 (.free 7 (.two 4 8 (.one 8 (.one 9 (.one 10 (.one 11 (.one 12 (.one 13 (.one 14 .fin))))))) (.free 9 (.two 4 10 (.one 10 (.one 11 (.one 12 (.one 13 (.one 14 .fin))))) (.one 4 (.one 11 (.one 12 (.one 13 (.one 14 .fin))))))))))))))) (by kernel_rfl) (by simp) ?_
      simp (maxSteps := 4000000) only [go_sem, Nat.reduceBEq, Nat.reduceLT, Nat.reduceAdd, Nat.reduceLeDiff, Nat.reduceSub, Nat.reduceEqDiff, Int.reduceToNat, reduceCtorEq, ↓reduceIte]
      repeat' (first | refine And.intro ?_ ?_ | intro hg)
      all_goals (try simp (disch := omega) only [wrap_fits])
      all_goals first
        | (refine hK _ _ ?_; exact Red.auto)
        | exact trivial
        | assumption
        | omega
        | exact wrap_fits (by omega) (by omega)
        | (simp (maxSteps := 4000000) only [go_sem, Nat.reduceBEq, Nat.reduceLT, Nat.reduceAdd, Nat.reduceLeDiff, Nat.reduceSub, Nat.reduceEqDiff, Int.reduceToNat, reduceCtorEq, ↓reduceIte]
           repeat' (first | refine And.intro ?_ ?_ | intro hg)
           all_goals (try simp (disch := omega) only [wrap_fits])
           all_goals first | (refine hK _ _ ?_; exact Red.auto) | exact trivial | assumption | omega | exact wrap_fits (by omega) (by omega))
        | (simp_all; done)
        | (simp_all; omega)
    · clear hp0
      refine awp_reg ftCOk [(2, .v (.bool true))] [.box [.sl 1, .v (.int .i64 a0_1), .sl 2, .sl 3, .sl 5], .row false (.ints .i64 a0_0), .row false (.ints .i64 a0_2), .row false (.pairs a0_3), .dead, .row true (.ints .i64 (a0_4 ++ [(a0_2.length : Int)])), .row true (.ints .i64 [(a0_2.length : Int)])] ?_
      refine awp_ret ?_
      (try simp only [Thn, InBlk, ↓reduceIte, Nat.reduceEqDiff])
      obtain rfl := Option.some.inj h
      refine ⟨by simp, _, [0, 1, 2, 3, 4, 5], (by simp only [go_sem, Nat.reduceBEq, Nat.reduceLT, Nat.reduceAdd, Nat.reduceLeDiff, Nat.reduceSub, Nat.reduceEqDiff, Int.reduceToNat, reduceCtorEq, ↓reduceIte]; exact rfl), ?_, ?_, ?_, ?_⟩
      · first | exact trivial | exact ⟨trivial, trivial⟩ | exact ⟨trivial, trivial, trivial⟩ | exact ⟨trivial, trivial, trivial, trivial⟩ | (simp only [allP, and_true, true_and]; done) | (simp only [allP, and_true, true_and]; omega)
      · simp [selOk, pos]
      · simp
      · first | exact ⟨rfl, rfl⟩ | (simp only [go_sem, Nat.reduceBEq, Nat.reduceLT, Nat.reduceAdd, Nat.reduceLeDiff, Nat.reduceSub, Nat.reduceEqDiff, Int.reduceToNat, reduceCtorEq, ↓reduceIte]; done) | (simp [go_sem, Nat.reduceBEq, Nat.reduceLT, Nat.reduceAdd, Nat.reduceLeDiff, Nat.reduceSub, Nat.reduceEqDiff, Int.reduceToNat, reduceCtorEq, ↓reduceIte]; done) | (simp only [go_sem, Nat.reduceBEq, Nat.reduceLT, Nat.reduceAdd, Nat.reduceLeDiff, Nat.reduceSub, Nat.reduceEqDiff, Int.reduceToNat, reduceCtorEq, ↓reduceIte]; exact ⟨rfl, rfl⟩) | (simp_all [go_sem, Nat.reduceBEq, Nat.reduceLT, Nat.reduceAdd, Nat.reduceLeDiff, Nat.reduceSub, Nat.reduceEqDiff, Int.reduceToNat, reduceCtorEq, ↓reduceIte]; done)
theorem k_impl_Channel_receiptStep (a0_0 : List Int) (a0_1 : Int) (a0_2 : List Int) (a0_3 : List (Int × Int)) (a0_4 : List Int) (a1 : Int) {r : Bool × Int × List Int} (h : impl_Channel_receiptStep a0_0 a0_1 a0_2 a0_3 a0_4 a1 = some r) :
    FnA Try.prog 123 [.pp 0 0, .v (.int .i64 a1)] [.box [.sl 1, .v (.int .i64 a0_1), .sl 2, .sl 3, .sl 4], .row false (.ints .i64 a0_0), .row false (.ints .i64 a0_2), .row false (.pairs a0_3), .row true (.ints .i64 a0_4)] [] (fun x H => x = .v (.bool r.1) ∧ H = [.box [.sl 1, .v (.int .i64 r.2.1), .sl 2, .sl 3, .sl 5], .row false (.ints .i64 a0_0), .row false (.ints .i64 a0_2), .row false (.pairs a0_3), .dead, .row true (.ints .i64 r.2.2)]) := by
  unfold impl_Channel_receiptStep at h
  refine FnA.of (N := 35) (pin := [0, 1, 2, 3, 4]) (rs := [.tmp 4]) Try.func123 rfl en123 rfl rfl (by simp) (by simp; try omega) ?_
  refine awp_move 4 [(0, .pp 0 0), (1, .v (.int .i64 a1))] [.box [.sl 1, .v (.int .i64 a0_1), .sl 2, .sl 3, .sl 5], .row false (.ints .i64 a0_0), .row false (.ints .i64 a0_2), .row false (.pairs a0_3), .dead, .row true (.ints .i64 a0_4)] (by rfl) (by rfl) (by exact rfl) ?_
  refine awp_reg ftCOk [(0, .pp 0 0), (1, .v (.int .i64 a1))] [.box [.sl 1, .v (.int .i64 a0_1), .sl 2, .sl 3, .sl 5], .row false (.ints .i64 a0_0), .row false (.ints .i64 a0_2), .row false (.pairs a0_3), .dead, .row true (.ints .i64 a0_4)] ?_
  refine awp_seq fun K2 hK2 => ?_
  refine awp_reg ftCOk [(0, .pp 0 0), (1, .v (.int .i64 a1)), (10, .v (.bool ((a0_4.length : Int) == 0)))] [.box [.sl 1, .v (.int .i64 a0_1), .sl 2, .sl 3, .sl 5], .row false (.ints .i64 a0_0), .row false (.ints .i64 a0_2), .row false (.pairs a0_3), .dead, .row true (.ints .i64 a0_4)] ?_
  refine awp_cond (t := 10) rfl (fun hc3 => ?_) (fun hc3 => ?_)
  · replace h := bite_t h hc3
    refine awp_reg ftCOk [(4, .v (.bool false))] [.box [.sl 1, .v (.int .i64 a0_1), .sl 2, .sl 3, .sl 5], .row false (.ints .i64 a0_0), .row false (.ints .i64 a0_2), .row false (.pairs a0_3), .dead, .row true (.ints .i64 a0_4)] ?_
    refine awp_ret ?_
    (try simp only [Thn, InBlk, ↓reduceIte, Nat.reduceEqDiff])
    obtain rfl := Option.some.inj h
    refine ⟨by simp, _, [0, 1, 2, 3, 4, 5], (by simp only [go_sem, Nat.reduceBEq, Nat.reduceLT, Nat.reduceAdd, Nat.reduceLeDiff, Nat.reduceSub, Nat.reduceEqDiff, Int.reduceToNat, reduceCtorEq, ↓reduceIte]; exact rfl), ?_, ?_, ?_, ?_⟩
    · first | exact trivial | exact ⟨trivial, trivial⟩ | exact ⟨trivial, trivial, trivial⟩ | exact ⟨trivial, trivial, trivial, trivial⟩ | (simp only [allP, and_true, true_and]; done) | (simp only [allP, and_true, true_and]; omega)
    · simp [selOk, pos]
    · simp
    · first | exact ⟨rfl, rfl⟩ | (simp only [go_sem, Nat.reduceBEq, Nat.reduceLT, Nat.reduceAdd, Nat.reduceLeDiff, Nat.reduceSub, Nat.reduceEqDiff, Int.reduceToNat, reduceCtorEq, ↓reduceIte]; done) | (simp [go_sem, Nat.reduceBEq, Nat.reduceLT, Nat.reduceAdd, Nat.reduceLeDiff, Nat.reduceSub, Nat.reduceEqDiff, Int.reduceToNat, reduceCtorEq, ↓reduceIte]; done) | (simp only [go_sem, Nat.reduceBEq, Nat.reduceLT, Nat.reduceAdd, Nat.reduceLeDiff, Nat.reduceSub, Nat.reduceEqDiff, Int.reduceToNat, reduceCtorEq, ↓reduceIte]; exact ⟨rfl, rfl⟩) | (simp_all [go_sem, Nat.reduceBEq, Nat.reduceLT, Nat.reduceAdd, Nat.reduceLeDiff, Nat.reduceSub, Nat.reduceEqDiff, Int.reduceToNat, reduceCtorEq, ↓reduceIte]; done)
  · replace h := bite_f h hc3
    refine awp_skip ?_
    (try simp only [Thn, InBlk, ↓reduceIte, Nat.reduceEqDiff])
    refine hK2 _ _ ?_
    clear hK2
    refine awp_join h (fun (p0_1 : Int) => [(0, .pp 0 0)]) (fun (p0_1 : Int) => [.box [.sl 1, .v (.int .i64 p0_1), .sl 2, .sl 3, .sl 5], .row false (.ints .i64 a0_0), .row false (.ints .i64 a0_2), .row false (.pairs a0_3), .dead, .row true (.ints .i64 a0_4)]) ?_ ?_
    · clear h
      intro k h
      try dsimp only at h
      refine awp_reg ftCOk [(0, .pp 0 0), (12, .v (.bool (a1 == 6)))] [.box [.sl 1, .v (.int .i64 a0_1), .sl 2, .sl 3, .sl 5], .row false (.ints .i64 a0_0), .row false (.ints .i64 a0_2), .row false (.pairs a0_3), .dead, .row true (.ints .i64 a0_4)] ?_
      refine awp_cond (t := 12) rfl (fun hc5 => ?_) (fun hc5 => ?_)
      · replace h := bite_t h hc5
        replace h := chk_some h
        obtain ⟨hp0, h⟩ := h
        refine awp_end [(0, .pp 0 0)] [.box [.sl 1, .v (.int .i64 (max a0_1 (a0_4.getD 0 0))), .sl 2, .sl 3, .sl 5], .row false (.ints .i64 a0_0), .row false (.ints .i64 a0_2), .row false (.pairs a0_3), .dead, .row true (.ints .i64 a0_4)] ?_ ?_
        · clear h
          intro K hK
          refine awp_drawT mixed ftCOk (.free 0 (.free 1 (.free 2 (.free 3 (.free 5 (.free 6 (.free 7 (.two 4 8 (.one 8 (.one 9 (.one 10 (.one 11 (.one 12 (.one 13 (.one 14 .fin))))))) (.two 4 9 (.one 9 (.one 10 (.one 11 (.one 12 (.one 13 (.one 14 .fin)))))) (.two 4 10 (.one 10 (.one 11 (.one 12 (.one 13 (.one 14 .fin))))) (.one 4 (.one 11 (.one 12 (.one 13 (.one 14 .fin))))))))))))))) (by kernel_rfl) (by simp) ?_
          simp (maxSteps := 4000000) only [go_sem, Nat.reduceBEq, Nat.reduceLT, Nat.reduceAdd, Nat.reduceLeDiff, Nat.reduceSub, Nat.reduceEqDiff, Int.reduceToNat, reduceCtorEq, ↓reduceIte]
          repeat' (first | refine And.intro ?_ ?_ | intro hg)
          all_goals (try simp (disch := omega) only [wrap_fits])
          all_goals first
            | (refine hK _ _ ?_; exact Red.auto)
            | exact trivial
            | assumption
            | omega
            | exact wrap_fits (by omega) (by omega)
            | (simp (maxSteps := 4000000) only [go_sem, Nat.reduceBEq, Nat.reduceLT, Nat.reduceAdd, Nat.reduceLeDiff, Nat.reduceSub, Nat.reduceEqDiff, Int.reduceToNat, reduceCtorEq, ↓reduceIte]
               repeat' (first | refine And.intro ?_ ?_ | intro hg)
               all_goals (try simp (disch := omega) only [wrap_fits])
               all_goals first | (refine hK _ _ ?_; exact Red.auto) | exact trivial | assumption | omega | exact wrap_fits (by omega) (by omega))
            | (simp_all; done)
            | (simp_all; omega)
        · clear hp0
          (try simp only [Thn, InBlk, ↓reduceIte, Nat.reduceEqDiff])
          refine ⟨_, h, ?_⟩
          exact Red.auto
      · replace h := bite_f h hc5
        refine awp_skip ?_
        (try simp only [Thn, InBlk, ↓reduceIte, Nat.reduceEqDiff])
        refine ⟨_, h, ?_⟩
        exact Red.auto
    · clear h
      rintro p0_1 h
      try dsimp only at h
      try dsimp only
      replace h := chk_some h
      obtain ⟨hp0, h⟩ := h
      refine awp_reg ftCOk [] [.box [.sl 1, .v (.int .i64 p0_1), .sl 2, .sl 3, .sl 6], .row false (.ints .i64 a0_0), .row false (.ints .i64 a0_2), .row false (.pairs a0_3), .dead, .row true (.ints .i64 a0_4), .view 5 (.ints .i64 ((a0_4.take a0_4.length).drop 1))] ?_
      clear hp0
      refine awp_promote 5 6 (by rfl) (by rfl) (by exact rfl) ?_
      refine awp_reg ftCOk [(4, .v (.bool true))] [.box [.sl 1, .v (.int .i64 p0_1), .sl 2, .sl 3, .sl 6], .row false (.ints .i64 a0_0), .row false (.ints .i64 a0_2), .row false (.pairs a0_3), .dead, .dead, .row true (.ints .i64 ((a0_4.take a0_4.length).drop 1))] ?_
      refine awp_ret ?_
      (try simp only [Thn, InBlk, ↓reduceIte, Nat.reduceEqDiff])
      obtain rfl := Option.some.inj h
      refine ⟨by simp, _, [0, 1, 2, 3, 4, 6], (by simp only [go_sem, Nat.reduceBEq, Nat.reduceLT, Nat.reduceAdd, Nat.reduceLeDiff, Nat.reduceSub, Nat.reduceEqDiff, Int.reduceToNat, reduceCtorEq, ↓reduceIte]; exact rfl), ?_, ?_, ?_, ?_⟩
      · first | exact trivial | exact ⟨trivial, trivial⟩ | exact ⟨trivial, trivial, trivial⟩ | exact ⟨trivial, trivial, trivial, trivial⟩ | (simp only [allP, and_true, true_and]; done) | (simp only [allP, and_true, true_and]; omega)
      · simp [selOk, pos]
      · simp
      · first | exact ⟨rfl, rfl⟩ | (simp only [go_sem, Nat.reduceBEq, Nat.reduceLT, Nat.reduceAdd, Nat.reduceLeDiff, Nat.reduceSub, Nat.reduceEqDiff, Int.reduceToNat, reduceCtorEq, ↓reduceIte]; done) | (simp [go_sem, Nat.reduceBEq, Nat.reduceLT, Nat.reduceAdd, Nat.reduceLeDiff, Nat.reduceSub, Nat.reduceEqDiff, Int.reduceToNat, reduceCtorEq, ↓reduceIte]; done) | (simp only [go_sem, Nat.reduceBEq, Nat.reduceLT, Nat.reduceAdd, Nat.reduceLeDiff, Nat.reduceSub, Nat.reduceEqDiff, Int.reduceToNat, reduceCtorEq, ↓reduceIte]; exact ⟨rfl, rfl⟩) | (simp_all [go_sem, Nat.reduceBEq, Nat.reduceLT, Nat.reduceAdd, Nat.reduceLeDiff, Nat.reduceSub, Nat.reduceEqDiff, Int.reduceToNat, reduceCtorEq, ↓reduceIte]; done)
end Go.Proofs.Ytncminpafiahpaa

/- The code computes the functions that were taken out of it. -/
import Derived.Test.YtdjckcedpnabpaaDoorLw1
set_option maxRecDepth 100000
set_option maxHeartbeats 4000000
set_option linter.unusedSimpArgs false
set_option linter.unusedVariables false
namespace Go.Proofs.YtdjckcedpnabpaaDoor
open Go Go.Av
attribute [local irreducible] wpA OpK awp
attribute [local go_sem] frs_nil frs_cons pw8_32 pw16_32 pw24_32 pw27_32 eqAgg eqAggV buildQ placesOf buildCells List.toList_toArray vcQg gfind gfree gput un3_agg unI_int unB_bool unK_int guardU skipV resVs resV vcD_nil vcD_cons vcT_fin vcT_free vcT_one vcT_two opS vcD1 roH roOb ftNone ftAdd oneOrTup AV.detup AV.ren AV.ren2 AV.ren1 pos selH AObj.ren fitAll fit fit1 fit1s matchAll matchOb exIds AObj.excl Env.killp pastH setAll upId AObj.past AObj.back AV.killp AV.killp1 AV.killp2 Nat.sub_self Nat.lt_irrefl Bool.or_self vcOps vcOp vcQs vcQ dstOk quiet eff pcall calleeF plain valsOf ev ofConst argEnv List.lookup Nat.add_eq decide_true decide_false Env.put binV wrapTo unV convV loadQ indexQ callQ builtinQ rd rdI globC AObj.globC partAV isAggD isArrayD addrAdd boxE storeE storeCE makeE makeNE buildNE nestZero Cont.child Cont.setChild buildSliceE buildFold appendE appendNE nestApp appendV promoteH sliceE boundAV subObj asCells Value.oneCell' contZero Cont.sets Cont.app Cont.sub Cont.len Cont.esz Cont.cell Cont.cells Cont.flat AV.det AV.det1 guardV AObj.unview AObj.kill Env.kill AV.kill AV.kill1 AV.kill2 fits64 Option.getD_some Option.getD_none Option.map_some Option.map_none Option.bind_some List.map_cons List.map_nil List.getElem?_cons_zero List.getElem?_cons_succ List.getElem?_nil true_and and_true List.getElem?_toArray List.cons_append List.nil_append List.length_cons List.length_nil List.set_cons_zero List.set_cons_succ List.take_succ_cons List.take_zero List.drop_succ_cons List.drop_zero List.drop_nil List.take_nil List.contains_cons List.contains_nil List.elem_cons List.elem_nil Bool.not_true Bool.not_false Bool.false_eq_true Bool.or_false Bool.or_true Bool.and_true Bool.and_false Bool.true_and Bool.false_and List.all_cons List.all_nil List.size_toArray Nat.lt_add_one Nat.zero_lt_succ Nat.one_ne_zero Nat.zero_ne_one and_self List.replicate_succ List.replicate_zero Int.toNat_natCast Int.toNat_zero Value.cells false_implies true_implies forall_const Thn InBlk Nat.zero_add Nat.add_zero Int.zero_add Ele Env.ren Option.some.injEq AV.v.injEq AV.sl.injEq AV.pp.injEq AV.ep.injEq AV.agg.injEq List.cons.injEq Value.int.injEq Value.bool.injEq Value.string.injEq true_or or_true or_false false_or tsz0 tby0 tz0 Tryd.underlying0 tsz1 tby1 tz1 Tryd.underlying1 tsz2 tby2 tz2 Tryd.underlying2 tsz3 tby3 tz3 Tryd.underlying3 tsz4 tby4 tz4 Tryd.underlying4 tsz5 tby5 tz5 Tryd.underlying5 tsz6 tby6 tz6 Tryd.underlying6 tsz7 tby7 tz7 Tryd.underlying7 fo7_0 fo7_1 fo7_2 fo7_3 tsz8 tby8 tz8 Tryd.underlying8 fo8_0 fo8_1 fo8_2 fo8_3 tsz9 tby9 Tryd.underlying9 tsz10 tby10 Tryd.underlying10 tsz12 tby12 tz12 Tryd.underlying12 tsz16 tby16 tz16 Tryd.underlying16 tsz17 tby17 tz17 Tryd.underlying17 tsz20 tby20 tz20 Tryd.underlying20 tsz21 tby21 tz21 Tryd.underlying21 tsz22 tby22 tz22 Tryd.underlying22 tsz23 tby23 tz23 Tryd.underlying23 tsz24 tby24 tz24 Tryd.underlying24 fo24_0 fo24_1 tsz25 tby25 tz25 Tryd.underlying25 fo25_0 fo25_1 tsz30 tby30 tz30 Tryd.underlying30 tsz32 tby32 tz32 Tryd.underlying32 tsz40 tby40 tz40 Tryd.underlying40 tsz44 tby44 tz44 Tryd.underlying44 tsz46 tby46 tz46 Tryd.underlying46 tsz50 tby50 tz50 Tryd.underlying50 peq50 fo50_0 fo50_1 fo50_2 tsz51 tby51 tz51 Tryd.underlying51 peq51 fo51_0 fo51_1 fo51_2 tsz53 tby53 tz53 Tryd.underlying53 tsz54 tby54 tz54 Tryd.underlying54 tsz55 tby55 tz55 Tryd.underlying55 tsz60 tby60 tz60 Tryd.underlying60 tsz69 tby69 tz69 Tryd.underlying69 tsz71 tby71 tz71 Tryd.underlying71 fo71_0 fo71_1 tsz72 tby72 tz72 Tryd.underlying72 fo72_0 fo72_1 tsz77 tby77 tz77 Tryd.underlying77 tsz81 tby81 tz81 Tryd.underlying81 tsz86 tby86 tz86 Tryd.underlying86 tsz87 tby87 tz87 Tryd.underlying87 tsz91 tby91 tz91 Tryd.underlying91 tsz94 tby94 tz94 Tryd.underlying94 tsz95 tby95 tz95 Tryd.underlying95 tsz96 tby96 tz96 Tryd.underlying96 tsz100 tby100 tz100 Tryd.underlying100 tsz102 tby102 tz102 Tryd.underlying102 tsz103 tby103 tz103 Tryd.underlying103 tsz108 tby108 tz108 Tryd.underlying108 tsz109 tby109 tz109 Tryd.underlying109 tsz110 tby110 tz110 Tryd.underlying110 tsz111 tby111 tz111 Tryd.underlying111 tsz112 tby112 tz112 Tryd.underlying112 tsz113 tby113 tz113 Tryd.underlying113 tsz114 tby114 tz114 Tryd.underlying114 tsz115 tby115 tz115 Tryd.underlying115 tsz116 tby116 tz116 Tryd.underlying116 tsz117 tby117 tz117 Tryd.underlying117 fo117_0 fo117_1 fo117_2 fo117_3 fo117_4 fo117_5 fo117_6 fo117_7 fo117_8 fo117_9 fo117_10 tsz118 tby118 tz118 Tryd.underlying118 fo118_0 fo118_1 fo118_2 fo118_3 fo118_4 fo118_5 fo118_6 fo118_7 fo118_8 fo118_9 fo118_10 tsz119 tby119 tz119 Tryd.underlying119 l1InG l4BeforeG isNaNG cmpIntG cmpEndsG ftC
theorem k_spec_CoresOf (a0_0 : Int) (a0_1 : List (Int × Int × Int)) {r : List Int} (h : spec_CoresOf a0_0 a0_1 = some r) :
    FnA Tryd.prog 32 [.agg [.v (.int .i64 a0_0), .sl 0]] [.row false (.trips a0_1)] [] (fun x H => x = .sl 1 ∧ H = [.row false (.trips a0_1), .row true (.ints .i64 r)]) := by
  unfold spec_CoresOf at h
  refine FnA.of (N := 91) (pin := [0]) (rs := [.tmp 2]) Tryd.func32 rfl en32 rfl rfl (by simp) (by simp; try omega) ?_
  refine awp_reg ftCOk [(1, .pp 1 0)] [.row false (.trips a0_1), .box [.v (.int .i64 a0_0), .sl 0]] ?_
  refine awp_freeze 1 (by rfl) (by rfl) (by exact rfl) ?_
  refine awp_reg ftCOk [(1, .pp 1 0), (3, .sl 2)] [.row false (.trips a0_1), .rbox [.v (.int .i64 a0_0), .sl 0], .row true (.ints .i64 [])] ?_
  refine awp_seq fun K2 hK2 => ?_
  replace h := bind_some h
  obtain ⟨y, hr0, h⟩ := h
  try dsimp only at h
  refine awp_to [(1, .pp 1 0), (3, .sl 2), (16, .v (.bool (!y)))] [.row false (.trips a0_1), .rbox [.v (.int .i64 a0_0), .sl 0], .row true (.ints .i64 [])] ?_ ?_
  · clear h
    intro K hK
    refine awp_region ftCOk ?_
    simp (maxSteps := 4000000) only [go_sem, Nat.reduceBEq, Nat.reduceLT, Nat.reduceAdd, Nat.reduceLeDiff, Nat.reduceSub, Nat.reduceEqDiff, Int.reduceToNat, reduceCtorEq, ↓reduceIte]
    repeat' (first | refine And.intro ?_ ?_ | intro hg)
    all_goals (try simp (disch := omega) only [wrap_fits])
    all_goals first
      | (refine hK _ _ ?_; exact Red.auto)
      | exact trivial
      | assumption
      | omega
      | exact wrap_fits (by omega) (by omega)
      | (refine wpA_callA (k_spec_GraphValid a0_0 a0_1 (h := hr0)) [0] [] ?_
         rintro x Hc' ⟨rfl, rfl⟩ hlen
         refine vcOps_sound ftCOk ?_
         simp (maxSteps := 4000000) only [go_sem, Nat.reduceBEq, Nat.reduceLT, Nat.reduceAdd, Nat.reduceLeDiff, Nat.reduceSub, Nat.reduceEqDiff, Int.reduceToNat, reduceCtorEq, ↓reduceIte]
         repeat' (first | refine And.intro ?_ ?_ | intro hg)
         all_goals (try simp (disch := omega) only [wrap_fits])
         all_goals first
           | (refine hK _ _ ?_; exact Red.auto)
           | exact trivial
           | assumption
           | omega
           | exact wrap_fits (by omega) (by omega)
           | (simp_all; done)
           | (simp_all; omega))
      | (simp_all; done)
      | (simp_all; omega)
  · clear hr0
    refine awp_cond (t := 16) rfl (fun hc3 => ?_) (fun hc3 => ?_)
    · replace h := bite_t h hc3
      refine awp_reg ftCOk [(2, .sl 2)] [.row false (.trips a0_1), .rbox [.v (.int .i64 a0_0), .sl 0], .row true (.ints .i64 [])] ?_
      refine awp_ret ?_
      (try simp only [Thn, InBlk, ↓reduceIte, Nat.reduceEqDiff])
      obtain rfl := Option.some.inj h
      refine ⟨by simp, _, [0, 2], (by simp only [go_sem, Nat.reduceBEq, Nat.reduceLT, Nat.reduceAdd, Nat.reduceLeDiff, Nat.reduceSub, Nat.reduceEqDiff, Int.reduceToNat, reduceCtorEq, ↓reduceIte]; exact rfl), ?_, ?_, ?_, ?_⟩
      · first | exact trivial | exact ⟨trivial, trivial⟩ | exact ⟨trivial, trivial, trivial⟩ | exact ⟨trivial, trivial, trivial, trivial⟩ | (simp only [allP, and_true, true_and]; done) | (simp only [allP, and_true, true_and]; omega)
      · simp [selOk, pos]
      · simp
      · first | exact ⟨rfl, rfl⟩ | (simp only [go_sem, Nat.reduceBEq, Nat.reduceLT, Nat.reduceAdd, Nat.reduceLeDiff, Nat.reduceSub, Nat.reduceEqDiff, Int.reduceToNat, reduceCtorEq, ↓reduceIte]; done) | (simp [go_sem, Nat.reduceBEq, Nat.reduceLT, Nat.reduceAdd, Nat.reduceLeDiff, Nat.reduceSub, Nat.reduceEqDiff, Int.reduceToNat, reduceCtorEq, ↓reduceIte]; done) | (simp only [go_sem, Nat.reduceBEq, Nat.reduceLT, Nat.reduceAdd, Nat.reduceLeDiff, Nat.reduceSub, Nat.reduceEqDiff, Int.reduceToNat, reduceCtorEq, ↓reduceIte]; exact ⟨rfl, rfl⟩) | (simp_all [go_sem, Nat.reduceBEq, Nat.reduceLT, Nat.reduceAdd, Nat.reduceLeDiff, Nat.reduceSub, Nat.reduceEqDiff, Int.reduceToNat, reduceCtorEq, ↓reduceIte]; done)
    · replace h := bite_f h hc3
      refine awp_skip ?_
      (try simp only [Thn, InBlk, ↓reduceIte, Nat.reduceEqDiff])
      refine hK2 _ _ ?_
      clear hK2
      replace h := bind_some h
      obtain ⟨y_1, hr0, h⟩ := h
      try dsimp only at h
      refine awp_to [(1, .pp 1 0), (3, .sl 3)] [.row false (.trips a0_1), .rbox [.v (.int .i64 a0_0), .sl 0], .row true (.ints .i64 []), .row true (.ints .i64 y_1)] ?_ ?_
      · clear h
        intro K hK
        refine awp_region ftCOk ?_
        simp (maxSteps := 4000000) only [go_sem, Nat.reduceBEq, Nat.reduceLT, Nat.reduceAdd, Nat.reduceLeDiff, Nat.reduceSub, Nat.reduceEqDiff, Int.reduceToNat, reduceCtorEq, ↓reduceIte]
        repeat' (first | refine And.intro ?_ ?_ | intro hg)
        all_goals (try simp (disch := omega) only [wrap_fits])
        all_goals first
          | (refine hK _ _ ?_; exact Red.auto)
          | exact trivial
          | assumption
          | omega
          | exact wrap_fits (by omega) (by omega)
          | (refine wpA_callA (k_spec_l8Fill a0_0 0 (h := hr0)) [] [] ?_
             rintro x Hc' ⟨rfl, rfl⟩ hlen
             refine vcOps_sound ftCOk ?_
             simp (maxSteps := 4000000) only [go_sem, Nat.reduceBEq, Nat.reduceLT, Nat.reduceAdd, Nat.reduceLeDiff, Nat.reduceSub, Nat.reduceEqDiff, Int.reduceToNat, reduceCtorEq, ↓reduceIte]
             repeat' (first | refine And.intro ?_ ?_ | intro hg)
             all_goals (try simp (disch := omega) only [wrap_fits])
             all_goals first
               | (refine hK _ _ ?_; exact Red.auto)
               | exact trivial
               | assumption
               | omega
               | exact wrap_fits (by omega) (by omega)
               | (simp_all; done)
               | (simp_all; omega))
          | (simp_all; done)
          | (simp_all; omega)
      · clear hr0
        refine awp_seq fun K8081 hK8081 => ?_
        refine awp_reg ftCOk [(1, .pp 1 0), (3, .sl 3), (4, .v (.int .i64 1))] [.row false (.trips a0_1), .rbox [.v (.int .i64 a0_0), .sl 0], .row true (.ints .i64 []), .row true (.ints .i64 y_1)] ?_
        refine awp_block ?_
        replace h := bind_some h
        obtain ⟨t3s_1, hx, h⟩ := h
        refine awp_loopL hx (fun ((t4, t3s) : Int × List Int) => [(1, .pp 1 0), (3, .sl 2), (4, .v (.int .i64 t4))]) (fun ((t4, t3s) : Int × List Int) => [.row false (.trips a0_1), .rbox [.v (.int .i64 a0_0), .sl 0], .row true (.ints .i64 t3s)]) (fun (t3s_1 : List Int) => Exit.exit 0) (fun (t3s_1 : List Int) => [(3, .sl 1)]) (fun (t3s_1 : List Int) => [.row false (.trips a0_1), .row true (.ints .i64 t3s_1)]) ?_ ?_ ?_ ?_
        · rintro t3s_1 hy <;> cases hy
        · clear h hx
          exact Red.selA [0, 1, 3] Red.auto
        · clear h hx
          rintro ⟨t4, t3s⟩ r h
          unfold spec_CoresOf_b5 at h
          try dsimp only at h
          try dsimp only
          refine awp_seq fun K13467 hK13467 => ?_
          refine awp_reg ftCOk [(1, .pp 1 0), (3, .sl 2), (4, .v (.int .i64 t4)), (24, .v (.bool (decide (t4 < a0_0))))] [.row false (.trips a0_1), .rbox [.v (.int .i64 a0_0), .sl 0], .row true (.ints .i64 t3s)] ?_
          refine awp_cond (t := 24) rfl (fun hc13468 => ?_) (fun hc13468 => ?_)
          · replace h := bite_t h hc13468
            refine awp_skip ?_
            (try simp only [Thn, InBlk, ↓reduceIte, Nat.reduceEqDiff])
            refine hK13467 _ _ ?_
            clear hK13467
            refine awp_seq fun K14813 hK14813 => ?_
            refine awp_block ?_
            replace h := chk_some h
            obtain ⟨hp0, h⟩ := h
            refine awp_reg ftCOk [(1, .pp 1 0), (3, .sl 2), (4, .v (.int .i64 t4)), (5, .sl 3)] [.row false (.trips a0_1), .rbox [.v (.int .i64 a0_0), .sl 0], .row true (.ints .i64 t3s), .row true (.bools (List.replicate a0_0.toNat false))] ?_
            clear hp0
            refine awp_seq fun K14827 hK14827 => ?_
            refine awp_reg ftCOk [(1, .pp 1 0), (3, .sl 2), (4, .v (.int .i64 t4)), (5, .sl 3), (6, .v (.int .i64 0))] [.row false (.trips a0_1), .rbox [.v (.int .i64 a0_0), .sl 0], .row true (.ints .i64 t3s), .row true (.bools (List.replicate a0_0.toNat false))] ?_
            refine awp_block ?_
            replace h := bind_some h
            obtain ⟨t5s_1, hx, h⟩ := h
            refine awp_loopL hx (fun ((t6, t5s) : Int × List Bool) => [(1, .pp 1 0), (3, .sl 2), (4, .v (.int .i64 t4)), (5, .sl 3), (6, .v (.int .i64 t6))]) (fun ((t6, t5s) : Int × List Bool) => [.row false (.trips a0_1), .rbox [.v (.int .i64 a0_0), .sl 0], .row true (.ints .i64 t3s), .row true (.bools t5s)]) (fun (t5s_1 : List Bool) => Exit.exit 2) (fun (t5s_1 : List Bool) => [(1, .pp 1 0), (3, .sl 2), (4, .v (.int .i64 t4)), (5, .sl 3)]) (fun (t5s_1 : List Bool) => [.row false (.trips a0_1), .rbox [.v (.int .i64 a0_0), .sl 0], .row true (.ints .i64 t3s), .row true (.bools t5s_1)]) ?_ ?_ ?_ ?_
            · rintro t5s_1 hy <;> cases hy
            · clear h hx
              exact Red.auto
            · clear h hx
              rintro ⟨t6, t5s⟩ r h
              unfold spec_CoresOf_b0 at h
              try dsimp only at h
              try dsimp only
              refine awp_seq fun K14837 hK14837 => ?_
              refine awp_reg ftCOk [(1, .pp 1 0), (3, .sl 2), (4, .v (.int .i64 t4)), (5, .sl 3), (6, .v (.int .i64 t6)), (33, .v (.bool (decide (t6 < a0_0))))] [.row false (.trips a0_1), .rbox [.v (.int .i64 a0_0), .sl 0], .row true (.ints .i64 t3s), .row true (.bools t5s)] ?_
              refine awp_cond (t := 33) rfl (fun hc14838 => ?_) (fun hc14838 => ?_)
              · replace h := bite_t h hc14838
                refine awp_skip ?_
                (try simp only [Thn, InBlk, ↓reduceIte, Nat.reduceEqDiff])
                refine hK14837 _ _ ?_
                clear hK14837
                refine awp_seq fun K14839 hK14839 => ?_
                refine awp_block ?_
                replace h := chk_some h
                obtain ⟨hp0, h⟩ := h
                refine awp_regE ftCOk [(1, .pp 1 0), (3, .sl 2), (4, .v (.int .i64 t4)), (5, .sl 3), (6, .v (.int .i64 t6))] [.row false (.trips a0_1), .rbox [.v (.int .i64 a0_0), .sl 0], .row true (.ints .i64 t3s), .row true (.bools (t5s.set t6.toNat true))] ?_
                clear hp0
                (try simp only [Thn, InBlk, ↓reduceIte, Nat.reduceEqDiff])
                (try simp only [Thn, InBlk, ↓reduceIte, Nat.reduceEqDiff])
                refine hK14839 _ _ ?_
                clear hK14839
                replace h := chk_some h
                obtain ⟨hp0, h⟩ := h
                refine awp_regE ftCOk [(1, .pp 1 0), (3, .sl 2), (4, .v (.int .i64 t4)), (5, .sl 3), (6, .v (.int .i64 (t6 + 1)))] [.row false (.trips a0_1), .rbox [.v (.int .i64 a0_0), .sl 0], .row true (.ints .i64 t3s), .row true (.bools (t5s.set t6.toNat true))] ?_
                clear hp0
                obtain rfl := Option.some.inj h
                refine LoopQ.next ?_
                exact Red.auto
              · replace h := bite_f h hc14838
                refine awp_exit ?_
                (try simp only [Thn, InBlk, ↓reduceIte, Nat.reduceEqDiff])
                obtain rfl := Option.some.inj h
                refine LoopQ.out rfl ?_
                exact Red.auto
            · clear hx
              skip
              · try dsimp only [Sum.elim_inl, Sum.elim_inr] at h
                try dsimp only [Sum.elim_inl, Sum.elim_inr]
                (try simp only [Thn, InBlk, ↓reduceIte, Nat.reduceEqDiff])
                (try simp only [Thn, InBlk, ↓reduceIte, Nat.reduceEqDiff])
                (try simp only [Thn, InBlk, ↓reduceIte, Nat.reduceEqDiff])
                refine hK14827 _ _ ?_
                clear hK14827
                refine awp_seq fun K15491 hK15491 => ?_
                refine awp_reg ftCOk [(1, .pp 1 0), (3, .sl 2), (4, .v (.int .i64 t4)), (5, .sl 3), (7, .v (.bool true))] [.row false (.trips a0_1), .rbox [.v (.int .i64 a0_0), .sl 0], .row true (.ints .i64 t3s), .row true (.bools t5s_1)] ?_
                refine awp_block ?_
                replace h := bind_some h
                obtain ⟨t5s_3, hx, h⟩ := h
                refine awp_loopL hx (fun ((t7, t5s_2) : Bool × List Bool) => [(1, .pp 1 0), (3, .sl 2), (4, .v (.int .i64 t4)), (5, .sl 3), (7, .v (.bool t7))]) (fun ((t7, t5s_2) : Bool × List Bool) => [.row false (.trips a0_1), .rbox [.v (.int .i64 a0_0), .sl 0], .row true (.ints .i64 t3s), .row true (.bools t5s_2)]) (fun (t5s_3 : List Bool) => Exit.exit 4) (fun (t5s_3 : List Bool) => [(1, .pp 1 0), (3, .sl 2), (4, .v (.int .i64 t4)), (5, .sl 3)]) (fun (t5s_3 : List Bool) => [.row false (.trips a0_1), .rbox [.v (.int .i64 a0_0), .sl 0], .row true (.ints .i64 t3s), .row true (.bools t5s_3)]) ?_ ?_ ?_ ?_
                · rintro t5s_3 hy <;> cases hy
                · clear h hx
                  exact Red.auto
                · clear h hx
                  rintro ⟨t7, t5s_2⟩ r h
                  unfold spec_CoresOf_b3 at h
                  try dsimp only at h
                  try dsimp only
                  refine awp_seq fun K15925 hK15925 => ?_
                  refine awp_reg ftCOk [(1, .pp 1 0), (3, .sl 2), (4, .v (.int .i64 t4)), (5, .sl 3), (39, .v (.bool t7))] [.row false (.trips a0_1), .rbox [.v (.int .i64 a0_0), .sl 0], .row true (.ints .i64 t3s), .row true (.bools t5s_2)] ?_
                  refine awp_cond (t := 39) rfl (fun hc15926 => ?_) (fun hc15926 => ?_)
                  · replace h := bite_t h hc15926
                    refine awp_skip ?_
                    (try simp only [Thn, InBlk, ↓reduceIte, Nat.reduceEqDiff])
                    refine hK15925 _ _ ?_
                    clear hK15925
                    refine awp_block ?_
                    refine awp_reg ftCOk [(1, .pp 1 0), (3, .sl 2), (4, .v (.int .i64 t4)), (5, .sl 3), (7, .v (.bool false))] [.row false (.trips a0_1), .rbox [.v (.int .i64 a0_0), .sl 0], .row true (.ints .i64 t3s), .row true (.bools t5s_2)] ?_
                    refine awp_reg ftCOk [(1, .pp 1 0), (3, .sl 2), (4, .v (.int .i64 t4)), (5, .sl 3), (7, .v (.bool false)), (8, .v (.int .i64 0))] [.row false (.trips a0_1), .rbox [.v (.int .i64 a0_0), .sl 0], .row true (.ints .i64 t3s), .row true (.bools t5s_2)] ?_
                    refine awp_block ?_
                    replace h := bind_some h
                    obtain ⟨x16140, hx, h⟩ := h
                    refine awp_loopL hx (fun ((t7_1, t8, t5s_4) : Bool × Int × List Bool) => [(1, .pp 1 0), (3, .sl 2), (4, .v (.int .i64 t4)), (5, .sl 3), (7, .v (.bool t7_1)), (8, .v (.int .i64 t8))]) (fun ((t7_1, t8, t5s_4) : Bool × Int × List Bool) => [.row false (.trips a0_1), .rbox [.v (.int .i64 a0_0), .sl 0], .row true (.ints .i64 t3s), .row true (.bools t5s_4)]) (fun ((t7_2, t5s_5) : Bool × List Bool) => Exit.exit 6) (fun ((t7_2, t5s_5) : Bool × List Bool) => [(1, .pp 1 0), (3, .sl 2), (4, .v (.int .i64 t4)), (5, .sl 3), (7, .v (.bool t7_2))]) (fun ((t7_2, t5s_5) : Bool × List Bool) => [.row false (.trips a0_1), .rbox [.v (.int .i64 a0_0), .sl 0], .row true (.ints .i64 t3s), .row true (.bools t5s_5)]) ?_ ?_ ?_ ?_
                    · rintro ⟨t7_2, t5s_5⟩ hy <;> cases hy
                    · clear h hx
                      exact Red.auto
                    · clear h hx
                      rintro ⟨t7_1, t8, t5s_4⟩ r h
                      unfold spec_CoresOf_b2 at h
                      try dsimp only at h
                      try dsimp only
                      refine awp_seq fun K16070 hK16070 => ?_
                      refine awp_reg ftCOk [(1, .pp 1 0), (3, .sl 2), (4, .v (.int .i64 t4)), (5, .sl 3), (7, .v (.bool t7_1)), (8, .v (.int .i64 t8)), (43, .v (.bool (decide (t8 < a0_0))))] [.row false (.trips a0_1), .rbox [.v (.int .i64 a0_0), .sl 0], .row true (.ints .i64 t3s), .row true (.bools t5s_4)] ?_
                      refine awp_cond (t := 43) rfl (fun hc16071 => ?_) (fun hc16071 => ?_)
                      · replace h := bite_t h hc16071
                        refine awp_skip ?_
                        (try simp only [Thn, InBlk, ↓reduceIte, Nat.reduceEqDiff])
                        refine hK16070 _ _ ?_
                        clear hK16070
                        refine awp_join h (fun ((t7_3, t5s_6) : Bool × List Bool) => [(1, .pp 1 0), (3, .sl 2), (4, .v (.int .i64 t4)), (5, .sl 3), (7, .v (.bool t7_3)), (8, .v (.int .i64 t8))]) (fun ((t7_3, t5s_6) : Bool × List Bool) => [.row false (.trips a0_1), .rbox [.v (.int .i64 a0_0), .sl 0], .row true (.ints .i64 t3s), .row true (.bools t5s_6)]) ?_ ?_
                        · clear h
                          intro k h
                          try dsimp only at h
                          refine awp_block ?_
                          refine awp_reg ftCOk [(1, .pp 1 0), (3, .sl 2), (4, .v (.int .i64 t4)), (5, .sl 3), (7, .v (.bool t7_1)), (8, .v (.int .i64 t8)), (9, .v (.int .i64 0))] [.row false (.trips a0_1), .rbox [.v (.int .i64 a0_0), .sl 0], .row true (.ints .i64 t3s), .row true (.bools t5s_4)] ?_
                          replace h := bind_some h
                          obtain ⟨y_2, hr0, h⟩ := h
                          try dsimp only at h
                          refine awp_to [(1, .pp 1 0), (3, .sl 2), (4, .v (.int .i64 t4)), (5, .sl 3), (7, .v (.bool t7_1)), (8, .v (.int .i64 t8)), (9, .v (.int .i64 0)), (10, .sl 4)] [.row false (.trips a0_1), .rbox [.v (.int .i64 a0_0), .sl 0], .row true (.ints .i64 t3s), .row true (.bools t5s_4), .row true (.ints .i64 y_2)] ?_ ?_
                          · clear h
                            intro K hK
                            refine awp_region ftCOk ?_
                            simp (maxSteps := 4000000) only [go_sem, Nat.reduceBEq, Nat.reduceLT, Nat.reduceAdd, Nat.reduceLeDiff, Nat.reduceSub, Nat.reduceEqDiff, Int.reduceToNat, reduceCtorEq, ↓reduceIte]
                            repeat' (first | refine And.intro ?_ ?_ | intro hg)
                            all_goals (try simp (disch := omega) only [wrap_fits])
                            all_goals first
                              | (refine hK _ _ ?_; exact Red.auto)
                              | exact trivial
                              | assumption
                              | omega
                              | exact wrap_fits (by omega) (by omega)
                              | (refine wpA_callA (k_spec_NearOf a0_0 a0_1 t8 (h := hr0)) [0] [] ?_
                                 rintro x Hc' ⟨rfl, rfl⟩ hlen
                                 refine vcOps_sound ftCOk ?_
                                 simp (maxSteps := 4000000) only [go_sem, Nat.reduceBEq, Nat.reduceLT, Nat.reduceAdd, Nat.reduceLeDiff, Nat.reduceSub, Nat.reduceEqDiff, Int.reduceToNat, reduceCtorEq, ↓reduceIte]
                                 repeat' (first | refine And.intro ?_ ?_ | intro hg)
                                 all_goals (try simp (disch := omega) only [wrap_fits])
                                 all_goals first
                                   | (refine hK _ _ ?_; exact Red.auto)
                                   | exact trivial
                                   | assumption
                                   | omega
                                   | exact wrap_fits (by omega) (by omega)
                                   | (simp_all; done)
                                   | (simp_all; omega))
                              | (simp_all; done)
                              | (simp_all; omega)
                          · clear hr0
                            refine awp_seq fun K16122 hK16122 => ?_
                            refine awp_reg ftCOk [(1, .pp 1 0), (3, .sl 2), (4, .v (.int .i64 t4)), (5, .sl 3), (7, .v (.bool t7_1)), (8, .v (.int .i64 t8)), (9, .v (.int .i64 0)), (10, .sl 4), (11, .v (.int .i64 0))] [.row false (.trips a0_1), .rbox [.v (.int .i64 a0_0), .sl 0], .row true (.ints .i64 t3s), .row true (.bools t5s_4), .row true (.ints .i64 y_2)] ?_
                            refine awp_block ?_
                            replace h := bind_some h
                            obtain ⟨t9_1, hx, h⟩ := h
                            refine awp_loopL hx (fun ((t9, t11) : Int × Int) => [(1, .pp 1 0), (3, .sl 2), (4, .v (.int .i64 t4)), (5, .sl 3), (7, .v (.bool t7_1)), (8, .v (.int .i64 t8)), (9, .v (.int .i64 t9)), (10, .sl 4), (11, .v (.int .i64 t11))]) (fun ((t9, t11) : Int × Int) => [.row false (.trips a0_1), .rbox [.v (.int .i64 a0_0), .sl 0], .row true (.ints .i64 t3s), .row true (.bools t5s_4), .row true (.ints .i64 y_2)]) (fun (t9_1 : Int) => Exit.exit 8) (fun (t9_1 : Int) => [(1, .pp 1 0), (3, .sl 2), (4, .v (.int .i64 t4)), (5, .sl 3), (7, .v (.bool t7_1)), (8, .v (.int .i64 t8)), (9, .v (.int .i64 t9_1))]) (fun (t9_1 : Int) => [.row false (.trips a0_1), .rbox [.v (.int .i64 a0_0), .sl 0], .row true (.ints .i64 t3s), .row true (.bools t5s_4)]) ?_ ?_ ?_ ?_
                            · rintro t9_1 hy <;> cases hy
                            · clear h hx
                              exact Red.auto
                            · clear h hx
                              rintro ⟨t9, t11⟩ r h
                              unfold spec_CoresOf_b1 at h
                              try dsimp only at h
                              try dsimp only
                              refine awp_seq fun K16134 hK16134 => ?_
                              refine awp_reg ftCOk [(1, .pp 1 0), (3, .sl 2), (4, .v (.int .i64 t4)), (5, .sl 3), (7, .v (.bool t7_1)), (8, .v (.int .i64 t8)), (9, .v (.int .i64 t9)), (10, .sl 4), (11, .v (.int .i64 t11)), (52, .v (.bool (decide (t11 < (y_2.length : Int)))))] [.row false (.trips a0_1), .rbox [.v (.int .i64 a0_0), .sl 0], .row true (.ints .i64 t3s), .row true (.bools t5s_4), .row true (.ints .i64 y_2)] ?_
                              refine awp_cond (t := 52) rfl (fun hc16135 => ?_) (fun hc16135 => ?_)
                              · replace h := bite_t h hc16135
                                refine awp_skip ?_
                                (try simp only [Thn, InBlk, ↓reduceIte, Nat.reduceEqDiff])
                                refine hK16134 _ _ ?_
                                clear hK16134
                                refine awp_join h (fun (t9_2 : Int) => [(1, .pp 1 0), (3, .sl 2), (4, .v (.int .i64 t4)), (5, .sl 3), (7, .v (.bool t7_1)), (8, .v (.int .i64 t8)), (9, .v (.int .i64 t9_2)), (10, .sl 4), (11, .v (.int .i64 t11))]) (fun (t9_2 : Int) => [.row false (.trips a0_1), .rbox [.v (.int .i64 a0_0), .sl 0], .row true (.ints .i64 t3s), .row true (.bools t5s_4), .row true (.ints .i64 y_2)]) ?_ ?_
                                · clear h
                                  intro k_1 h
                                  try dsimp only at h
                                  refine awp_block ?_
                                  replace h := chk_some h
                                  obtain ⟨hp0, h⟩ := h
                                  replace h := chk_some h
                                  obtain ⟨hp1, h⟩ := h
                                  refine awp_reg ftCOk [(1, .pp 1 0), (3, .sl 2), (4, .v (.int .i64 t4)), (5, .sl 3), (7, .v (.bool t7_1)), (8, .v (.int .i64 t8)), (9, .v (.int .i64 t9)), (10, .sl 4), (11, .v (.int .i64 t11)), (61, .v (.bool (t5s_4.getD ((y_2.getD t11.toNat 0).toNat) false)))] [.row false (.trips a0_1), .rbox [.v (.int .i64 a0_0), .sl 0], .row true (.ints .i64 t3s), .row true (.bools t5s_4), .row true (.ints .i64 y_2)] ?_
                                  clear hp0 hp1
                                  refine awp_cond (t := 61) rfl (fun hc16137 => ?_) (fun hc16137 => ?_)
                                  · replace h := bite_t h hc16137
                                    replace h := chk_some h
                                    obtain ⟨hp0, h⟩ := h
                                    refine awp_regE ftCOk [(1, .pp 1 0), (3, .sl 2), (4, .v (.int .i64 t4)), (5, .sl 3), (7, .v (.bool t7_1)), (8, .v (.int .i64 t8)), (9, .v (.int .i64 (t9 + 1))), (10, .sl 4), (11, .v (.int .i64 t11))] [.row false (.trips a0_1), .rbox [.v (.int .i64 a0_0), .sl 0], .row true (.ints .i64 t3s), .row true (.bools t5s_4), .row true (.ints .i64 y_2)] ?_
                                    clear hp0
                                    (try simp only [Thn, InBlk, ↓reduceIte, Nat.reduceEqDiff])
                                    (try simp only [Thn, InBlk, ↓reduceIte, Nat.reduceEqDiff])
                                    refine ⟨_, h, ?_⟩
                                    exact Red.auto
                                  · replace h := bite_f h hc16137
                                    refine awp_skip ?_
                                    (try simp only [Thn, InBlk, ↓reduceIte, Nat.reduceEqDiff])
                                    (try simp only [Thn, InBlk, ↓reduceIte, Nat.reduceEqDiff])
                                    refine ⟨_, h, ?_⟩
                                    exact Red.auto
                                · clear h
                                  rintro t9_2 h
                                  try dsimp only at h
                                  try dsimp only
                                  replace h := chk_some h
                                  obtain ⟨hp0, h⟩ := h
                                  refine awp_regE ftCOk [(1, .pp 1 0), (3, .sl 2), (4, .v (.int .i64 t4)), (5, .sl 3), (7, .v (.bool t7_1)), (8, .v (.int .i64 t8)), (9, .v (.int .i64 t9_2)), (10, .sl 4), (11, .v (.int .i64 (t11 + 1)))] [.row false (.trips a0_1), .rbox [.v (.int .i64 a0_0), .sl 0], .row true (.ints .i64 t3s), .row true (.bools t5s_4), .row true (.ints .i64 y_2)] ?_
                                  clear hp0
                                  obtain rfl := Option.some.inj h
                                  refine LoopQ.next ?_
                                  exact Red.auto
                              · replace h := bite_f h hc16135
                                refine awp_exit ?_
                                (try simp only [Thn, InBlk, ↓reduceIte, Nat.reduceEqDiff])
                                obtain rfl := Option.some.inj h
                                refine LoopQ.out rfl ?_
                                exact Red.selA [0, 1, 2, 3] Red.auto
                            · clear hx
                              skip
                              · try dsimp only [Sum.elim_inl, Sum.elim_inr] at h
                                try dsimp only [Sum.elim_inl, Sum.elim_inr]
                                (try simp only [Thn, InBlk, ↓reduceIte, Nat.reduceEqDiff])
                                (try simp only [Thn, InBlk, ↓reduceIte, Nat.reduceEqDiff])
                                (try simp only [Thn, InBlk, ↓reduceIte, Nat.reduceEqDiff])
                                refine hK16122 _ _ ?_
                                clear hK16122
                                replace h := chk_some h
                                obtain ⟨hp0, h⟩ := h
                                refine awp_reg ftCOk [(1, .pp 1 0), (3, .sl 2), (4, .v (.int .i64 t4)), (5, .sl 3), (7, .v (.bool t7_1)), (8, .v (.int .i64 t8)), (72, .v (.bool ((t5s_4.getD t8.toNat false) && (decide (t9_1 < t4)))))] [.row false (.trips a0_1), .rbox [.v (.int .i64 a0_0), .sl 0], .row true (.ints .i64 t3s), .row true (.bools t5s_4)] ?_
                                clear hp0
                                refine awp_cond (t := 72) rfl (fun hc16139 => ?_) (fun hc16139 => ?_)
                                · replace h := bite_t h hc16139
                                  replace h := chk_some h
                                  obtain ⟨hp0, h⟩ := h
                                  refine awp_reg ftCOk [(1, .pp 1 0), (3, .sl 2), (4, .v (.int .i64 t4)), (5, .sl 3), (8, .v (.int .i64 t8))] [.row false (.trips a0_1), .rbox [.v (.int .i64 a0_0), .sl 0], .row true (.ints .i64 t3s), .row true (.bools (t5s_4.set t8.toNat false))] ?_
                                  clear hp0
                                  refine awp_regE ftCOk [(1, .pp 1 0), (3, .sl 2), (4, .v (.int .i64 t4)), (5, .sl 3), (7, .v (.bool true)), (8, .v (.int .i64 t8))] [.row false (.trips a0_1), .rbox [.v (.int .i64 a0_0), .sl 0], .row true (.ints .i64 t3s), .row true (.bools (t5s_4.set t8.toNat false))] ?_
                                  (try simp only [Thn, InBlk, ↓reduceIte, Nat.reduceEqDiff])
                                  (try simp only [Thn, InBlk, ↓reduceIte, Nat.reduceEqDiff])
                                  refine ⟨_, h, ?_⟩
                                  exact Red.auto
                                · replace h := bite_f h hc16139
                                  refine awp_skip ?_
                                  (try simp only [Thn, InBlk, ↓reduceIte, Nat.reduceEqDiff])
                                  (try simp only [Thn, InBlk, ↓reduceIte, Nat.reduceEqDiff])
                                  refine ⟨_, h, ?_⟩
                                  exact Red.auto
                        · clear h
                          rintro ⟨t7_3, t5s_6⟩ h
                          try dsimp only at h
                          try dsimp only
                          replace h := chk_some h
                          obtain ⟨hp0, h⟩ := h
                          refine awp_regE ftCOk [(1, .pp 1 0), (3, .sl 2), (4, .v (.int .i64 t4)), (5, .sl 3), (7, .v (.bool t7_3)), (8, .v (.int .i64 (t8 + 1)))] [.row false (.trips a0_1), .rbox [.v (.int .i64 a0_0), .sl 0], .row true (.ints .i64 t3s), .row true (.bools t5s_6)] ?_
                          clear hp0
                          obtain rfl := Option.some.inj h
                          refine LoopQ.next ?_
                          exact Red.auto
                      · replace h := bite_f h hc16071
                        refine awp_exit ?_
                        (try simp only [Thn, InBlk, ↓reduceIte, Nat.reduceEqDiff])
                        obtain rfl := Option.some.inj h
                        refine LoopQ.out rfl ?_
                        exact Red.auto
                    · clear hx
                      rcases x16140 with ⟨t7_2, t5s_5⟩
                      · try dsimp only [Sum.elim_inl, Sum.elim_inr] at h
                        try dsimp only [Sum.elim_inl, Sum.elim_inr]
                        (try simp only [Thn, InBlk, ↓reduceIte, Nat.reduceEqDiff])
                        (try simp only [Thn, InBlk, ↓reduceIte, Nat.reduceEqDiff])
                        (try simp only [Thn, InBlk, ↓reduceIte, Nat.reduceEqDiff])
                        obtain rfl := Option.some.inj h
                        refine LoopQ.next ?_
                        exact Red.auto
                  · replace h := bite_f h hc15926
                    refine awp_exit ?_
                    (try simp only [Thn, InBlk, ↓reduceIte, Nat.reduceEqDiff])
                    obtain rfl := Option.some.inj h
                    refine LoopQ.out rfl ?_
                    exact Red.auto
                · clear hx
                  skip
                  · try dsimp only [Sum.elim_inl, Sum.elim_inr] at h
                    try dsimp only [Sum.elim_inl, Sum.elim_inr]
                    (try simp only [Thn, InBlk, ↓reduceIte, Nat.reduceEqDiff])
                    (try simp only [Thn, InBlk, ↓reduceIte, Nat.reduceEqDiff])
                    (try simp only [Thn, InBlk, ↓reduceIte, Nat.reduceEqDiff])
                    refine hK15491 _ _ ?_
                    clear hK15491
                    refine awp_reg ftCOk [(1, .pp 1 0), (3, .sl 2), (4, .v (.int .i64 t4)), (5, .sl 3), (12, .v (.int .i64 0))] [.row false (.trips a0_1), .rbox [.v (.int .i64 a0_0), .sl 0], .row true (.ints .i64 t3s), .row true (.bools t5s_3)] ?_
                    refine awp_block ?_
                    replace h := bind_some h
                    obtain ⟨t3s_3, hx, h⟩ := h
                    refine awp_loopL hx (fun ((t12, t3s_2) : Int × List Int) => [(1, .pp 1 0), (3, .sl 2), (4, .v (.int .i64 t4)), (5, .sl 3), (12, .v (.int .i64 t12))]) (fun ((t12, t3s_2) : Int × List Int) => [.row false (.trips a0_1), .rbox [.v (.int .i64 a0_0), .sl 0], .row true (.ints .i64 t3s_2), .row true (.bools t5s_3)]) (fun (t3s_3 : List Int) => Exit.exit 10) (fun (t3s_3 : List Int) => [(1, .pp 1 0), (3, .sl 2), (4, .v (.int .i64 t4))]) (fun (t3s_3 : List Int) => [.row false (.trips a0_1), .rbox [.v (.int .i64 a0_0), .sl 0], .row true (.ints .i64 t3s_3)]) ?_ ?_ ?_ ?_
                    · rintro t3s_3 hy <;> cases hy
                    · clear h hx
                      exact Red.auto
                    · clear h hx
                      rintro ⟨t12, t3s_2⟩ r h
                      unfold spec_CoresOf_b4 at h
                      try dsimp only at h
                      try dsimp only
                      refine awp_seq fun K16153 hK16153 => ?_
                      refine awp_reg ftCOk [(1, .pp 1 0), (3, .sl 2), (4, .v (.int .i64 t4)), (5, .sl 3), (12, .v (.int .i64 t12)), (79, .v (.bool (decide (t12 < a0_0))))] [.row false (.trips a0_1), .rbox [.v (.int .i64 a0_0), .sl 0], .row true (.ints .i64 t3s_2), .row true (.bools t5s_3)] ?_
                      refine awp_cond (t := 79) rfl (fun hc16154 => ?_) (fun hc16154 => ?_)
                      · replace h := bite_t h hc16154
                        refine awp_skip ?_
                        (try simp only [Thn, InBlk, ↓reduceIte, Nat.reduceEqDiff])
                        refine hK16153 _ _ ?_
                        clear hK16153
                        refine awp_join h (fun (t3s_4 : List Int) => [(1, .pp 1 0), (3, .sl 2), (4, .v (.int .i64 t4)), (5, .sl 3), (12, .v (.int .i64 t12))]) (fun (t3s_4 : List Int) => [.row false (.trips a0_1), .rbox [.v (.int .i64 a0_0), .sl 0], .row true (.ints .i64 t3s_4), .row true (.bools t5s_3)]) ?_ ?_
                        · clear h
                          intro k_2 h
                          try dsimp only at h
                          refine awp_block ?_
                          replace h := chk_some h
                          obtain ⟨hp0, h⟩ := h
                          refine awp_reg ftCOk [(1, .pp 1 0), (3, .sl 2), (4, .v (.int .i64 t4)), (5, .sl 3), (12, .v (.int .i64 t12)), (85, .v (.bool (t5s_3.getD t12.toNat false)))] [.row false (.trips a0_1), .rbox [.v (.int .i64 a0_0), .sl 0], .row true (.ints .i64 t3s_2), .row true (.bools t5s_3)] ?_
                          clear hp0
                          refine awp_cond (t := 85) rfl (fun hc16156 => ?_) (fun hc16156 => ?_)
                          · replace h := bite_t h hc16156
                            replace h := chk_some h
                            obtain ⟨hp0, h⟩ := h
                            refine awp_regE ftCOk [(1, .pp 1 0), (3, .sl 2), (4, .v (.int .i64 t4)), (5, .sl 3), (12, .v (.int .i64 t12))] [.row false (.trips a0_1), .rbox [.v (.int .i64 a0_0), .sl 0], .row true (.ints .i64 (t3s_2.set t12.toNat t4)), .row true (.bools t5s_3)] ?_
                            clear hp0
                            (try simp only [Thn, InBlk, ↓reduceIte, Nat.reduceEqDiff])
                            (try simp only [Thn, InBlk, ↓reduceIte, Nat.reduceEqDiff])
                            refine ⟨_, h, ?_⟩
                            exact Red.auto
                          · replace h := bite_f h hc16156
                            refine awp_skip ?_
                            (try simp only [Thn, InBlk, ↓reduceIte, Nat.reduceEqDiff])
                            (try simp only [Thn, InBlk, ↓reduceIte, Nat.reduceEqDiff])
                            refine ⟨_, h, ?_⟩
                            exact Red.auto
                        · clear h
                          rintro t3s_4 h
                          try dsimp only at h
                          try dsimp only
                          replace h := chk_some h
                          obtain ⟨hp0, h⟩ := h
                          refine awp_regE ftCOk [(1, .pp 1 0), (3, .sl 2), (4, .v (.int .i64 t4)), (5, .sl 3), (12, .v (.int .i64 (t12 + 1)))] [.row false (.trips a0_1), .rbox [.v (.int .i64 a0_0), .sl 0], .row true (.ints .i64 t3s_4), .row true (.bools t5s_3)] ?_
                          clear hp0
                          obtain rfl := Option.some.inj h
                          refine LoopQ.next ?_
                          exact Red.auto
                      · replace h := bite_f h hc16154
                        refine awp_exit ?_
                        (try simp only [Thn, InBlk, ↓reduceIte, Nat.reduceEqDiff])
                        obtain rfl := Option.some.inj h
                        refine LoopQ.out rfl ?_
                        exact Red.selA [0, 1, 2] Red.auto
                    · clear hx
                      skip
                      · try dsimp only [Sum.elim_inl, Sum.elim_inr] at h
                        try dsimp only [Sum.elim_inl, Sum.elim_inr]
                        (try simp only [Thn, InBlk, ↓reduceIte, Nat.reduceEqDiff])
                        (try simp only [Thn, InBlk, ↓reduceIte, Nat.reduceEqDiff])
                        (try simp only [Thn, InBlk, ↓reduceIte, Nat.reduceEqDiff])
                        (try simp only [Thn, InBlk, ↓reduceIte, Nat.reduceEqDiff])
                        refine hK14813 _ _ ?_
                        clear hK14813
                        replace h := chk_some h
                        obtain ⟨hp0, h⟩ := h
                        refine awp_regE ftCOk [(1, .pp 1 0), (3, .sl 2), (4, .v (.int .i64 (t4 + 1)))] [.row false (.trips a0_1), .rbox [.v (.int .i64 a0_0), .sl 0], .row true (.ints .i64 t3s_3)] ?_
                        clear hp0
                        obtain rfl := Option.some.inj h
                        refine LoopQ.next ?_
                        exact Red.auto
          · replace h := bite_f h hc13468
            refine awp_exit ?_
            (try simp only [Thn, InBlk, ↓reduceIte, Nat.reduceEqDiff])
            obtain rfl := Option.some.inj h
            refine LoopQ.out rfl ?_
            exact Red.selA [0, 2] Red.auto
        · clear hx
          skip
          · try dsimp only [Sum.elim_inl, Sum.elim_inr] at h
            try dsimp only [Sum.elim_inl, Sum.elim_inr]
            (try simp only [Thn, InBlk, ↓reduceIte, Nat.reduceEqDiff])
            (try simp only [Thn, InBlk, ↓reduceIte, Nat.reduceEqDiff])
            (try simp only [Thn, InBlk, ↓reduceIte, Nat.reduceEqDiff])
            refine hK8081 _ _ ?_
            clear hK8081
            refine awp_reg ftCOk [(2, .sl 1)] [.row false (.trips a0_1), .row true (.ints .i64 t3s_1)] ?_
            refine awp_ret ?_
            (try simp only [Thn, InBlk, ↓reduceIte, Nat.reduceEqDiff])
            obtain rfl := Option.some.inj h
            refine ⟨by simp, _, [0, 1], (by simp only [go_sem, Nat.reduceBEq, Nat.reduceLT, Nat.reduceAdd, Nat.reduceLeDiff, Nat.reduceSub, Nat.reduceEqDiff, Int.reduceToNat, reduceCtorEq, ↓reduceIte]; exact rfl), ?_, ?_, ?_, ?_⟩
            · first | exact trivial | exact ⟨trivial, trivial⟩ | exact ⟨trivial, trivial, trivial⟩ | exact ⟨trivial, trivial, trivial, trivial⟩ | (simp only [allP, and_true, true_and]; done) | (simp only [allP, and_true, true_and]; omega)
            · simp [selOk, pos]
            · simp
            · first | exact ⟨rfl, rfl⟩ | (simp only [go_sem, Nat.reduceBEq, Nat.reduceLT, Nat.reduceAdd, Nat.reduceLeDiff, Nat.reduceSub, Nat.reduceEqDiff, Int.reduceToNat, reduceCtorEq, ↓reduceIte]; done) | (simp [go_sem, Nat.reduceBEq, Nat.reduceLT, Nat.reduceAdd, Nat.reduceLeDiff, Nat.reduceSub, Nat.reduceEqDiff, Int.reduceToNat, reduceCtorEq, ↓reduceIte]; done) | (simp only [go_sem, Nat.reduceBEq, Nat.reduceLT, Nat.reduceAdd, Nat.reduceLeDiff, Nat.reduceSub, Nat.reduceEqDiff, Int.reduceToNat, reduceCtorEq, ↓reduceIte]; exact ⟨rfl, rfl⟩) | (simp_all [go_sem, Nat.reduceBEq, Nat.reduceLT, Nat.reduceAdd, Nat.reduceLeDiff, Nat.reduceSub, Nat.reduceEqDiff, Int.reduceToNat, reduceCtorEq, ↓reduceIte]; done)
theorem k_laws_sameInts (a0 : List Int) (a1 : List Int) {r : Bool} (h : laws_sameInts a0 a1 = some r) :
    FnA Tryd.prog 18 [.sl 0, .sl 1] [.row false (.ints .i64 a0), .row false (.ints .i64 a1)] [] (fun x H => x = .v (.bool r) ∧ H = [.row false (.ints .i64 a0), .row false (.ints .i64 a1)]) := by
  unfold laws_sameInts at h
  refine FnA.of (N := 26) (pin := [0, 1]) (rs := [.tmp 4]) Tryd.func18 rfl en18 rfl rfl (by simp) (by simp; try omega) ?_
  refine awp_reg ftCOk [(0, .sl 0), (1, .sl 1)] [.row false (.ints .i64 a0), .row false (.ints .i64 a1)] ?_
  refine awp_seq fun K2 hK2 => ?_
  refine awp_reg ftCOk [(0, .sl 0), (1, .sl 1), (10, .v (.bool ((a0.length : Int) != (a1.length : Int))))] [.row false (.ints .i64 a0), .row false (.ints .i64 a1)] ?_
  refine awp_cond (t := 10) rfl (fun hc3 => ?_) (fun hc3 => ?_)
  · replace h := bite_t h hc3
    refine awp_reg ftCOk [(4, .v (.bool false))] [.row false (.ints .i64 a0), .row false (.ints .i64 a1)] ?_
    refine awp_ret ?_
    (try simp only [Thn, InBlk, ↓reduceIte, Nat.reduceEqDiff])
    obtain rfl := Option.some.inj h
    refine ⟨by simp, _, [0, 1], (by simp only [go_sem, Nat.reduceBEq, Nat.reduceLT, Nat.reduceAdd, Nat.reduceLeDiff, Nat.reduceSub, Nat.reduceEqDiff, Int.reduceToNat, reduceCtorEq, ↓reduceIte]; exact rfl), ?_, ?_, ?_, ?_⟩
    · first | exact trivial | exact ⟨trivial, trivial⟩ | exact ⟨trivial, trivial, trivial⟩ | exact ⟨trivial, trivial, trivial, trivial⟩ | (simp only [allP, and_true, true_and]; done) | (simp only [allP, and_true, true_and]; omega)
    · simp [selOk, pos]
    · simp
    · first | exact ⟨rfl, rfl⟩ | (simp only [go_sem, Nat.reduceBEq, Nat.reduceLT, Nat.reduceAdd, Nat.reduceLeDiff, Nat.reduceSub, Nat.reduceEqDiff, Int.reduceToNat, reduceCtorEq, ↓reduceIte]; done) | (simp [go_sem, Nat.reduceBEq, Nat.reduceLT, Nat.reduceAdd, Nat.reduceLeDiff, Nat.reduceSub, Nat.reduceEqDiff, Int.reduceToNat, reduceCtorEq, ↓reduceIte]; done) | (simp only [go_sem, Nat.reduceBEq, Nat.reduceLT, Nat.reduceAdd, Nat.reduceLeDiff, Nat.reduceSub, Nat.reduceEqDiff, Int.reduceToNat, reduceCtorEq, ↓reduceIte]; exact ⟨rfl, rfl⟩) | (simp_all [go_sem, Nat.reduceBEq, Nat.reduceLT, Nat.reduceAdd, Nat.reduceLeDiff, Nat.reduceSub, Nat.reduceEqDiff, Int.reduceToNat, reduceCtorEq, ↓reduceIte]; done)
  · replace h := bite_f h hc3
    refine awp_skip ?_
    (try simp only [Thn, InBlk, ↓reduceIte, Nat.reduceEqDiff])
    refine hK2 _ _ ?_
    clear hK2
    refine awp_seq fun K23 hK23 => ?_
    refine awp_reg ftCOk [(0, .sl 0), (1, .sl 1), (5, .v (.int .i64 0))] [.row false (.ints .i64 a0), .row false (.ints .i64 a1)] ?_
    refine awp_block ?_
    replace h := bind_some h
    obtain ⟨x42, hx, h⟩ := h
    refine awp_loopL hx (fun (t5 : Int) => [(0, .sl 0), (1, .sl 1), (5, .v (.int .i64 t5))]) (fun (t5 : Int) => [.row false (.ints .i64 a0), .row false (.ints .i64 a1)]) (Sum.elim (fun (_ : Unit) => Exit.exit 0) (fun (_ : Unit) => Exit.ret)) (Sum.elim (fun (_ : Unit) => []) (fun (_ : Unit) => [(4, .v (.bool false))])) (Sum.elim (fun (_ : Unit) => [.row false (.ints .i64 a0), .row false (.ints .i64 a1)]) (fun (_ : Unit) => [.row false (.ints .i64 a0), .row false (.ints .i64 a1)])) ?_ ?_ ?_ ?_
    · rintro (⟨⟩ | ⟨⟩) hy <;> cases hy
    · clear h hx
      exact Red.auto
    · clear h hx
      rintro t5 r h
      unfold laws_sameInts_b0 at h
      try dsimp only at h
      try dsimp only
      refine awp_seq fun K37 hK37 => ?_
      refine awp_reg ftCOk [(0, .sl 0), (1, .sl 1), (5, .v (.int .i64 t5)), (14, .v (.bool (decide (t5 < (a0.length : Int)))))] [.row false (.ints .i64 a0), .row false (.ints .i64 a1)] ?_
      refine awp_cond (t := 14) rfl (fun hc38 => ?_) (fun hc38 => ?_)
      · replace h := bite_t h hc38
        refine awp_skip ?_
        (try simp only [Thn, InBlk, ↓reduceIte, Nat.reduceEqDiff])
        refine hK37 _ _ ?_
        clear hK37
        refine awp_seq fun K40 hK40 => ?_
        refine awp_block ?_
        replace h := chk_some h
        obtain ⟨hp0, h⟩ := h
        replace h := chk_some h
        obtain ⟨hp1, h⟩ := h
        refine awp_regQ mixed ftCOk [(0, .sl 0), (1, .sl 1), (5, .v (.int .i64 t5)), (25, .v (.bool ((a0.getD t5.toNat 0) != (a1.getD t5.toNat 0))))] [.row false (.ints .i64 a0), .row false (.ints .i64 a1)] ?_
        clear hp0 hp1
        refine awp_cond (t := 25) rfl (fun hc41 => ?_) (fun hc41 => ?_)
        · replace h := bite_t h hc41
          refine awp_reg ftCOk [(4, .v (.bool false))] [.row false (.ints .i64 a0), .row false (.ints .i64 a1)] ?_
          refine awp_ret ?_
          (try simp only [Thn, InBlk, ↓reduceIte, Nat.reduceEqDiff])
          obtain rfl := Option.some.inj h
          refine LoopQ.out rfl ?_
          exact Red.auto
        · replace h := bite_f h hc41
          refine awp_skip ?_
          (try simp only [Thn, InBlk, ↓reduceIte, Nat.reduceEqDiff])
          (try simp only [Thn, InBlk, ↓reduceIte, Nat.reduceEqDiff])
          refine hK40 _ _ ?_
          clear hK40
          replace h := chk_some h
          obtain ⟨hp0, h⟩ := h
          refine awp_regE ftCOk [(0, .sl 0), (1, .sl 1), (5, .v (.int .i64 (t5 + 1)))] [.row false (.ints .i64 a0), .row false (.ints .i64 a1)] ?_
          clear hp0
          obtain rfl := Option.some.inj h
          refine LoopQ.next ?_
          exact Red.auto
      · replace h := bite_f h hc38
        refine awp_exit ?_
        (try simp only [Thn, InBlk, ↓reduceIte, Nat.reduceEqDiff])
        obtain rfl := Option.some.inj h
        refine LoopQ.out rfl ?_
        exact Red.auto
    · clear hx
      rcases x42 with (⟨⟩ | ⟨⟩)
      · try dsimp only [Sum.elim_inl, Sum.elim_inr] at h
        try dsimp only [Sum.elim_inl, Sum.elim_inr]
        (try simp only [Thn, InBlk, ↓reduceIte, Nat.reduceEqDiff])
        (try simp only [Thn, InBlk, ↓reduceIte, Nat.reduceEqDiff])
        (try simp only [Thn, InBlk, ↓reduceIte, Nat.reduceEqDiff])
        refine hK23 _ _ ?_
        clear hK23
        refine awp_reg ftCOk [(4, .v (.bool true))] [.row false (.ints .i64 a0), .row false (.ints .i64 a1)] ?_
        refine awp_ret ?_
        (try simp only [Thn, InBlk, ↓reduceIte, Nat.reduceEqDiff])
        obtain rfl := Option.some.inj h
        refine ⟨by simp, _, [0, 1], (by simp only [go_sem, Nat.reduceBEq, Nat.reduceLT, Nat.reduceAdd, Nat.reduceLeDiff, Nat.reduceSub, Nat.reduceEqDiff, Int.reduceToNat, reduceCtorEq, ↓reduceIte]; exact rfl), ?_, ?_, ?_, ?_⟩
        · first | exact trivial | exact ⟨trivial, trivial⟩ | exact ⟨trivial, trivial, trivial⟩ | exact ⟨trivial, trivial, trivial, trivial⟩ | (simp only [allP, and_true, true_and]; done) | (simp only [allP, and_true, true_and]; omega)
        · simp [selOk, pos]
        · simp
        · first | exact ⟨rfl, rfl⟩ | (simp only [go_sem, Nat.reduceBEq, Nat.reduceLT, Nat.reduceAdd, Nat.reduceLeDiff, Nat.reduceSub, Nat.reduceEqDiff, Int.reduceToNat, reduceCtorEq, ↓reduceIte]; done) | (simp [go_sem, Nat.reduceBEq, Nat.reduceLT, Nat.reduceAdd, Nat.reduceLeDiff, Nat.reduceSub, Nat.reduceEqDiff, Int.reduceToNat, reduceCtorEq, ↓reduceIte]; done) | (simp only [go_sem, Nat.reduceBEq, Nat.reduceLT, Nat.reduceAdd, Nat.reduceLeDiff, Nat.reduceSub, Nat.reduceEqDiff, Int.reduceToNat, reduceCtorEq, ↓reduceIte]; exact ⟨rfl, rfl⟩) | (simp_all [go_sem, Nat.reduceBEq, Nat.reduceLT, Nat.reduceAdd, Nat.reduceLeDiff, Nat.reduceSub, Nat.reduceEqDiff, Int.reduceToNat, reduceCtorEq, ↓reduceIte]; done)
      · try dsimp only [Sum.elim_inl, Sum.elim_inr] at h
        try dsimp only [Sum.elim_inl, Sum.elim_inr]
        (try simp only [Thn, InBlk, ↓reduceIte, Nat.reduceEqDiff])
        obtain rfl := Option.some.inj h
        refine ⟨by simp, _, [0, 1], (by simp only [go_sem, Nat.reduceBEq, Nat.reduceLT, Nat.reduceAdd, Nat.reduceLeDiff, Nat.reduceSub, Nat.reduceEqDiff, Int.reduceToNat, reduceCtorEq, ↓reduceIte]; exact rfl), ?_, ?_, ?_, ?_⟩
        · first | exact trivial | exact ⟨trivial, trivial⟩ | exact ⟨trivial, trivial, trivial⟩ | exact ⟨trivial, trivial, trivial, trivial⟩ | (simp only [allP, and_true, true_and]; done) | (simp only [allP, and_true, true_and]; omega)
        · simp [selOk, pos]
        · simp
        · first | exact ⟨rfl, rfl⟩ | (simp only [go_sem, Nat.reduceBEq, Nat.reduceLT, Nat.reduceAdd, Nat.reduceLeDiff, Nat.reduceSub, Nat.reduceEqDiff, Int.reduceToNat, reduceCtorEq, ↓reduceIte]; done) | (simp [go_sem, Nat.reduceBEq, Nat.reduceLT, Nat.reduceAdd, Nat.reduceLeDiff, Nat.reduceSub, Nat.reduceEqDiff, Int.reduceToNat, reduceCtorEq, ↓reduceIte]; done) | (simp only [go_sem, Nat.reduceBEq, Nat.reduceLT, Nat.reduceAdd, Nat.reduceLeDiff, Nat.reduceSub, Nat.reduceEqDiff, Int.reduceToNat, reduceCtorEq, ↓reduceIte]; exact ⟨rfl, rfl⟩) | (simp_all [go_sem, Nat.reduceBEq, Nat.reduceLT, Nat.reduceAdd, Nat.reduceLeDiff, Nat.reduceSub, Nat.reduceEqDiff, Int.reduceToNat, reduceCtorEq, ↓reduceIte]; done)
theorem k_slices_Clone_impl_Edge_impl_Edge (a0 : List (Int × Int × Int)) {r : (List (Int × Int × Int))} (h : slices_Clone_impl_Edge_impl_Edge a0 = some r) :
    FnA Tryd.prog 63 [.sl 0] [.row false (.trips a0)] [] (fun x H => x = .sl 1 ∧ H = [.row false (.trips a0), .row true (.trips r)]) := by
  unfold slices_Clone_impl_Edge_impl_Edge at h
  refine FnA.of (N := 8) (pin := [0]) (rs := [.tmp 2]) Tryd.func63 rfl en63 rfl rfl (by simp) (by simp; try omega) ?_
  refine awp_reg ftCOk [(0, .sl 0)] [.row false (.trips a0)] ?_
  refine awp_seq fun K2 hK2 => ?_
  have hboth := both_some h
  refine awp_isnil (by rfl) (by rfl) Tryd.underlying23 rfl rfl fun b hb => ?_
  replace h := hboth b hb
  clear hboth
  refine awp_cond (t := 4) rfl (fun hc3 => ?_) (fun hc3 => ?_)
  · replace h := bite_t h hc3
    refine awp_reg ftCOk [(2, .v (.slice none 0 0))] [.row false (.trips a0)] ?_
    refine awp_red (Red.nil (t := 2) (.trips []) rfl rfl) ?_
    refine awp_ret ?_
    (try simp only [Thn, InBlk, ↓reduceIte, Nat.reduceEqDiff])
    obtain rfl := Option.some.inj h
    refine ⟨by simp, _, [0, 1], (by simp only [go_sem, Nat.reduceBEq, Nat.reduceLT, Nat.reduceAdd, Nat.reduceLeDiff, Nat.reduceSub, Nat.reduceEqDiff, Int.reduceToNat, reduceCtorEq, ↓reduceIte]; exact rfl), ?_, ?_, ?_, ?_⟩
    · first | exact trivial | exact ⟨trivial, trivial⟩ | exact ⟨trivial, trivial, trivial⟩ | exact ⟨trivial, trivial, trivial, trivial⟩ | (simp only [allP, and_true, true_and]; done) | (simp only [allP, and_true, true_and]; omega)
    · simp [selOk, pos]
    · simp
    · first | exact ⟨rfl, rfl⟩ | (simp only [go_sem, Nat.reduceBEq, Nat.reduceLT, Nat.reduceAdd, Nat.reduceLeDiff, Nat.reduceSub, Nat.reduceEqDiff, Int.reduceToNat, reduceCtorEq, ↓reduceIte]; done) | (simp [go_sem, Nat.reduceBEq, Nat.reduceLT, Nat.reduceAdd, Nat.reduceLeDiff, Nat.reduceSub, Nat.reduceEqDiff, Int.reduceToNat, reduceCtorEq, ↓reduceIte]; done) | (simp only [go_sem, Nat.reduceBEq, Nat.reduceLT, Nat.reduceAdd, Nat.reduceLeDiff, Nat.reduceSub, Nat.reduceEqDiff, Int.reduceToNat, reduceCtorEq, ↓reduceIte]; exact ⟨rfl, rfl⟩) | (simp_all [go_sem, Nat.reduceBEq, Nat.reduceLT, Nat.reduceAdd, Nat.reduceLeDiff, Nat.reduceSub, Nat.reduceEqDiff, Int.reduceToNat, reduceCtorEq, ↓reduceIte]; done)
  · replace h := bite_f h hc3
    refine awp_skip ?_
    (try simp only [Thn, InBlk, ↓reduceIte, Nat.reduceEqDiff])
    refine hK2 _ _ ?_
    clear hK2
    replace h := chk_some h
    obtain ⟨hp0, h⟩ := h
    refine awp_reg ftCOk [(2, .sl 1)] [.row false (.trips a0), .row true (.trips ([] ++ a0))] ?_
    clear hp0
    refine awp_ret ?_
    (try simp only [Thn, InBlk, ↓reduceIte, Nat.reduceEqDiff])
    obtain rfl := Option.some.inj h
    refine ⟨by simp, _, [0, 1], (by simp only [go_sem, Nat.reduceBEq, Nat.reduceLT, Nat.reduceAdd, Nat.reduceLeDiff, Nat.reduceSub, Nat.reduceEqDiff, Int.reduceToNat, reduceCtorEq, ↓reduceIte]; exact rfl), ?_, ?_, ?_, ?_⟩
    · first | exact trivial | exact ⟨trivial, trivial⟩ | exact ⟨trivial, trivial, trivial⟩ | exact ⟨trivial, trivial, trivial, trivial⟩ | (simp only [allP, and_true, true_and]; done) | (simp only [allP, and_true, true_and]; omega)
    · simp [selOk, pos]
    · simp
    · first | exact ⟨rfl, rfl⟩ | (simp only [go_sem, Nat.reduceBEq, Nat.reduceLT, Nat.reduceAdd, Nat.reduceLeDiff, Nat.reduceSub, Nat.reduceEqDiff, Int.reduceToNat, reduceCtorEq, ↓reduceIte]; done) | (simp [go_sem, Nat.reduceBEq, Nat.reduceLT, Nat.reduceAdd, Nat.reduceLeDiff, Nat.reduceSub, Nat.reduceEqDiff, Int.reduceToNat, reduceCtorEq, ↓reduceIte]; done) | (simp only [go_sem, Nat.reduceBEq, Nat.reduceLT, Nat.reduceAdd, Nat.reduceLeDiff, Nat.reduceSub, Nat.reduceEqDiff, Int.reduceToNat, reduceCtorEq, ↓reduceIte]; exact ⟨rfl, rfl⟩) | (simp_all [go_sem, Nat.reduceBEq, Nat.reduceLT, Nat.reduceAdd, Nat.reduceLeDiff, Nat.reduceSub, Nat.reduceEqDiff, Int.reduceToNat, reduceCtorEq, ↓reduceIte]; done)
theorem k_impl_Graph_copied (a0_0 : Int) (a0_1 : List (Int × Int × Int)) {r : Int × (List (Int × Int × Int))} (h : impl_Graph_copied a0_0 a0_1 = some r) :
    FnA Tryd.prog 43 [.agg [.v (.int .i64 a0_0), .sl 0]] [.row false (.trips a0_1)] [] (fun x H => x = .agg [.v (.int .i64 r.1), .sl 1] ∧ H = [.row false (.trips a0_1), .row true (.trips r.2)]) := by
  unfold impl_Graph_copied at h
  refine FnA.of (N := 9) (pin := [0]) (rs := [.cell 2 25]) Tryd.func43 rfl en43 rfl rfl (by simp) (by simp; try omega) ?_
  refine awp_reg ftCOk [(1, .pp 1 0), (2, .pp 2 0)] [.row false (.trips a0_1), .box [.v (.int .i64 a0_0), .sl 0], .box [.v (.int .i64 0), .v (.slice none 0 0)]] ?_
  refine awp_freeze 1 (by rfl) (by rfl) (by exact rfl) ?_
  replace h := bind_some h
  obtain ⟨y, hr0, h⟩ := h
  try dsimp only at h
  refine awp_to [(2, .pp 2 0)] [.row false (.trips a0_1), .rbox [.v (.int .i64 a0_0), .sl 0], .box [.v (.int .i64 a0_0), .sl 3], .row true (.trips y)] ?_ ?_
  · clear h
    intro K hK
    refine awp_drawT mixed ftCOk (.free 0 (.free 2 (.free 1 (.one 3 (.one 4 (.one 5 (.one 6 .fin))))))) (by kernel_rfl) (by simp) ?_
    simp (maxSteps := 4000000) only [go_sem, Nat.reduceBEq, Nat.reduceLT, Nat.reduceAdd, Nat.reduceLeDiff, Nat.reduceSub, Nat.reduceEqDiff, Int.reduceToNat, reduceCtorEq, ↓reduceIte]
    repeat' (first | refine And.intro ?_ ?_ | intro hg)
    all_goals (try simp (disch := omega) only [wrap_fits])
    all_goals first
      | (refine hK _ _ ?_; exact Red.auto)
      | exact trivial
      | assumption
      | omega
      | exact wrap_fits (by omega) (by omega)
      | (refine OpK_callA (k_slices_Clone_impl_Edge_impl_Edge a0_1 (h := hr0)) [0] [] ?_
         rintro x Hc' ⟨rfl, rfl⟩ hlen
         simp (maxSteps := 4000000) only [go_sem, Nat.reduceBEq, Nat.reduceLT, Nat.reduceAdd, Nat.reduceLeDiff, Nat.reduceSub, Nat.reduceEqDiff, Int.reduceToNat, reduceCtorEq, ↓reduceIte]
         repeat' (first | refine And.intro ?_ ?_ | intro hg)
         all_goals (try simp (disch := omega) only [wrap_fits])
         all_goals first
           | (refine hK _ _ ?_; exact Red.auto)
           | exact trivial
           | assumption
           | omega
           | exact wrap_fits (by omega) (by omega)
           | (simp (maxSteps := 4000000) only [go_sem, Nat.reduceBEq, Nat.reduceLT, Nat.reduceAdd, Nat.reduceLeDiff, Nat.reduceSub, Nat.reduceEqDiff, Int.reduceToNat, reduceCtorEq, ↓reduceIte]
              repeat' (first | refine And.intro ?_ ?_ | intro hg)
              all_goals (try simp (disch := omega) only [wrap_fits])
              all_goals first | (refine hK _ _ ?_; exact Red.auto) | exact trivial | assumption | omega | exact wrap_fits (by omega) (by omega))
           | (simp_all; done)
           | (simp_all; omega))
      | (simp_all; done)
      | (simp_all; omega)
  · clear hr0
    refine awp_ret ?_
    (try simp only [Thn, InBlk, ↓reduceIte, Nat.reduceEqDiff])
    obtain rfl := Option.some.inj h
    refine ⟨by simp, _, [0, 3], (by simp only [go_sem, Nat.reduceBEq, Nat.reduceLT, Nat.reduceAdd, Nat.reduceLeDiff, Nat.reduceSub, Nat.reduceEqDiff, Int.reduceToNat, reduceCtorEq, ↓reduceIte]; exact rfl), ?_, ?_, ?_, ?_⟩
    · first | exact trivial | exact ⟨trivial, trivial⟩ | exact ⟨trivial, trivial, trivial⟩ | exact ⟨trivial, trivial, trivial, trivial⟩ | (simp only [allP, and_true, true_and]; done) | (simp only [allP, and_true, true_and]; omega)
    · simp [selOk, pos]
    · simp
    · first | exact ⟨rfl, rfl⟩ | (simp only [go_sem, Nat.reduceBEq, Nat.reduceLT, Nat.reduceAdd, Nat.reduceLeDiff, Nat.reduceSub, Nat.reduceEqDiff, Int.reduceToNat, reduceCtorEq, ↓reduceIte]; done) | (simp [go_sem, Nat.reduceBEq, Nat.reduceLT, Nat.reduceAdd, Nat.reduceLeDiff, Nat.reduceSub, Nat.reduceEqDiff, Int.reduceToNat, reduceCtorEq, ↓reduceIte]; done) | (simp only [go_sem, Nat.reduceBEq, Nat.reduceLT, Nat.reduceAdd, Nat.reduceLeDiff, Nat.reduceSub, Nat.reduceEqDiff, Int.reduceToNat, reduceCtorEq, ↓reduceIte]; exact ⟨rfl, rfl⟩) | (simp_all [go_sem, Nat.reduceBEq, Nat.reduceLT, Nat.reduceAdd, Nat.reduceLeDiff, Nat.reduceSub, Nat.reduceEqDiff, Int.reduceToNat, reduceCtorEq, ↓reduceIte]; done)
theorem k_slices_SortFunc__impl_compareEnds (a0 : List (Int × Int × Int)) {r : List (Int × Int × Int)} (h : slices_SortFunc__impl_compareEnds a0 = some r) :
    FnA Tryd.prog 44 [.sl 0, .v (.func (.func 45) #[] #[])] [.row true (.trips a0)] [] (fun x H => x = .tup [] ∧ H = [.row true (.trips r)]) := by
  unfold slices_SortFunc__impl_compareEnds at h
  obtain ⟨h1, h⟩ := chk_some h
  simp only [Option.some.injEq] at h
  subst h
  exact sortFunc_trips Go.Proofs.sortL Tryd.isAgg51 Tryd.sizeOf51 endsC endsSWO rfl en44 en45 (fun x y W => cmpEndsP.calls [.agg (encT x).toArray, .agg (encT y).toArray] True _ rfl trivial W) a0 h1
theorem k_impl_TurnGraph (a0_0 : Int) (a0_1 : List (Int × Int × Int)) {r : Int × (List (Int × Int × Int))} (h : impl_TurnGraph a0_0 a0_1 = some r) :
    FnA Tryd.prog 14 [.agg [.v (.int .i64 a0_0), .sl 0]] [.row false (.trips a0_1)] [] (fun x H => x = .agg [.v (.int .i64 r.1), .sl 1] ∧ H = [.row false (.trips a0_1), .row true (.trips r.2)]) := by
  unfold impl_TurnGraph at h
  refine FnA.of (N := 36) (pin := [0]) (rs := [.cell 2 25]) Tryd.func14 rfl en14 rfl rfl (by simp) (by simp; try omega) ?_
  refine awp_reg ftCOk [(1, .pp 1 0), (2, .pp 2 0)] [.row false (.trips a0_1), .box [.v (.int .i64 a0_0), .sl 0], .box [.v (.int .i64 0), .v (.slice none 0 0)]] ?_
  refine awp_freeze 1 (by rfl) (by rfl) (by exact rfl) ?_
  refine awp_seq fun K2 hK2 => ?_
  replace h := bind_some h
  obtain ⟨y, hr0, h⟩ := h
  try dsimp only at h
  refine awp_to [(1, .pp 1 0), (2, .pp 2 0), (8, .v (.bool (!y)))] [.row false (.trips a0_1), .rbox [.v (.int .i64 a0_0), .sl 0], .box [.v (.int .i64 0), .v (.slice none 0 0)]] ?_ ?_
  · clear h
    intro K hK
    refine awp_region ftCOk ?_
    simp (maxSteps := 4000000) only [go_sem, Nat.reduceBEq, Nat.reduceLT, Nat.reduceAdd, Nat.reduceLeDiff, Nat.reduceSub, Nat.reduceEqDiff, Int.reduceToNat, reduceCtorEq, ↓reduceIte]
    repeat' (first | refine And.intro ?_ ?_ | intro hg)
    all_goals (try simp (disch := omega) only [wrap_fits])
    all_goals first
      | (refine hK _ _ ?_; exact Red.auto)
      | exact trivial
      | assumption
      | omega
      | exact wrap_fits (by omega) (by omega)
      | (refine wpA_callA (k_impl_GraphValid a0_0 a0_1 (h := hr0)) [0] [] ?_
         rintro x Hc' ⟨rfl, rfl⟩ hlen
         refine vcOps_sound ftCOk ?_
         simp (maxSteps := 4000000) only [go_sem, Nat.reduceBEq, Nat.reduceLT, Nat.reduceAdd, Nat.reduceLeDiff, Nat.reduceSub, Nat.reduceEqDiff, Int.reduceToNat, reduceCtorEq, ↓reduceIte]
         repeat' (first | refine And.intro ?_ ?_ | intro hg)
         all_goals (try simp (disch := omega) only [wrap_fits])
         all_goals first
           | (refine hK _ _ ?_; exact Red.auto)
           | exact trivial
           | assumption
           | omega
           | exact wrap_fits (by omega) (by omega)
           | (simp_all; done)
           | (simp_all; omega))
      | (simp_all; done)
      | (simp_all; omega)
  · clear hr0
    refine awp_cond (t := 8) rfl (fun hc3 => ?_) (fun hc3 => ?_)
    · replace h := bite_t h hc3
      refine awp_reg ftCOk [(2, .pp 2 0)] [.row false (.trips a0_1), .rbox [.v (.int .i64 a0_0), .sl 0], .box [.v (.int .i64 0), .v (.slice none 0 0)]] ?_
      refine awp_red (Red.nilCell (o := 2) (i := 1) (.trips []) rfl rfl rfl) ?_
      refine awp_ret ?_
      (try simp only [Thn, InBlk, ↓reduceIte, Nat.reduceEqDiff])
      obtain rfl := Option.some.inj h
      refine ⟨by simp, _, [0, 3], (by simp only [go_sem, Nat.reduceBEq, Nat.reduceLT, Nat.reduceAdd, Nat.reduceLeDiff, Nat.reduceSub, Nat.reduceEqDiff, Int.reduceToNat, reduceCtorEq, ↓reduceIte]; exact rfl), ?_, ?_, ?_, ?_⟩
      · first | exact trivial | exact ⟨trivial, trivial⟩ | exact ⟨trivial, trivial, trivial⟩ | exact ⟨trivial, trivial, trivial, trivial⟩ | (simp only [allP, and_true, true_and]; done) | (simp only [allP, and_true, true_and]; omega)
      · simp [selOk, pos]
      · simp
      · first | exact ⟨rfl, rfl⟩ | (simp only [go_sem, Nat.reduceBEq, Nat.reduceLT, Nat.reduceAdd, Nat.reduceLeDiff, Nat.reduceSub, Nat.reduceEqDiff, Int.reduceToNat, reduceCtorEq, ↓reduceIte]; done) | (simp [go_sem, Nat.reduceBEq, Nat.reduceLT, Nat.reduceAdd, Nat.reduceLeDiff, Nat.reduceSub, Nat.reduceEqDiff, Int.reduceToNat, reduceCtorEq, ↓reduceIte]; done) | (simp only [go_sem, Nat.reduceBEq, Nat.reduceLT, Nat.reduceAdd, Nat.reduceLeDiff, Nat.reduceSub, Nat.reduceEqDiff, Int.reduceToNat, reduceCtorEq, ↓reduceIte]; exact ⟨rfl, rfl⟩) | (simp_all [go_sem, Nat.reduceBEq, Nat.reduceLT, Nat.reduceAdd, Nat.reduceLeDiff, Nat.reduceSub, Nat.reduceEqDiff, Int.reduceToNat, reduceCtorEq, ↓reduceIte]; done)
    · replace h := bite_f h hc3
      refine awp_skip ?_
      (try simp only [Thn, InBlk, ↓reduceIte, Nat.reduceEqDiff])
      refine hK2 _ _ ?_
      clear hK2
      replace h := bind_some h
      obtain ⟨⟨y_1, y_2⟩, hr0, h⟩ := h
      try dsimp only at h
      refine awp_to [(2, .pp 2 0), (3, .pp 4 0)] [.row false (.trips a0_1), .rbox [.v (.int .i64 a0_0), .sl 0], .box [.v (.int .i64 0), .v (.slice none 0 0)], .row true (.trips y_2), .box [.v (.int .i64 y_1), .sl 3]] ?_ ?_
      · clear h
        intro K hK
        refine awp_region ftCOk ?_
        simp (maxSteps := 4000000) only [go_sem, Nat.reduceBEq, Nat.reduceLT, Nat.reduceAdd, Nat.reduceLeDiff, Nat.reduceSub, Nat.reduceEqDiff, Int.reduceToNat, reduceCtorEq, ↓reduceIte]
        repeat' (first | refine And.intro ?_ ?_ | intro hg)
        all_goals (try simp (disch := omega) only [wrap_fits])
        all_goals first
          | (refine hK _ _ ?_; exact Red.auto)
          | exact trivial
          | assumption
          | omega
          | exact wrap_fits (by omega) (by omega)
          | (refine wpA_callA (k_impl_Graph_copied a0_0 a0_1 (h := hr0)) [0] [] ?_
             rintro x Hc' ⟨rfl, rfl⟩ hlen
             refine vcOps_sound ftCOk ?_
             simp (maxSteps := 4000000) only [go_sem, Nat.reduceBEq, Nat.reduceLT, Nat.reduceAdd, Nat.reduceLeDiff, Nat.reduceSub, Nat.reduceEqDiff, Int.reduceToNat, reduceCtorEq, ↓reduceIte]
             repeat' (first | refine And.intro ?_ ?_ | intro hg)
             all_goals (try simp (disch := omega) only [wrap_fits])
             all_goals first
               | (refine hK _ _ ?_; exact Red.auto)
               | exact trivial
               | assumption
               | omega
               | exact wrap_fits (by omega) (by omega)
               | (simp_all; done)
               | (simp_all; omega))
          | (simp_all; done)
          | (simp_all; omega)
      · clear hr0
        refine awp_seq fun K17 hK17 => ?_
        refine awp_reg ftCOk [(2, .pp 2 0), (3, .pp 4 0), (13, .sl 3), (14, .v (.int .i64 (y_2.length : Int))), (15, .v (.int .i64 0))] [.row false (.trips a0_1), .rbox [.v (.int .i64 a0_0), .sl 0], .box [.v (.int .i64 0), .v (.slice none 0 0)], .row true (.trips y_2), .box [.v (.int .i64 y_1), .sl 3]] ?_
        refine awp_block ?_
        replace h := bind_some h
        obtain ⟨t3_1s_1, hx, h⟩ := h
        refine awp_loopL hx (fun ((t15, t3_1s) : Int × (List (Int × Int × Int))) => [(2, .pp 1 0), (3, .pp 2 0), (13, .sl 3), (14, .v (.int .i64 (y_2.length : Int))), (15, .v (.int .i64 t15))]) (fun ((t15, t3_1s) : Int × (List (Int × Int × Int))) => [.row false (.trips a0_1), .box [.v (.int .i64 0), .v (.slice none 0 0)], .box [.v (.int .i64 y_1), .sl 3], .row true (.trips t3_1s)]) (fun (t3_1s_1 : List (Int × Int × Int)) => Exit.exit 0) (fun (t3_1s_1 : List (Int × Int × Int)) => [(2, .pp 1 0), (3, .pp 2 0)]) (fun (t3_1s_1 : List (Int × Int × Int)) => [.row false (.trips a0_1), .box [.v (.int .i64 0), .v (.slice none 0 0)], .box [.v (.int .i64 y_1), .sl 3], .row true (.trips t3_1s_1)]) ?_ ?_ ?_ ?_
        · rintro t3_1s_1 hy <;> cases hy
        · clear h hx
          exact Red.selA [0, 2, 4, 3] Red.auto
        · clear h hx
          rintro ⟨t15, t3_1s⟩ r h
          unfold impl_TurnGraph_b0 at h
          try dsimp only at h
          try dsimp only
          refine awp_reg ftCOk [(2, .pp 1 0), (3, .pp 2 0), (13, .sl 3), (14, .v (.int .i64 (y_2.length : Int))), (15, .v (.int .i64 t15)), (16, .v (.bool (decide (t15 < (y_2.length : Int)))))] [.row false (.trips a0_1), .box [.v (.int .i64 0), .v (.slice none 0 0)], .box [.v (.int .i64 y_1), .sl 3], .row true (.trips t3_1s)] ?_
          refine awp_seq fun K27 hK27 => ?_
          refine awp_cond (t := 16) rfl (fun hc28 => ?_) (fun hc28 => ?_)
          · replace h := bite_t h hc28
            refine awp_skip ?_
            (try simp only [Thn, InBlk, ↓reduceIte, Nat.reduceEqDiff])
            refine hK27 _ _ ?_
            clear hK27
            refine awp_seq fun K29 hK29 => ?_
            refine awp_block ?_
            replace h := chk_some h
            obtain ⟨hp0, h⟩ := h
            refine awp_reg ftCOk [(2, .pp 1 0), (3, .pp 2 0), (4, .v (.int .i64 t15)), (5, .pp 4 0), (13, .sl 3), (14, .v (.int .i64 (y_2.length : Int))), (15, .v (.int .i64 t15))] [.row false (.trips a0_1), .box [.v (.int .i64 0), .v (.slice none 0 0)], .box [.v (.int .i64 y_1), .sl 3], .row true (.trips t3_1s), .box [.v (.int .i64 ((t3_1s.getD t15.toNat (0, 0, 0)).1)), .v (.int .i64 ((t3_1s.getD t15.toNat (0, 0, 0)).2.1)), .v (.int .i64 ((t3_1s.getD t15.toNat (0, 0, 0)).2.2))]] ?_
            clear hp0
            replace h := chk_some h
            obtain ⟨hp0, h⟩ := h
            refine awp_regE ftCOk [(2, .pp 1 0), (3, .pp 2 0), (13, .sl 3), (14, .v (.int .i64 (y_2.length : Int))), (15, .v (.int .i64 t15))] [.row false (.trips a0_1), .box [.v (.int .i64 0), .v (.slice none 0 0)], .box [.v (.int .i64 y_1), .sl 3], .row true (.trips (t3_1s.set t15.toNat ((t3_1s.getD t15.toNat (0, 0, 0)).2.1, (t3_1s.getD t15.toNat (0, 0, 0)).1, (t3_1s.getD t15.toNat (0, 0, 0)).2.2))), .box [.v (.int .i64 ((t3_1s.getD t15.toNat (0, 0, 0)).1)), .v (.int .i64 ((t3_1s.getD t15.toNat (0, 0, 0)).2.1)), .v (.int .i64 ((t3_1s.getD t15.toNat (0, 0, 0)).2.2))]] ?_
            clear hp0
            (try simp only [Thn, InBlk, ↓reduceIte, Nat.reduceEqDiff])
            (try simp only [Thn, InBlk, ↓reduceIte, Nat.reduceEqDiff])
            refine hK29 _ _ ?_
            clear hK29
            replace h := chk_some h
            obtain ⟨hp0, h⟩ := h
            refine awp_regE ftCOk [(2, .pp 1 0), (3, .pp 2 0), (13, .sl 3), (14, .v (.int .i64 (y_2.length : Int))), (15, .v (.int .i64 (t15 + 1)))] [.row false (.trips a0_1), .box [.v (.int .i64 0), .v (.slice none 0 0)], .box [.v (.int .i64 y_1), .sl 3], .row true (.trips (t3_1s.set t15.toNat ((t3_1s.getD t15.toNat (0, 0, 0)).2.1, (t3_1s.getD t15.toNat (0, 0, 0)).1, (t3_1s.getD t15.toNat (0, 0, 0)).2.2))), .box [.v (.int .i64 ((t3_1s.getD t15.toNat (0, 0, 0)).1)), .v (.int .i64 ((t3_1s.getD t15.toNat (0, 0, 0)).2.1)), .v (.int .i64 ((t3_1s.getD t15.toNat (0, 0, 0)).2.2))]] ?_
            clear hp0
            obtain rfl := Option.some.inj h
            refine LoopQ.next ?_
            exact Red.selA [0, 1, 2, 3] Red.auto
          · replace h := bite_f h hc28
            refine awp_exit ?_
            (try simp only [Thn, InBlk, ↓reduceIte, Nat.reduceEqDiff])
            obtain rfl := Option.some.inj h
            refine LoopQ.out rfl ?_
            exact Red.auto
        · clear hx
          skip
          · try dsimp only [Sum.elim_inl, Sum.elim_inr] at h
            try dsimp only [Sum.elim_inl, Sum.elim_inr]
            (try simp only [Thn, InBlk, ↓reduceIte, Nat.reduceEqDiff])
            (try simp only [Thn, InBlk, ↓reduceIte, Nat.reduceEqDiff])
            (try simp only [Thn, InBlk, ↓reduceIte, Nat.reduceEqDiff])
            refine hK17 _ _ ?_
            clear hK17
            replace h := bind_some h
            obtain ⟨y_3, hr0, h⟩ := h
            try dsimp only at h
            refine awp_to [(2, .pp 1 0), (3, .pp 2 0)] [.row false (.trips a0_1), .box [.v (.int .i64 0), .v (.slice none 0 0)], .box [.v (.int .i64 y_1), .sl 3], .row true (.trips y_3)] ?_ ?_
            · clear h
              intro K hK
              refine awp_region ftCOk ?_
              simp (maxSteps := 4000000) only [go_sem, Nat.reduceBEq, Nat.reduceLT, Nat.reduceAdd, Nat.reduceLeDiff, Nat.reduceSub, Nat.reduceEqDiff, Int.reduceToNat, reduceCtorEq, ↓reduceIte]
              repeat' (first | refine And.intro ?_ ?_ | intro hg)
              all_goals (try simp (disch := omega) only [wrap_fits])
              all_goals first
                | (refine hK _ _ ?_; exact Red.auto)
                | exact trivial
                | assumption
                | omega
                | exact wrap_fits (by omega) (by omega)
                | (refine wpA_callA (k_slices_SortFunc__impl_compareEnds t3_1s_1 (h := hr0)) [3] [] ?_
                   rintro x Hc' ⟨rfl, rfl⟩ hlen
                   refine vcOps_sound ftCOk ?_
                   simp (maxSteps := 4000000) only [go_sem, Nat.reduceBEq, Nat.reduceLT, Nat.reduceAdd, Nat.reduceLeDiff, Nat.reduceSub, Nat.reduceEqDiff, Int.reduceToNat, reduceCtorEq, ↓reduceIte]
                   repeat' (first | refine And.intro ?_ ?_ | intro hg)
                   all_goals (try simp (disch := omega) only [wrap_fits])
                   all_goals first
                     | (refine hK _ _ ?_; exact Red.auto)
                     | exact trivial
                     | assumption
                     | omega
                     | exact wrap_fits (by omega) (by omega)
                     | (simp_all; done)
                     | (simp_all; omega))
                | (simp_all; done)
                | (simp_all; omega)
            · clear hr0
              refine awp_reg ftCOk [(2, .pp 1 0)] [.row false (.trips a0_1), .box [.v (.int .i64 y_1), .sl 3], .box [.v (.int .i64 y_1), .sl 3], .row true (.trips y_3)] ?_
              refine awp_ret ?_
              (try simp only [Thn, InBlk, ↓reduceIte, Nat.reduceEqDiff])
              obtain rfl := Option.some.inj h
              refine ⟨by simp, _, [0, 3], (by simp only [go_sem, Nat.reduceBEq, Nat.reduceLT, Nat.reduceAdd, Nat.reduceLeDiff, Nat.reduceSub, Nat.reduceEqDiff, Int.reduceToNat, reduceCtorEq, ↓reduceIte]; exact rfl), ?_, ?_, ?_, ?_⟩
              · first | exact trivial | exact ⟨trivial, trivial⟩ | exact ⟨trivial, trivial, trivial⟩ | exact ⟨trivial, trivial, trivial, trivial⟩ | (simp only [allP, and_true, true_and]; done) | (simp only [allP, and_true, true_and]; omega)
              · simp [selOk, pos]
              · simp
              · first | exact ⟨rfl, rfl⟩ | (simp only [go_sem, Nat.reduceBEq, Nat.reduceLT, Nat.reduceAdd, Nat.reduceLeDiff, Nat.reduceSub, Nat.reduceEqDiff, Int.reduceToNat, reduceCtorEq, ↓reduceIte]; done) | (simp [go_sem, Nat.reduceBEq, Nat.reduceLT, Nat.reduceAdd, Nat.reduceLeDiff, Nat.reduceSub, Nat.reduceEqDiff, Int.reduceToNat, reduceCtorEq, ↓reduceIte]; done) | (simp only [go_sem, Nat.reduceBEq, Nat.reduceLT, Nat.reduceAdd, Nat.reduceLeDiff, Nat.reduceSub, Nat.reduceEqDiff, Int.reduceToNat, reduceCtorEq, ↓reduceIte]; exact ⟨rfl, rfl⟩) | (simp_all [go_sem, Nat.reduceBEq, Nat.reduceLT, Nat.reduceAdd, Nat.reduceLeDiff, Nat.reduceSub, Nat.reduceEqDiff, Int.reduceToNat, reduceCtorEq, ↓reduceIte]; done)
theorem k_impl_DegreesOf (a0_0 : Int) (a0_1 : List (Int × Int × Int)) {r : List Int} (h : impl_DegreesOf a0_0 a0_1 = some r) :
    FnA Tryd.prog 34 [.agg [.v (.int .i64 a0_0), .sl 0]] [.row false (.trips a0_1)] [] (fun x H => x = .sl 1 ∧ H = [.row false (.trips a0_1), .row true (.ints .i64 r)]) := by
  unfold impl_DegreesOf at h
  refine FnA.of (N := 27) (pin := [0]) (rs := [.tmp 2]) Tryd.func34 rfl en34 rfl rfl (by simp) (by simp; try omega) ?_
  refine awp_reg ftCOk [(1, .pp 1 0)] [.row false (.trips a0_1), .box [.v (.int .i64 a0_0), .sl 0]] ?_
  refine awp_freeze 1 (by rfl) (by rfl) (by exact rfl) ?_
  refine awp_seq fun K2 hK2 => ?_
  replace h := bind_some h
  obtain ⟨y, hr0, h⟩ := h
  try dsimp only at h
  refine awp_to [(1, .pp 1 0), (8, .v (.bool (!y)))] [.row false (.trips a0_1), .rbox [.v (.int .i64 a0_0), .sl 0]] ?_ ?_
  · clear h
    intro K hK
    refine awp_region ftCOk ?_
    simp (maxSteps := 4000000) only [go_sem, Nat.reduceBEq, Nat.reduceLT, Nat.reduceAdd, Nat.reduceLeDiff, Nat.reduceSub, Nat.reduceEqDiff, Int.reduceToNat, reduceCtorEq, ↓reduceIte]
    repeat' (first | refine And.intro ?_ ?_ | intro hg)
    all_goals (try simp (disch := omega) only [wrap_fits])
    all_goals first
      | (refine hK _ _ ?_; exact Red.auto)
      | exact trivial
      | assumption
      | omega
      | exact wrap_fits (by omega) (by omega)
      | (refine wpA_callA (k_impl_GraphValid a0_0 a0_1 (h := hr0)) [0] [] ?_
         rintro x Hc' ⟨rfl, rfl⟩ hlen
         refine vcOps_sound ftCOk ?_
         simp (maxSteps := 4000000) only [go_sem, Nat.reduceBEq, Nat.reduceLT, Nat.reduceAdd, Nat.reduceLeDiff, Nat.reduceSub, Nat.reduceEqDiff, Int.reduceToNat, reduceCtorEq, ↓reduceIte]
         repeat' (first | refine And.intro ?_ ?_ | intro hg)
         all_goals (try simp (disch := omega) only [wrap_fits])
         all_goals first
           | (refine hK _ _ ?_; exact Red.auto)
           | exact trivial
           | assumption
           | omega
           | exact wrap_fits (by omega) (by omega)
           | (simp_all; done)
           | (simp_all; omega))
      | (simp_all; done)
      | (simp_all; omega)
  · clear hr0
    refine awp_cond (t := 8) rfl (fun hc3 => ?_) (fun hc3 => ?_)
    · replace h := bite_t h hc3
      refine awp_reg ftCOk [(2, .v (.slice none 0 0))] [.row false (.trips a0_1), .rbox [.v (.int .i64 a0_0), .sl 0]] ?_
      refine awp_red (Red.nil (t := 2) (.ints .i64 []) rfl rfl) ?_
      refine awp_ret ?_
      (try simp only [Thn, InBlk, ↓reduceIte, Nat.reduceEqDiff])
      obtain rfl := Option.some.inj h
      refine ⟨by simp, _, [0, 2], (by simp only [go_sem, Nat.reduceBEq, Nat.reduceLT, Nat.reduceAdd, Nat.reduceLeDiff, Nat.reduceSub, Nat.reduceEqDiff, Int.reduceToNat, reduceCtorEq, ↓reduceIte]; exact rfl), ?_, ?_, ?_, ?_⟩
      · first | exact trivial | exact ⟨trivial, trivial⟩ | exact ⟨trivial, trivial, trivial⟩ | exact ⟨trivial, trivial, trivial, trivial⟩ | (simp only [allP, and_true, true_and]; done) | (simp only [allP, and_true, true_and]; omega)
      · simp [selOk, pos]
      · simp
      · first | exact ⟨rfl, rfl⟩ | (simp only [go_sem, Nat.reduceBEq, Nat.reduceLT, Nat.reduceAdd, Nat.reduceLeDiff, Nat.reduceSub, Nat.reduceEqDiff, Int.reduceToNat, reduceCtorEq, ↓reduceIte]; done) | (simp [go_sem, Nat.reduceBEq, Nat.reduceLT, Nat.reduceAdd, Nat.reduceLeDiff, Nat.reduceSub, Nat.reduceEqDiff, Int.reduceToNat, reduceCtorEq, ↓reduceIte]; done) | (simp only [go_sem, Nat.reduceBEq, Nat.reduceLT, Nat.reduceAdd, Nat.reduceLeDiff, Nat.reduceSub, Nat.reduceEqDiff, Int.reduceToNat, reduceCtorEq, ↓reduceIte]; exact ⟨rfl, rfl⟩) | (simp_all [go_sem, Nat.reduceBEq, Nat.reduceLT, Nat.reduceAdd, Nat.reduceLeDiff, Nat.reduceSub, Nat.reduceEqDiff, Int.reduceToNat, reduceCtorEq, ↓reduceIte]; done)
    · replace h := bite_f h hc3
      refine awp_skip ?_
      (try simp only [Thn, InBlk, ↓reduceIte, Nat.reduceEqDiff])
      refine hK2 _ _ ?_
      clear hK2
      replace h := chk_some h
      obtain ⟨hp0, h⟩ := h
      refine awp_reg ftCOk [(1, .pp 1 0), (3, .sl 2)] [.row false (.trips a0_1), .rbox [.v (.int .i64 a0_0), .sl 0], .row true (.ints .i64 (List.replicate a0_0.toNat 0))] ?_
      clear hp0
      refine awp_seq fun K17 hK17 => ?_
      replace h := bind_some h
      obtain ⟨y_1, hr0, h⟩ := h
      try dsimp only at h
      refine awp_to [(3, .sl 2), (13, .sl 3), (14, .v (.int .i64 (y_1.length : Int))), (15, .v (.int .i64 0))] [.row false (.trips a0_1), .rbox [.v (.int .i64 a0_0), .sl 0], .row true (.ints .i64 (List.replicate a0_0.toNat 0)), .row true (.ints .u32 y_1)] ?_ ?_
      · clear h
        intro K hK
        refine awp_region ftCOk ?_
        simp (maxSteps := 4000000) only [go_sem, Nat.reduceBEq, Nat.reduceLT, Nat.reduceAdd, Nat.reduceLeDiff, Nat.reduceSub, Nat.reduceEqDiff, Int.reduceToNat, reduceCtorEq, ↓reduceIte]
        repeat' (first | refine And.intro ?_ ?_ | intro hg)
        all_goals (try simp (disch := omega) only [wrap_fits])
        all_goals first
          | (refine hK _ _ ?_; exact Red.auto)
          | exact trivial
          | assumption
          | omega
          | exact wrap_fits (by omega) (by omega)
          | (refine wpA_callA (k_impl_nearMasks a0_0 a0_1 (h := hr0)) [0] [] ?_
             rintro x Hc' ⟨rfl, rfl⟩ hlen
             refine vcOps_sound ftCOk ?_
             simp (maxSteps := 4000000) only [go_sem, Nat.reduceBEq, Nat.reduceLT, Nat.reduceAdd, Nat.reduceLeDiff, Nat.reduceSub, Nat.reduceEqDiff, Int.reduceToNat, reduceCtorEq, ↓reduceIte]
             repeat' (first | refine And.intro ?_ ?_ | intro hg)
             all_goals (try simp (disch := omega) only [wrap_fits])
             all_goals first
               | (refine hK _ _ ?_; exact Red.auto)
               | exact trivial
               | assumption
               | omega
               | exact wrap_fits (by omega) (by omega)
               | (simp_all; done)
               | (simp_all; omega))
          | (simp_all; done)
          | (simp_all; omega)
      · clear hr0
        refine awp_block ?_
        replace h := bind_some h
        obtain ⟨t3s_1, hx, h⟩ := h
        refine awp_loopL hx (fun ((t15, t3s) : Int × List Int) => [(3, .sl 1), (13, .sl 2), (14, .v (.int .i64 (y_1.length : Int))), (15, .v (.int .i64 t15))]) (fun ((t15, t3s) : Int × List Int) => [.row false (.trips a0_1), .row true (.ints .i64 t3s), .row true (.ints .u32 y_1)]) (fun (t3s_1 : List Int) => Exit.exit 0) (fun (t3s_1 : List Int) => [(3, .sl 1)]) (fun (t3s_1 : List Int) => [.row false (.trips a0_1), .row true (.ints .i64 t3s_1)]) ?_ ?_ ?_ ?_
        · rintro t3s_1 hy <;> cases hy
        · clear h hx
          exact Red.selA [0, 2, 3] Red.auto
        · clear h hx
          rintro ⟨t15, t3s⟩ r h
          unfold impl_DegreesOf_b0 at h
          try dsimp only at h
          try dsimp only
          refine awp_reg ftCOk [(3, .sl 1), (13, .sl 2), (14, .v (.int .i64 (y_1.length : Int))), (15, .v (.int .i64 t15)), (16, .v (.bool (decide (t15 < (y_1.length : Int)))))] [.row false (.trips a0_1), .row true (.ints .i64 t3s), .row true (.ints .u32 y_1)] ?_
          refine awp_seq fun K27 hK27 => ?_
          refine awp_cond (t := 16) rfl (fun hc28 => ?_) (fun hc28 => ?_)
          · replace h := bite_t h hc28
            refine awp_skip ?_
            (try simp only [Thn, InBlk, ↓reduceIte, Nat.reduceEqDiff])
            refine hK27 _ _ ?_
            clear hK27
            refine awp_seq fun K29 hK29 => ?_
            refine awp_block ?_
            replace h := chk_some h
            obtain ⟨hp0, h⟩ := h
            refine awp_reg ftCOk [(3, .sl 1), (4, .v (.int .i64 t15)), (5, .v (.int .u32 (y_1.getD t15.toNat 0))), (13, .sl 2), (14, .v (.int .i64 (y_1.length : Int))), (15, .v (.int .i64 t15))] [.row false (.trips a0_1), .row true (.ints .i64 t3s), .row true (.ints .u32 y_1)] ?_
            clear hp0
            replace h := bind_some h
            obtain ⟨y_2, hr0, h⟩ := h
            try dsimp only at h
            replace h := chk_some h
            obtain ⟨hp1, h⟩ := h
            refine awp_end [(3, .sl 1), (13, .sl 2), (14, .v (.int .i64 (y_1.length : Int))), (15, .v (.int .i64 t15))] [.row false (.trips a0_1), .row true (.ints .i64 (t3s.set t15.toNat y_2)), .row true (.ints .u32 y_1)] ?_ ?_
            · clear h
              intro K hK
              refine awp_region ftCOk ?_
              simp (maxSteps := 4000000) only [go_sem, Nat.reduceBEq, Nat.reduceLT, Nat.reduceAdd, Nat.reduceLeDiff, Nat.reduceSub, Nat.reduceEqDiff, Int.reduceToNat, reduceCtorEq, ↓reduceIte]
              repeat' (first | refine And.intro ?_ ?_ | intro hg)
              all_goals (try simp (disch := omega) only [wrap_fits])
              all_goals first
                | (refine hK _ _ ?_; exact Red.auto)
                | exact trivial
                | assumption
                | omega
                | exact wrap_fits (by omega) (by omega)
                | (refine wpA_callA (k_impl_vertexMask_size (y_1.getD t15.toNat 0) (h := hr0)) [] [] ?_
                   rintro x Hc' ⟨rfl, rfl⟩ hlen
                   refine vcOps_sound ftCOk ?_
                   simp (maxSteps := 4000000) only [go_sem, Nat.reduceBEq, Nat.reduceLT, Nat.reduceAdd, Nat.reduceLeDiff, Nat.reduceSub, Nat.reduceEqDiff, Int.reduceToNat, reduceCtorEq, ↓reduceIte]
                   repeat' (first | refine And.intro ?_ ?_ | intro hg)
                   all_goals (try simp (disch := omega) only [wrap_fits])
                   all_goals first
                     | (refine hK _ _ ?_; exact Red.auto)
                     | exact trivial
                     | assumption
                     | omega
                     | exact wrap_fits (by omega) (by omega)
                     | (simp_all; done)
                     | (simp_all; omega))
                | (simp_all; done)
                | (simp_all; omega)
            · clear hr0 hp1
              (try simp only [Thn, InBlk, ↓reduceIte, Nat.reduceEqDiff])
              (try simp only [Thn, InBlk, ↓reduceIte, Nat.reduceEqDiff])
              refine hK29 _ _ ?_
              clear hK29
              replace h := chk_some h
              obtain ⟨hp0, h⟩ := h
              refine awp_regE ftCOk [(3, .sl 1), (13, .sl 2), (14, .v (.int .i64 (y_1.length : Int))), (15, .v (.int .i64 (t15 + 1)))] [.row false (.trips a0_1), .row true (.ints .i64 (t3s.set t15.toNat y_2)), .row true (.ints .u32 y_1)] ?_
              clear hp0
              obtain rfl := Option.some.inj h
              refine LoopQ.next ?_
              exact Red.auto
          · replace h := bite_f h hc28
            refine awp_exit ?_
            (try simp only [Thn, InBlk, ↓reduceIte, Nat.reduceEqDiff])
            obtain rfl := Option.some.inj h
            refine LoopQ.out rfl ?_
            exact Red.selA [0, 1] Red.auto
        · clear hx
          skip
          · try dsimp only [Sum.elim_inl, Sum.elim_inr] at h
            try dsimp only [Sum.elim_inl, Sum.elim_inr]
            (try simp only [Thn, InBlk, ↓reduceIte, Nat.reduceEqDiff])
            (try simp only [Thn, InBlk, ↓reduceIte, Nat.reduceEqDiff])
            (try simp only [Thn, InBlk, ↓reduceIte, Nat.reduceEqDiff])
            refine hK17 _ _ ?_
            clear hK17
            refine awp_reg ftCOk [(2, .sl 1)] [.row false (.trips a0_1), .row true (.ints .i64 t3s_1)] ?_
            refine awp_ret ?_
            (try simp only [Thn, InBlk, ↓reduceIte, Nat.reduceEqDiff])
            obtain rfl := Option.some.inj h
            refine ⟨by simp, _, [0, 1], (by simp only [go_sem, Nat.reduceBEq, Nat.reduceLT, Nat.reduceAdd, Nat.reduceLeDiff, Nat.reduceSub, Nat.reduceEqDiff, Int.reduceToNat, reduceCtorEq, ↓reduceIte]; exact rfl), ?_, ?_, ?_, ?_⟩
            · first | exact trivial | exact ⟨trivial, trivial⟩ | exact ⟨trivial, trivial, trivial⟩ | exact ⟨trivial, trivial, trivial, trivial⟩ | (simp only [allP, and_true, true_and]; done) | (simp only [allP, and_true, true_and]; omega)
            · simp [selOk, pos]
            · simp
            · first | exact ⟨rfl, rfl⟩ | (simp only [go_sem, Nat.reduceBEq, Nat.reduceLT, Nat.reduceAdd, Nat.reduceLeDiff, Nat.reduceSub, Nat.reduceEqDiff, Int.reduceToNat, reduceCtorEq, ↓reduceIte]; done) | (simp [go_sem, Nat.reduceBEq, Nat.reduceLT, Nat.reduceAdd, Nat.reduceLeDiff, Nat.reduceSub, Nat.reduceEqDiff, Int.reduceToNat, reduceCtorEq, ↓reduceIte]; done) | (simp only [go_sem, Nat.reduceBEq, Nat.reduceLT, Nat.reduceAdd, Nat.reduceLeDiff, Nat.reduceSub, Nat.reduceEqDiff, Int.reduceToNat, reduceCtorEq, ↓reduceIte]; exact ⟨rfl, rfl⟩) | (simp_all [go_sem, Nat.reduceBEq, Nat.reduceLT, Nat.reduceAdd, Nat.reduceLeDiff, Nat.reduceSub, Nat.reduceEqDiff, Int.reduceToNat, reduceCtorEq, ↓reduceIte]; done)
theorem k_impl_unknowns (a0 : Int) {r : List Int} (h : impl_unknowns a0 = some r) :
    FnA Tryd.prog 54 [.v (.int .i64 a0)] [] [] (fun x H => x = .sl 0 ∧ H = [.row true (.ints .i64 r)]) := by
  unfold impl_unknowns at h
  refine FnA.of (N := 17) (pin := []) (rs := [.tmp 2]) Tryd.func54 rfl en54 rfl rfl (by simp) (by simp; try omega) ?_
  refine awp_reg ftCOk [(0, .v (.int .i64 a0))] [] ?_
  replace h := chk_some h
  obtain ⟨hp0, h⟩ := h
  refine awp_reg ftCOk [(3, .sl 0)] [.row true (.ints .i64 (List.replicate a0.toNat 0))] ?_
  clear hp0
  refine awp_seq fun K14 hK14 => ?_
  refine awp_reg ftCOk [(3, .sl 0), (8, .v (.int .i64 ((List.replicate a0.toNat 0).length : Int))), (9, .v (.int .i64 0))] [.row true (.ints .i64 (List.replicate a0.toNat 0))] ?_
  refine awp_block ?_
  replace h := bind_some h
  obtain ⟨t3s_1, hx, h⟩ := h
  refine awp_loopL hx (fun ((t9, t3s) : Int × List Int) => [(3, .sl 0), (8, .v (.int .i64 ((List.replicate a0.toNat 0).length : Int))), (9, .v (.int .i64 t9))]) (fun ((t9, t3s) : Int × List Int) => [.row true (.ints .i64 t3s)]) (fun (t3s_1 : List Int) => Exit.exit 0) (fun (t3s_1 : List Int) => [(3, .sl 0)]) (fun (t3s_1 : List Int) => [.row true (.ints .i64 t3s_1)]) ?_ ?_ ?_ ?_
  · rintro t3s_1 hy <;> cases hy
  · clear h hx
    exact Red.auto
  · clear h hx
    rintro ⟨t9, t3s⟩ r h
    unfold impl_unknowns_b0 at h
    try dsimp only at h
    try dsimp only
    refine awp_reg ftCOk [(3, .sl 0), (8, .v (.int .i64 ((List.replicate a0.toNat 0).length : Int))), (9, .v (.int .i64 t9)), (10, .v (.bool (decide (t9 < ((List.replicate a0.toNat 0).length : Int)))))] [.row true (.ints .i64 t3s)] ?_
    refine awp_seq fun K24 hK24 => ?_
    refine awp_cond (t := 10) rfl (fun hc25 => ?_) (fun hc25 => ?_)
    · replace h := bite_t h hc25
      refine awp_skip ?_
      (try simp only [Thn, InBlk, ↓reduceIte, Nat.reduceEqDiff])
      refine hK24 _ _ ?_
      clear hK24
      refine awp_seq fun K26 hK26 => ?_
      refine awp_block ?_
      refine awp_reg ftCOk [(3, .sl 0), (4, .v (.int .i64 t9)), (8, .v (.int .i64 ((List.replicate a0.toNat 0).length : Int))), (9, .v (.int .i64 t9))] [.row true (.ints .i64 t3s)] ?_
      replace h := chk_some h
      obtain ⟨hp0, h⟩ := h
      refine awp_regE ftCOk [(3, .sl 0), (8, .v (.int .i64 ((List.replicate a0.toNat 0).length : Int))), (9, .v (.int .i64 t9))] [.row true (.ints .i64 (t3s.set t9.toNat (-1)))] ?_
      clear hp0
      (try simp only [Thn, InBlk, ↓reduceIte, Nat.reduceEqDiff])
      (try simp only [Thn, InBlk, ↓reduceIte, Nat.reduceEqDiff])
      refine hK26 _ _ ?_
      clear hK26
      replace h := chk_some h
      obtain ⟨hp0, h⟩ := h
      refine awp_regE ftCOk [(3, .sl 0), (8, .v (.int .i64 ((List.replicate a0.toNat 0).length : Int))), (9, .v (.int .i64 (t9 + 1)))] [.row true (.ints .i64 (t3s.set t9.toNat (-1)))] ?_
      clear hp0
      obtain rfl := Option.some.inj h
      refine LoopQ.next ?_
      exact Red.auto
    · replace h := bite_f h hc25
      refine awp_exit ?_
      (try simp only [Thn, InBlk, ↓reduceIte, Nat.reduceEqDiff])
      obtain rfl := Option.some.inj h
      refine LoopQ.out rfl ?_
      exact Red.auto
  · clear hx
    skip
    · try dsimp only [Sum.elim_inl, Sum.elim_inr] at h
      try dsimp only [Sum.elim_inl, Sum.elim_inr]
      (try simp only [Thn, InBlk, ↓reduceIte, Nat.reduceEqDiff])
      (try simp only [Thn, InBlk, ↓reduceIte, Nat.reduceEqDiff])
      (try simp only [Thn, InBlk, ↓reduceIte, Nat.reduceEqDiff])
      refine hK14 _ _ ?_
      clear hK14
      refine awp_reg ftCOk [(2, .sl 0)] [.row true (.ints .i64 t3s_1)] ?_
      refine awp_ret ?_
      (try simp only [Thn, InBlk, ↓reduceIte, Nat.reduceEqDiff])
      obtain rfl := Option.some.inj h
      refine ⟨by simp, _, [0], (by simp only [go_sem, Nat.reduceBEq, Nat.reduceLT, Nat.reduceAdd, Nat.reduceLeDiff, Nat.reduceSub, Nat.reduceEqDiff, Int.reduceToNat, reduceCtorEq, ↓reduceIte]; exact rfl), ?_, ?_, ?_, ?_⟩
      · first | exact trivial | exact ⟨trivial, trivial⟩ | exact ⟨trivial, trivial, trivial⟩ | exact ⟨trivial, trivial, trivial, trivial⟩ | (simp only [allP, and_true, true_and]; done) | (simp only [allP, and_true, true_and]; omega)
      · simp [selOk, pos]
      · simp
      · first | exact ⟨rfl, rfl⟩ | (simp only [go_sem, Nat.reduceBEq, Nat.reduceLT, Nat.reduceAdd, Nat.reduceLeDiff, Nat.reduceSub, Nat.reduceEqDiff, Int.reduceToNat, reduceCtorEq, ↓reduceIte]; done) | (simp [go_sem, Nat.reduceBEq, Nat.reduceLT, Nat.reduceAdd, Nat.reduceLeDiff, Nat.reduceSub, Nat.reduceEqDiff, Int.reduceToNat, reduceCtorEq, ↓reduceIte]; done) | (simp only [go_sem, Nat.reduceBEq, Nat.reduceLT, Nat.reduceAdd, Nat.reduceLeDiff, Nat.reduceSub, Nat.reduceEqDiff, Int.reduceToNat, reduceCtorEq, ↓reduceIte]; exact ⟨rfl, rfl⟩) | (simp_all [go_sem, Nat.reduceBEq, Nat.reduceLT, Nat.reduceAdd, Nat.reduceLeDiff, Nat.reduceSub, Nat.reduceEqDiff, Int.reduceToNat, reduceCtorEq, ↓reduceIte]; done)
theorem k_impl_stepsOver (a0 : List Int) (a1 : Int) {r : List Int} (h : impl_stepsOver a0 a1 = some r) :
    FnA Tryd.prog 48 [.sl 0, .v (.int .i64 a1)] [.row false (.ints .u32 a0), .glob 0 (.ints .u8 tab0)] [] (fun x H => x = .sl 2 ∧ H = [.row false (.ints .u32 a0), .glob 0 (.ints .u8 tab0), .row true (.ints .i64 r)]) := by
  unfold impl_stepsOver at h
  refine FnA.of (N := 55) (pin := [0, 1]) (rs := [.tmp 4]) Tryd.func48 rfl en48 rfl rfl (by simp) (by simp; try omega) ?_
  refine awp_reg ftCOk [(0, .sl 0), (1, .v (.int .i64 a1))] [.row false (.ints .u32 a0), .glob 0 (.ints .u8 tab0)] ?_
  replace h := bind_some h
  obtain ⟨y, hr0, h⟩ := h
  try dsimp only at h
  refine awp_to [(0, .sl 0), (1, .v (.int .i64 a1)), (5, .sl 2)] [.row false (.ints .u32 a0), .glob 0 (.ints .u8 tab0), .row true (.ints .i64 y)] ?_ ?_
  · clear h
    intro K hK
    refine awp_region ftCOk ?_
    simp (maxSteps := 4000000) only [go_sem, Nat.reduceBEq, Nat.reduceLT, Nat.reduceAdd, Nat.reduceLeDiff, Nat.reduceSub, Nat.reduceEqDiff, Int.reduceToNat, reduceCtorEq, ↓reduceIte]
    repeat' (first | refine And.intro ?_ ?_ | intro hg)
    all_goals (try simp (disch := omega) only [wrap_fits])
    all_goals first
      | (refine hK _ _ ?_; exact Red.auto)
      | exact trivial
      | assumption
      | omega
      | exact wrap_fits (by omega) (by omega)
      | (refine wpA_callA (k_impl_unknowns (a0.length : Int) (h := hr0)) [] [] ?_
         rintro x Hc' ⟨rfl, rfl⟩ hlen
         refine vcOps_sound ftCOk ?_
         simp (maxSteps := 4000000) only [go_sem, Nat.reduceBEq, Nat.reduceLT, Nat.reduceAdd, Nat.reduceLeDiff, Nat.reduceSub, Nat.reduceEqDiff, Int.reduceToNat, reduceCtorEq, ↓reduceIte]
         repeat' (first | refine And.intro ?_ ?_ | intro hg)
         all_goals (try simp (disch := omega) only [wrap_fits])
         all_goals first
           | (refine hK _ _ ?_; exact Red.auto)
           | exact trivial
           | assumption
           | omega
           | exact wrap_fits (by omega) (by omega)
           | (simp_all; done)
           | (simp_all; omega))
      | (simp_all; done)
      | (simp_all; omega)
  · clear hr0
    replace h := chk_some h
    obtain ⟨hp0, h⟩ := h
    refine awp_reg ftCOk [(0, .sl 0), (1, .v (.int .i64 a1)), (5, .sl 2)] [.row false (.ints .u32 a0), .glob 0 (.ints .u8 tab0), .row true (.ints .i64 (y.set a1.toNat 0))] ?_
    clear hp0
    refine awp_reg ftCOk [(0, .sl 0), (5, .sl 2), (6, .sl 3)] [.row false (.ints .u32 a0), .glob 0 (.ints .u8 tab0), .row true (.ints .i64 (y.set a1.toNat 0)), .row true (.ints .i64 [a1])] ?_
    refine awp_seq fun K59 hK59 => ?_
    refine awp_block ?_
    replace h := bind_some h
    obtain ⟨t5s_1, hx, h⟩ := h
    refine awp_loopL hx (fun ((t5s, t6s) : List Int × List Int) => [(0, .sl 0), (5, .sl 2), (6, .sl 3)]) (fun ((t5s, t6s) : List Int × List Int) => [.row false (.ints .u32 a0), .glob 0 (.ints .u8 tab0), .row true (.ints .i64 t5s), .row true (.ints .i64 t6s)]) (fun (t5s_1 : List Int) => Exit.exit 0) (fun (t5s_1 : List Int) => [(5, .sl 2)]) (fun (t5s_1 : List Int) => [.row false (.ints .u32 a0), .glob 0 (.ints .u8 tab0), .row true (.ints .i64 t5s_1)]) ?_ ?_ ?_ ?_
    · rintro t5s_1 hy <;> cases hy
    · clear h hx
      exact Red.auto
    · clear h hx
      rintro ⟨t5s, t6s⟩ r h
      unfold impl_stepsOver_b1 at h
      try dsimp only at h
      try dsimp only
      refine awp_seq fun K99 hK99 => ?_
      refine awp_reg ftCOk [(0, .sl 0), (5, .sl 2), (6, .sl 3), (20, .v (.bool (decide (0 < (t6s.length : Int)))))] [.row false (.ints .u32 a0), .glob 0 (.ints .u8 tab0), .row true (.ints .i64 t5s), .row true (.ints .i64 t6s)] ?_
      refine awp_cond (t := 20) rfl (fun hc100 => ?_) (fun hc100 => ?_)
      · replace h := bite_t h hc100
        refine awp_skip ?_
        (try simp only [Thn, InBlk, ↓reduceIte, Nat.reduceEqDiff])
        refine hK99 _ _ ?_
        clear hK99
        refine awp_block ?_
        replace h := chk_some h
        obtain ⟨hp0, h⟩ := h
        refine awp_reg ftCOk [(0, .sl 0), (5, .sl 2), (6, .sl 3), (7, .v (.int .i64 (t6s.getD 0 0)))] [.row false (.ints .u32 a0), .glob 0 (.ints .u8 tab0), .row true (.ints .i64 t5s), .row true (.ints .i64 t6s)] ?_
        clear hp0
        replace h := chk_some h
        obtain ⟨hp0, h⟩ := h
        refine awp_reg ftCOk [(0, .sl 0), (5, .sl 2), (6, .sl 4), (7, .v (.int .i64 (t6s.getD 0 0)))] [.row false (.ints .u32 a0), .glob 0 (.ints .u8 tab0), .row true (.ints .i64 t5s), .row true (.ints .i64 t6s), .view 3 (.ints .i64 ((t6s.take t6s.length).drop 1))] ?_
        clear hp0
        refine awp_promote 3 4 (by rfl) (by rfl) (by exact rfl) ?_
        replace h := chk_some h
        obtain ⟨hp0, h⟩ := h
        replace h := bind_some h
        obtain ⟨y_1, hr1, h⟩ := h
        try dsimp only at h
        refine awp_to [(0, .sl 0), (5, .sl 2), (6, .sl 4), (7, .v (.int .i64 (t6s.getD 0 0))), (30, .sl 5), (31, .v (.int .i64 (y_1.length : Int))), (32, .v (.int .i64 0))] [.row false (.ints .u32 a0), .glob 0 (.ints .u8 tab0), .row true (.ints .i64 t5s), .dead, .row true (.ints .i64 ((t6s.take t6s.length).drop 1)), .row true (.ints .i64 y_1)] ?_ ?_
        · clear h
          intro K hK
          refine awp_region ftCOk ?_
          simp (maxSteps := 4000000) only [go_sem, Nat.reduceBEq, Nat.reduceLT, Nat.reduceAdd, Nat.reduceLeDiff, Nat.reduceSub, Nat.reduceEqDiff, Int.reduceToNat, reduceCtorEq, ↓reduceIte]
          repeat' (first | refine And.intro ?_ ?_ | intro hg)
          all_goals (try simp (disch := omega) only [wrap_fits])
          all_goals first
            | (refine hK _ _ ?_; exact Red.auto)
            | exact trivial
            | assumption
            | omega
            | exact wrap_fits (by omega) (by omega)
            | (refine wpA_callA (k_impl_vertexMask_list (a0.getD ((t6s.getD 0 0).toNat) 0) (h := hr1)) [1] [] ?_
               rintro x Hc' ⟨rfl, rfl⟩ hlen
               refine vcOps_sound ftCOk ?_
               simp (maxSteps := 4000000) only [go_sem, Nat.reduceBEq, Nat.reduceLT, Nat.reduceAdd, Nat.reduceLeDiff, Nat.reduceSub, Nat.reduceEqDiff, Int.reduceToNat, reduceCtorEq, ↓reduceIte]
               repeat' (first | refine And.intro ?_ ?_ | intro hg)
               all_goals (try simp (disch := omega) only [wrap_fits])
               all_goals first
                 | (refine hK _ _ ?_; exact Red.auto)
                 | exact trivial
                 | assumption
                 | omega
                 | exact wrap_fits (by omega) (by omega)
                 | (simp_all; done)
                 | (simp_all; omega))
            | (simp_all; done)
            | (simp_all; omega)
        · clear hp0 hr1
          refine awp_block ?_
          replace h := bind_some h
          obtain ⟨x116, hx, h⟩ := h
          refine awp_loopL hx (fun ((t32, t5s_2, t6s_1) : Int × List Int × List Int) => [(0, .sl 0), (5, .sl 2), (6, .sl 3), (7, .v (.int .i64 (t6s.getD 0 0))), (30, .sl 4), (31, .v (.int .i64 (y_1.length : Int))), (32, .v (.int .i64 t32))]) (fun ((t32, t5s_2, t6s_1) : Int × List Int × List Int) => [.row false (.ints .u32 a0), .glob 0 (.ints .u8 tab0), .row true (.ints .i64 t5s_2), .row true (.ints .i64 t6s_1), .row true (.ints .i64 y_1)]) (fun ((t5s_3, t6s_2) : List Int × List Int) => Exit.exit 2) (fun ((t5s_3, t6s_2) : List Int × List Int) => [(0, .sl 0), (5, .sl 2), (6, .sl 3)]) (fun ((t5s_3, t6s_2) : List Int × List Int) => [.row false (.ints .u32 a0), .glob 0 (.ints .u8 tab0), .row true (.ints .i64 t5s_3), .row true (.ints .i64 t6s_2)]) ?_ ?_ ?_ ?_
          · rintro ⟨t5s_3, t6s_2⟩ hy <;> cases hy
          · clear h hx
            exact Red.selA [0, 1, 2, 4, 5] Red.auto
          · clear h hx
            rintro ⟨t32, t5s_2, t6s_1⟩ r h
            unfold impl_stepsOver_b0 at h
            try dsimp only at h
            try dsimp only
            refine awp_reg ftCOk [(0, .sl 0), (5, .sl 2), (6, .sl 3), (7, .v (.int .i64 (t6s.getD 0 0))), (30, .sl 4), (31, .v (.int .i64 (y_1.length : Int))), (32, .v (.int .i64 t32)), (33, .v (.bool (decide (t32 < (y_1.length : Int)))))] [.row false (.ints .u32 a0), .glob 0 (.ints .u8 tab0), .row true (.ints .i64 t5s_2), .row true (.ints .i64 t6s_1), .row true (.ints .i64 y_1)] ?_
            refine awp_seq fun K112 hK112 => ?_
            refine awp_cond (t := 33) rfl (fun hc113 => ?_) (fun hc113 => ?_)
            · replace h := bite_t h hc113
              refine awp_skip ?_
              (try simp only [Thn, InBlk, ↓reduceIte, Nat.reduceEqDiff])
              refine hK112 _ _ ?_
              clear hK112
              refine awp_join h (fun ((t5s_4, t6s_3) : List Int × List Int) => [(0, .sl 0), (5, .sl 2), (6, .sl 3), (7, .v (.int .i64 (t6s.getD 0 0))), (30, .sl 4), (31, .v (.int .i64 (y_1.length : Int))), (32, .v (.int .i64 t32))]) (fun ((t5s_4, t6s_3) : List Int × List Int) => [.row false (.ints .u32 a0), .glob 0 (.ints .u8 tab0), .row true (.ints .i64 t5s_4), .row true (.ints .i64 t6s_3), .row true (.ints .i64 y_1)]) ?_ ?_
              · clear h
                intro k h
                try dsimp only at h
                refine awp_block ?_
                replace h := chk_some h
                obtain ⟨hp0, h⟩ := h
                refine awp_reg ftCOk [(0, .sl 0), (5, .sl 2), (6, .sl 3), (7, .v (.int .i64 (t6s.getD 0 0))), (9, .v (.int .i64 (y_1.getD t32.toNat 0))), (30, .sl 4), (31, .v (.int .i64 (y_1.length : Int))), (32, .v (.int .i64 t32))] [.row false (.ints .u32 a0), .glob 0 (.ints .u8 tab0), .row true (.ints .i64 t5s_2), .row true (.ints .i64 t6s_1), .row true (.ints .i64 y_1)] ?_
                clear hp0
                replace h := chk_some h
                obtain ⟨hp0, h⟩ := h
                refine awp_reg ftCOk [(0, .sl 0), (5, .sl 2), (6, .sl 3), (7, .v (.int .i64 (t6s.getD 0 0))), (9, .v (.int .i64 (y_1.getD t32.toNat 0))), (30, .sl 4), (31, .v (.int .i64 (y_1.length : Int))), (32, .v (.int .i64 t32)), (40, .v (.bool ((t5s_2.getD ((y_1.getD t32.toNat 0).toNat) 0) == (-1))))] [.row false (.ints .u32 a0), .glob 0 (.ints .u8 tab0), .row true (.ints .i64 t5s_2), .row true (.ints .i64 t6s_1), .row true (.ints .i64 y_1)] ?_
                clear hp0
                refine awp_cond (t := 40) rfl (fun hc115 => ?_) (fun hc115 => ?_)
                · replace h := bite_t h hc115
                  replace h := chk_some h
                  obtain ⟨hp0, h⟩ := h
                  replace h := chk_some h
                  obtain ⟨hp1, h⟩ := h
                  replace h := chk_some h
                  obtain ⟨hp2, h⟩ := h
                  refine awp_reg ftCOk [(0, .sl 0), (5, .sl 2), (6, .sl 3), (7, .v (.int .i64 (t6s.getD 0 0))), (9, .v (.int .i64 (y_1.getD t32.toNat 0))), (30, .sl 4), (31, .v (.int .i64 (y_1.length : Int))), (32, .v (.int .i64 t32))] [.row false (.ints .u32 a0), .glob 0 (.ints .u8 tab0), .row true (.ints .i64 (t5s_2.set ((y_1.getD t32.toNat 0).toNat) ((t5s_2.getD ((t6s.getD 0 0).toNat) 0) + 1))), .row true (.ints .i64 t6s_1), .row true (.ints .i64 y_1)] ?_
                  clear hp0 hp1 hp2
                  replace h := chk_some h
                  obtain ⟨hp0, h⟩ := h
                  refine awp_regE ftCOk [(0, .sl 0), (5, .sl 2), (6, .sl 3), (7, .v (.int .i64 (t6s.getD 0 0))), (30, .sl 4), (31, .v (.int .i64 (y_1.length : Int))), (32, .v (.int .i64 t32))] [.row false (.ints .u32 a0), .glob 0 (.ints .u8 tab0), .row true (.ints .i64 (t5s_2.set ((y_1.getD t32.toNat 0).toNat) ((t5s_2.getD ((t6s.getD 0 0).toNat) 0) + 1))), .row true (.ints .i64 (t6s_1 ++ [(y_1.getD t32.toNat 0)])), .row true (.ints .i64 y_1), .row true (.ints .i64 [(y_1.getD t32.toNat 0)])] ?_
                  clear hp0
                  (try simp only [Thn, InBlk, ↓reduceIte, Nat.reduceEqDiff])
                  (try simp only [Thn, InBlk, ↓reduceIte, Nat.reduceEqDiff])
                  refine ⟨_, h, ?_⟩
                  exact Red.selA [0, 1, 2, 3, 4] Red.auto
                · replace h := bite_f h hc115
                  refine awp_skip ?_
                  (try simp only [Thn, InBlk, ↓reduceIte, Nat.reduceEqDiff])
                  (try simp only [Thn, InBlk, ↓reduceIte, Nat.reduceEqDiff])
                  refine ⟨_, h, ?_⟩
                  exact Red.auto
              · clear h
                rintro ⟨t5s_4, t6s_3⟩ h
                try dsimp only at h
                try dsimp only
                replace h := chk_some h
                obtain ⟨hp0, h⟩ := h
                refine awp_regE ftCOk [(0, .sl 0), (5, .sl 2), (6, .sl 3), (7, .v (.int .i64 (t6s.getD 0 0))), (30, .sl 4), (31, .v (.int .i64 (y_1.length : Int))), (32, .v (.int .i64 (t32 + 1)))] [.row false (.ints .u32 a0), .glob 0 (.ints .u8 tab0), .row true (.ints .i64 t5s_4), .row true (.ints .i64 t6s_3), .row true (.ints .i64 y_1)] ?_
                clear hp0
                obtain rfl := Option.some.inj h
                refine LoopQ.next ?_
                exact Red.auto
            · replace h := bite_f h hc113
              refine awp_exit ?_
              (try simp only [Thn, InBlk, ↓reduceIte, Nat.reduceEqDiff])
              obtain rfl := Option.some.inj h
              refine LoopQ.out rfl ?_
              exact Red.selA [0, 1, 2, 3] Red.auto
          · clear hx
            rcases x116 with ⟨t5s_3, t6s_2⟩
            · try dsimp only [Sum.elim_inl, Sum.elim_inr] at h
              try dsimp only [Sum.elim_inl, Sum.elim_inr]
              (try simp only [Thn, InBlk, ↓reduceIte, Nat.reduceEqDiff])
              (try simp only [Thn, InBlk, ↓reduceIte, Nat.reduceEqDiff])
              (try simp only [Thn, InBlk, ↓reduceIte, Nat.reduceEqDiff])
              obtain rfl := Option.some.inj h
              refine LoopQ.next ?_
              exact Red.auto
      · replace h := bite_f h hc100
        refine awp_exit ?_
        (try simp only [Thn, InBlk, ↓reduceIte, Nat.reduceEqDiff])
        obtain rfl := Option.some.inj h
        refine LoopQ.out rfl ?_
        exact Red.selA [0, 1, 2] Red.auto
    · clear hx
      skip
      · try dsimp only [Sum.elim_inl, Sum.elim_inr] at h
        try dsimp only [Sum.elim_inl, Sum.elim_inr]
        (try simp only [Thn, InBlk, ↓reduceIte, Nat.reduceEqDiff])
        (try simp only [Thn, InBlk, ↓reduceIte, Nat.reduceEqDiff])
        (try simp only [Thn, InBlk, ↓reduceIte, Nat.reduceEqDiff])
        refine hK59 _ _ ?_
        clear hK59
        refine awp_reg ftCOk [(4, .sl 2)] [.row false (.ints .u32 a0), .glob 0 (.ints .u8 tab0), .row true (.ints .i64 t5s_1)] ?_
        refine awp_ret ?_
        (try simp only [Thn, InBlk, ↓reduceIte, Nat.reduceEqDiff])
        obtain rfl := Option.some.inj h
        refine ⟨by simp, _, [0, 1, 2], (by simp only [go_sem, Nat.reduceBEq, Nat.reduceLT, Nat.reduceAdd, Nat.reduceLeDiff, Nat.reduceSub, Nat.reduceEqDiff, Int.reduceToNat, reduceCtorEq, ↓reduceIte]; exact rfl), ?_, ?_, ?_, ?_⟩
        · first | exact trivial | exact ⟨trivial, trivial⟩ | exact ⟨trivial, trivial, trivial⟩ | exact ⟨trivial, trivial, trivial, trivial⟩ | (simp only [allP, and_true, true_and]; done) | (simp only [allP, and_true, true_and]; omega)
        · simp [selOk, pos]
        · simp
        · first | exact ⟨rfl, rfl⟩ | (simp only [go_sem, Nat.reduceBEq, Nat.reduceLT, Nat.reduceAdd, Nat.reduceLeDiff, Nat.reduceSub, Nat.reduceEqDiff, Int.reduceToNat, reduceCtorEq, ↓reduceIte]; done) | (simp [go_sem, Nat.reduceBEq, Nat.reduceLT, Nat.reduceAdd, Nat.reduceLeDiff, Nat.reduceSub, Nat.reduceEqDiff, Int.reduceToNat, reduceCtorEq, ↓reduceIte]; done) | (simp only [go_sem, Nat.reduceBEq, Nat.reduceLT, Nat.reduceAdd, Nat.reduceLeDiff, Nat.reduceSub, Nat.reduceEqDiff, Int.reduceToNat, reduceCtorEq, ↓reduceIte]; exact ⟨rfl, rfl⟩) | (simp_all [go_sem, Nat.reduceBEq, Nat.reduceLT, Nat.reduceAdd, Nat.reduceLeDiff, Nat.reduceSub, Nat.reduceEqDiff, Int.reduceToNat, reduceCtorEq, ↓reduceIte]; done)
theorem k_impl_LeastInPart (a0_0 : Int) (a0_1 : List (Int × Int × Int)) {r : List Int} (h : impl_LeastInPart a0_0 a0_1 = some r) :
    FnA Tryd.prog 35 [.agg [.v (.int .i64 a0_0), .sl 0]] [.row false (.trips a0_1), .glob 0 (.ints .u8 tab0)] [] (fun x H => x = .sl 2 ∧ H = [.row false (.trips a0_1), .glob 0 (.ints .u8 tab0), .row true (.ints .i64 r)]) := by
  unfold impl_LeastInPart at h
  refine FnA.of (N := 44) (pin := [0, 1]) (rs := [.tmp 2]) Tryd.func35 rfl en35 rfl rfl (by simp) (by simp; try omega) ?_
  refine awp_reg ftCOk [(1, .pp 2 0)] [.row false (.trips a0_1), .glob 0 (.ints .u8 tab0), .box [.v (.int .i64 a0_0), .sl 0]] ?_
  refine awp_freeze 1 (by rfl) (by rfl) (by exact rfl) ?_
  refine awp_seq fun K2 hK2 => ?_
  replace h := bind_some h
  obtain ⟨y, hr0, h⟩ := h
  try dsimp only at h
  refine awp_to [(1, .pp 2 0), (10, .v (.bool (!y)))] [.row false (.trips a0_1), .glob 0 (.ints .u8 tab0), .rbox [.v (.int .i64 a0_0), .sl 0]] ?_ ?_
  · clear h
    intro K hK
    refine awp_region ftCOk ?_
    simp (maxSteps := 4000000) only [go_sem, Nat.reduceBEq, Nat.reduceLT, Nat.reduceAdd, Nat.reduceLeDiff, Nat.reduceSub, Nat.reduceEqDiff, Int.reduceToNat, reduceCtorEq, ↓reduceIte]
    repeat' (first | refine And.intro ?_ ?_ | intro hg)
    all_goals (try simp (disch := omega) only [wrap_fits])
    all_goals first
      | (refine hK _ _ ?_; exact Red.auto)
      | exact trivial
      | assumption
      | omega
      | exact wrap_fits (by omega) (by omega)
      | (refine wpA_callA (k_impl_GraphValid a0_0 a0_1 (h := hr0)) [0] [] ?_
         rintro x Hc' ⟨rfl, rfl⟩ hlen
         refine vcOps_sound ftCOk ?_
         simp (maxSteps := 4000000) only [go_sem, Nat.reduceBEq, Nat.reduceLT, Nat.reduceAdd, Nat.reduceLeDiff, Nat.reduceSub, Nat.reduceEqDiff, Int.reduceToNat, reduceCtorEq, ↓reduceIte]
         repeat' (first | refine And.intro ?_ ?_ | intro hg)
         all_goals (try simp (disch := omega) only [wrap_fits])
         all_goals first
           | (refine hK _ _ ?_; exact Red.auto)
           | exact trivial
           | assumption
           | omega
           | exact wrap_fits (by omega) (by omega)
           | (simp_all; done)
           | (simp_all; omega))
      | (simp_all; done)
      | (simp_all; omega)
  · clear hr0
    refine awp_cond (t := 10) rfl (fun hc3 => ?_) (fun hc3 => ?_)
    · replace h := bite_t h hc3
      refine awp_reg ftCOk [(2, .v (.slice none 0 0))] [.row false (.trips a0_1), .glob 0 (.ints .u8 tab0), .rbox [.v (.int .i64 a0_0), .sl 0]] ?_
      refine awp_red (Red.nil (t := 2) (.ints .i64 []) rfl rfl) ?_
      refine awp_ret ?_
      (try simp only [Thn, InBlk, ↓reduceIte, Nat.reduceEqDiff])
      obtain rfl := Option.some.inj h
      refine ⟨by simp, _, [0, 1, 3], (by simp only [go_sem, Nat.reduceBEq, Nat.reduceLT, Nat.reduceAdd, Nat.reduceLeDiff, Nat.reduceSub, Nat.reduceEqDiff, Int.reduceToNat, reduceCtorEq, ↓reduceIte]; exact rfl), ?_, ?_, ?_, ?_⟩
      · first | exact trivial | exact ⟨trivial, trivial⟩ | exact ⟨trivial, trivial, trivial⟩ | exact ⟨trivial, trivial, trivial, trivial⟩ | (simp only [allP, and_true, true_and]; done) | (simp only [allP, and_true, true_and]; omega)
      · simp [selOk, pos]
      · simp
      · first | exact ⟨rfl, rfl⟩ | (simp only [go_sem, Nat.reduceBEq, Nat.reduceLT, Nat.reduceAdd, Nat.reduceLeDiff, Nat.reduceSub, Nat.reduceEqDiff, Int.reduceToNat, reduceCtorEq, ↓reduceIte]; done) | (simp [go_sem, Nat.reduceBEq, Nat.reduceLT, Nat.reduceAdd, Nat.reduceLeDiff, Nat.reduceSub, Nat.reduceEqDiff, Int.reduceToNat, reduceCtorEq, ↓reduceIte]; done) | (simp only [go_sem, Nat.reduceBEq, Nat.reduceLT, Nat.reduceAdd, Nat.reduceLeDiff, Nat.reduceSub, Nat.reduceEqDiff, Int.reduceToNat, reduceCtorEq, ↓reduceIte]; exact ⟨rfl, rfl⟩) | (simp_all [go_sem, Nat.reduceBEq, Nat.reduceLT, Nat.reduceAdd, Nat.reduceLeDiff, Nat.reduceSub, Nat.reduceEqDiff, Int.reduceToNat, reduceCtorEq, ↓reduceIte]; done)
    · replace h := bite_f h hc3
      refine awp_skip ?_
      (try simp only [Thn, InBlk, ↓reduceIte, Nat.reduceEqDiff])
      refine hK2 _ _ ?_
      clear hK2
      replace h := bind_some h
      obtain ⟨y_1, hr0, h⟩ := h
      try dsimp only at h
      refine awp_to [(1, .pp 2 0), (3, .sl 3)] [.row false (.trips a0_1), .glob 0 (.ints .u8 tab0), .rbox [.v (.int .i64 a0_0), .sl 0], .row true (.ints .u32 y_1)] ?_ ?_
      · clear h
        intro K hK
        refine awp_region ftCOk ?_
        simp (maxSteps := 4000000) only [go_sem, Nat.reduceBEq, Nat.reduceLT, Nat.reduceAdd, Nat.reduceLeDiff, Nat.reduceSub, Nat.reduceEqDiff, Int.reduceToNat, reduceCtorEq, ↓reduceIte]
        repeat' (first | refine And.intro ?_ ?_ | intro hg)
        all_goals (try simp (disch := omega) only [wrap_fits])
        all_goals first
          | (refine hK _ _ ?_; exact Red.auto)
          | exact trivial
          | assumption
          | omega
          | exact wrap_fits (by omega) (by omega)
          | (refine wpA_callA (k_impl_nearMasks a0_0 a0_1 (h := hr0)) [0] [] ?_
             rintro x Hc' ⟨rfl, rfl⟩ hlen
             refine vcOps_sound ftCOk ?_
             simp (maxSteps := 4000000) only [go_sem, Nat.reduceBEq, Nat.reduceLT, Nat.reduceAdd, Nat.reduceLeDiff, Nat.reduceSub, Nat.reduceEqDiff, Int.reduceToNat, reduceCtorEq, ↓reduceIte]
             repeat' (first | refine And.intro ?_ ?_ | intro hg)
             all_goals (try simp (disch := omega) only [wrap_fits])
             all_goals first
               | (refine hK _ _ ?_; exact Red.auto)
               | exact trivial
               | assumption
               | omega
               | exact wrap_fits (by omega) (by omega)
               | (simp_all; done)
               | (simp_all; omega))
          | (simp_all; done)
          | (simp_all; omega)
      · clear hr0
        replace h := bind_some h
        obtain ⟨y_2, hr0, h⟩ := h
        try dsimp only at h
        refine awp_to [(3, .sl 3), (4, .sl 4)] [.row false (.trips a0_1), .glob 0 (.ints .u8 tab0), .rbox [.v (.int .i64 a0_0), .sl 0], .row true (.ints .u32 y_1), .row true (.ints .i64 y_2)] ?_ ?_
        · clear h
          intro K hK
          refine awp_region ftCOk ?_
          simp (maxSteps := 4000000) only [go_sem, Nat.reduceBEq, Nat.reduceLT, Nat.reduceAdd, Nat.reduceLeDiff, Nat.reduceSub, Nat.reduceEqDiff, Int.reduceToNat, reduceCtorEq, ↓reduceIte]
          repeat' (first | refine And.intro ?_ ?_ | intro hg)
          all_goals (try simp (disch := omega) only [wrap_fits])
          all_goals first
            | (refine hK _ _ ?_; exact Red.auto)
            | exact trivial
            | assumption
            | omega
            | exact wrap_fits (by omega) (by omega)
            | (refine wpA_callA (k_impl_unknowns a0_0 (h := hr0)) [] [] ?_
               rintro x Hc' ⟨rfl, rfl⟩ hlen
               refine vcOps_sound ftCOk ?_
               simp (maxSteps := 4000000) only [go_sem, Nat.reduceBEq, Nat.reduceLT, Nat.reduceAdd, Nat.reduceLeDiff, Nat.reduceSub, Nat.reduceEqDiff, Int.reduceToNat, reduceCtorEq, ↓reduceIte]
               repeat' (first | refine And.intro ?_ ?_ | intro hg)
               all_goals (try simp (disch := omega) only [wrap_fits])
               all_goals first
                 | (refine hK _ _ ?_; exact Red.auto)
                 | exact trivial
                 | assumption
                 | omega
                 | exact wrap_fits (by omega) (by omega)
                 | (simp_all; done)
                 | (simp_all; omega))
            | (simp_all; done)
            | (simp_all; omega)
        · clear hr0
          refine awp_seq fun K128 hK128 => ?_
          refine awp_reg ftCOk [(3, .sl 3), (4, .sl 4), (17, .v (.int .i64 (y_2.length : Int))), (18, .v (.int .i64 0))] [.row false (.trips a0_1), .glob 0 (.ints .u8 tab0), .rbox [.v (.int .i64 a0_0), .sl 0], .row true (.ints .u32 y_1), .row true (.ints .i64 y_2)] ?_
          refine awp_block ?_
          replace h := bind_some h
          obtain ⟨t4s_1, hx, h⟩ := h
          refine awp_loopL hx (fun ((t18, t4s) : Int × List Int) => [(3, .sl 2), (4, .sl 3), (17, .v (.int .i64 (y_2.length : Int))), (18, .v (.int .i64 t18))]) (fun ((t18, t4s) : Int × List Int) => [.row false (.trips a0_1), .glob 0 (.ints .u8 tab0), .row true (.ints .u32 y_1), .row true (.ints .i64 t4s)]) (fun (t4s_1 : List Int) => Exit.exit 0) (fun (t4s_1 : List Int) => [(4, .sl 2)]) (fun (t4s_1 : List Int) => [.row false (.trips a0_1), .glob 0 (.ints .u8 tab0), .row true (.ints .i64 t4s_1)]) ?_ ?_ ?_ ?_
          · rintro t4s_1 hy <;> cases hy
          · clear h hx
            exact Red.selA [0, 1, 3, 4] Red.auto
          · clear h hx
            rintro ⟨t18, t4s⟩ r h
            unfold impl_LeastInPart_b1 at h
            try dsimp only at h
            try dsimp only
            refine awp_reg ftCOk [(3, .sl 2), (4, .sl 3), (17, .v (.int .i64 (y_2.length : Int))), (18, .v (.int .i64 t18)), (19, .v (.bool (decide (t18 < (y_2.length : Int)))))] [.row false (.trips a0_1), .glob 0 (.ints .u8 tab0), .row true (.ints .u32 y_1), .row true (.ints .i64 t4s)] ?_
            refine awp_seq fun K212 hK212 => ?_
            refine awp_cond (t := 19) rfl (fun hc213 => ?_) (fun hc213 => ?_)
            · replace h := bite_t h hc213
              refine awp_skip ?_
              (try simp only [Thn, InBlk, ↓reduceIte, Nat.reduceEqDiff])
              refine hK212 _ _ ?_
              clear hK212
              refine awp_join h (fun (t4s_2 : List Int) => [(3, .sl 2), (4, .sl 3), (17, .v (.int .i64 (y_2.length : Int))), (18, .v (.int .i64 t18))]) (fun (t4s_2 : List Int) => [.row false (.trips a0_1), .glob 0 (.ints .u8 tab0), .row true (.ints .u32 y_1), .row true (.ints .i64 t4s_2)]) ?_ ?_
              · clear h
                intro k h
                try dsimp only at h
                refine awp_block ?_
                refine awp_reg ftCOk [(3, .sl 2), (4, .sl 3), (5, .v (.int .i64 t18)), (17, .v (.int .i64 (y_2.length : Int))), (18, .v (.int .i64 t18))] [.row false (.trips a0_1), .glob 0 (.ints .u8 tab0), .row true (.ints .u32 y_1), .row true (.ints .i64 t4s)] ?_
                refine awp_seq fun K234 hK234 => ?_
                replace h := chk_some h
                obtain ⟨hp0, h⟩ := h
                refine awp_reg ftCOk [(3, .sl 2), (4, .sl 3), (5, .v (.int .i64 t18)), (17, .v (.int .i64 (y_2.length : Int))), (18, .v (.int .i64 t18)), (25, .v (.bool ((t4s.getD t18.toNat 0) != (-1))))] [.row false (.trips a0_1), .glob 0 (.ints .u8 tab0), .row true (.ints .u32 y_1), .row true (.ints .i64 t4s)] ?_
                clear hp0
                refine awp_cond (t := 25) rfl (fun hc235 => ?_) (fun hc235 => ?_)
                · replace h := bite_t h hc235
                  refine awp_exit ?_
                  (try simp only [Thn, InBlk, ↓reduceIte, Nat.reduceEqDiff])
                  (try simp only [Thn, InBlk, ↓reduceIte, Nat.reduceEqDiff])
                  (try simp only [Thn, InBlk, ↓reduceIte, Nat.reduceEqDiff])
                  refine ⟨_, h, ?_⟩
                  exact Red.auto
                · replace h := bite_f h hc235
                  refine awp_skip ?_
                  (try simp only [Thn, InBlk, ↓reduceIte, Nat.reduceEqDiff])
                  refine hK234 _ _ ?_
                  clear hK234
                  replace h := bind_some h
                  obtain ⟨y_3, hr0, h⟩ := h
                  try dsimp only at h
                  refine awp_to [(3, .sl 2), (4, .sl 3), (5, .v (.int .i64 t18)), (17, .v (.int .i64 (y_2.length : Int))), (18, .v (.int .i64 t18)), (28, .sl 4), (29, .v (.int .i64 (y_3.length : Int))), (30, .v (.int .i64 0))] [.row false (.trips a0_1), .glob 0 (.ints .u8 tab0), .row true (.ints .u32 y_1), .row true (.ints .i64 t4s), .row true (.ints .i64 y_3)] ?_ ?_
                  · clear h
                    intro K hK
                    refine awp_region ftCOk ?_
                    simp (maxSteps := 4000000) only [go_sem, Nat.reduceBEq, Nat.reduceLT, Nat.reduceAdd, Nat.reduceLeDiff, Nat.reduceSub, Nat.reduceEqDiff, Int.reduceToNat, reduceCtorEq, ↓reduceIte]
                    repeat' (first | refine And.intro ?_ ?_ | intro hg)
                    all_goals (try simp (disch := omega) only [wrap_fits])
                    all_goals first
                      | (refine hK _ _ ?_; exact Red.auto)
                      | exact trivial
                      | assumption
                      | omega
                      | exact wrap_fits (by omega) (by omega)
                      | (refine wpA_callA (k_impl_stepsOver y_1 t18 (h := hr0)) [2, 1] [] ?_
                         rintro x Hc' ⟨rfl, rfl⟩ hlen
                         refine vcOps_sound ftCOk ?_
                         simp (maxSteps := 4000000) only [go_sem, Nat.reduceBEq, Nat.reduceLT, Nat.reduceAdd, Nat.reduceLeDiff, Nat.reduceSub, Nat.reduceEqDiff, Int.reduceToNat, reduceCtorEq, ↓reduceIte]
                         repeat' (first | refine And.intro ?_ ?_ | intro hg)
                         all_goals (try simp (disch := omega) only [wrap_fits])
                         all_goals first
                           | (refine hK _ _ ?_; exact Red.auto)
                           | exact trivial
                           | assumption
                           | omega
                           | exact wrap_fits (by omega) (by omega)
                           | (simp_all; done)
                           | (simp_all; omega))
                      | (simp_all; done)
                      | (simp_all; omega)
                  · clear hr0
                    refine awp_block ?_
                    replace h := bind_some h
                    obtain ⟨t4s_4, hx, h⟩ := h
                    refine awp_loopL hx (fun ((t30, t4s_3) : Int × List Int) => [(3, .sl 2), (4, .sl 3), (5, .v (.int .i64 t18)), (17, .v (.int .i64 (y_2.length : Int))), (18, .v (.int .i64 t18)), (28, .sl 4), (29, .v (.int .i64 (y_3.length : Int))), (30, .v (.int .i64 t30))]) (fun ((t30, t4s_3) : Int × List Int) => [.row false (.trips a0_1), .glob 0 (.ints .u8 tab0), .row true (.ints .u32 y_1), .row true (.ints .i64 t4s_3), .row true (.ints .i64 y_3)]) (fun (t4s_4 : List Int) => Exit.exit 2) (fun (t4s_4 : List Int) => [(3, .sl 2), (4, .sl 3), (17, .v (.int .i64 (y_2.length : Int))), (18, .v (.int .i64 t18))]) (fun (t4s_4 : List Int) => [.row false (.trips a0_1), .glob 0 (.ints .u8 tab0), .row true (.ints .u32 y_1), .row true (.ints .i64 t4s_4)]) ?_ ?_ ?_ ?_
                    · rintro t4s_4 hy <;> cases hy
                    · clear h hx
                      exact Red.auto
                    · clear h hx
                      rintro ⟨t30, t4s_3⟩ r h
                      unfold impl_LeastInPart_b0 at h
                      try dsimp only at h
                      try dsimp only
                      refine awp_reg ftCOk [(3, .sl 2), (4, .sl 3), (5, .v (.int .i64 t18)), (17, .v (.int .i64 (y_2.length : Int))), (18, .v (.int .i64 t18)), (28, .sl 4), (29, .v (.int .i64 (y_3.length : Int))), (30, .v (.int .i64 t30)), (31, .v (.bool (decide (t30 < (y_3.length : Int)))))] [.row false (.trips a0_1), .glob 0 (.ints .u8 tab0), .row true (.ints .u32 y_1), .row true (.ints .i64 t4s_3), .row true (.ints .i64 y_3)] ?_
                      refine awp_seq fun K247 hK247 => ?_
                      refine awp_cond (t := 31) rfl (fun hc248 => ?_) (fun hc248 => ?_)
                      · replace h := bite_t h hc248
                        refine awp_skip ?_
                        (try simp only [Thn, InBlk, ↓reduceIte, Nat.reduceEqDiff])
                        refine hK247 _ _ ?_
                        clear hK247
                        refine awp_join h (fun (t4s_5 : List Int) => [(3, .sl 2), (4, .sl 3), (5, .v (.int .i64 t18)), (17, .v (.int .i64 (y_2.length : Int))), (18, .v (.int .i64 t18)), (28, .sl 4), (29, .v (.int .i64 (y_3.length : Int))), (30, .v (.int .i64 t30))]) (fun (t4s_5 : List Int) => [.row false (.trips a0_1), .glob 0 (.ints .u8 tab0), .row true (.ints .u32 y_1), .row true (.ints .i64 t4s_5), .row true (.ints .i64 y_3)]) ?_ ?_
                        · clear h
                          intro k_1 h
                          try dsimp only at h
                          refine awp_block ?_
                          replace h := chk_some h
                          obtain ⟨hp0, h⟩ := h
                          refine awp_reg ftCOk [(3, .sl 2), (4, .sl 3), (5, .v (.int .i64 t18)), (6, .v (.int .i64 t30)), (7, .v (.int .i64 (y_3.getD t30.toNat 0))), (17, .v (.int .i64 (y_2.length : Int))), (18, .v (.int .i64 t18)), (28, .sl 4), (29, .v (.int .i64 (y_3.length : Int))), (30, .v (.int .i64 t30))] [.row false (.trips a0_1), .glob 0 (.ints .u8 tab0), .row true (.ints .u32 y_1), .row true (.ints .i64 t4s_3), .row true (.ints .i64 y_3)] ?_
                          clear hp0
                          refine awp_reg ftCOk [(3, .sl 2), (4, .sl 3), (5, .v (.int .i64 t18)), (6, .v (.int .i64 t30)), (17, .v (.int .i64 (y_2.length : Int))), (18, .v (.int .i64 t18)), (28, .sl 4), (29, .v (.int .i64 (y_3.length : Int))), (30, .v (.int .i64 t30)), (36, .v (.bool ((y_3.getD t30.toNat 0) != (-1))))] [.row false (.trips a0_1), .glob 0 (.ints .u8 tab0), .row true (.ints .u32 y_1), .row true (.ints .i64 t4s_3), .row true (.ints .i64 y_3)] ?_
                          refine awp_cond (t := 36) rfl (fun hc250 => ?_) (fun hc250 => ?_)
                          · replace h := bite_t h hc250
                            replace h := chk_some h
                            obtain ⟨hp0, h⟩ := h
                            refine awp_regE ftCOk [(3, .sl 2), (4, .sl 3), (5, .v (.int .i64 t18)), (17, .v (.int .i64 (y_2.length : Int))), (18, .v (.int .i64 t18)), (28, .sl 4), (29, .v (.int .i64 (y_3.length : Int))), (30, .v (.int .i64 t30))] [.row false (.trips a0_1), .glob 0 (.ints .u8 tab0), .row true (.ints .u32 y_1), .row true (.ints .i64 (t4s_3.set t30.toNat t18)), .row true (.ints .i64 y_3)] ?_
                            clear hp0
                            (try simp only [Thn, InBlk, ↓reduceIte, Nat.reduceEqDiff])
                            (try simp only [Thn, InBlk, ↓reduceIte, Nat.reduceEqDiff])
                            refine ⟨_, h, ?_⟩
                            exact Red.auto
                          · replace h := bite_f h hc250
                            refine awp_skip ?_
                            (try simp only [Thn, InBlk, ↓reduceIte, Nat.reduceEqDiff])
                            (try simp only [Thn, InBlk, ↓reduceIte, Nat.reduceEqDiff])
                            refine ⟨_, h, ?_⟩
                            exact Red.auto
                        · clear h
                          rintro t4s_5 h
                          try dsimp only at h
                          try dsimp only
                          replace h := chk_some h
                          obtain ⟨hp0, h⟩ := h
                          refine awp_regE ftCOk [(3, .sl 2), (4, .sl 3), (5, .v (.int .i64 t18)), (17, .v (.int .i64 (y_2.length : Int))), (18, .v (.int .i64 t18)), (28, .sl 4), (29, .v (.int .i64 (y_3.length : Int))), (30, .v (.int .i64 (t30 + 1)))] [.row false (.trips a0_1), .glob 0 (.ints .u8 tab0), .row true (.ints .u32 y_1), .row true (.ints .i64 t4s_5), .row true (.ints .i64 y_3)] ?_
                          clear hp0
                          obtain rfl := Option.some.inj h
                          refine LoopQ.next ?_
                          exact Red.auto
                      · replace h := bite_f h hc248
                        refine awp_exit ?_
                        (try simp only [Thn, InBlk, ↓reduceIte, Nat.reduceEqDiff])
                        obtain rfl := Option.some.inj h
                        refine LoopQ.out rfl ?_
                        exact Red.selA [0, 1, 2, 3] Red.auto
                    · clear hx
                      skip
                      · try dsimp only [Sum.elim_inl, Sum.elim_inr] at h
                        try dsimp only [Sum.elim_inl, Sum.elim_inr]
                        (try simp only [Thn, InBlk, ↓reduceIte, Nat.reduceEqDiff])
                        (try simp only [Thn, InBlk, ↓reduceIte, Nat.reduceEqDiff])
                        (try simp only [Thn, InBlk, ↓reduceIte, Nat.reduceEqDiff])
                        (try simp only [Thn, InBlk, ↓reduceIte, Nat.reduceEqDiff])
                        refine ⟨_, h, ?_⟩
                        exact Red.auto
              · clear h
                rintro t4s_2 h
                try dsimp only at h
                try dsimp only
                replace h := chk_some h
                obtain ⟨hp0, h⟩ := h
                refine awp_regE ftCOk [(3, .sl 2), (4, .sl 3), (17, .v (.int .i64 (y_2.length : Int))), (18, .v (.int .i64 (t18 + 1)))] [.row false (.trips a0_1), .glob 0 (.ints .u8 tab0), .row true (.ints .u32 y_1), .row true (.ints .i64 t4s_2)] ?_
                clear hp0
                obtain rfl := Option.some.inj h
                refine LoopQ.next ?_
                exact Red.auto
            · replace h := bite_f h hc213
              refine awp_exit ?_
              (try simp only [Thn, InBlk, ↓reduceIte, Nat.reduceEqDiff])
              obtain rfl := Option.some.inj h
              refine LoopQ.out rfl ?_
              exact Red.selA [0, 1, 3] Red.auto
          · clear hx
            skip
            · try dsimp only [Sum.elim_inl, Sum.elim_inr] at h
              try dsimp only [Sum.elim_inl, Sum.elim_inr]
              (try simp only [Thn, InBlk, ↓reduceIte, Nat.reduceEqDiff])
              (try simp only [Thn, InBlk, ↓reduceIte, Nat.reduceEqDiff])
              (try simp only [Thn, InBlk, ↓reduceIte, Nat.reduceEqDiff])
              refine hK128 _ _ ?_
              clear hK128
              refine awp_reg ftCOk [(2, .sl 2)] [.row false (.trips a0_1), .glob 0 (.ints .u8 tab0), .row true (.ints .i64 t4s_1)] ?_
              refine awp_ret ?_
              (try simp only [Thn, InBlk, ↓reduceIte, Nat.reduceEqDiff])
              obtain rfl := Option.some.inj h
              refine ⟨by simp, _, [0, 1, 2], (by simp only [go_sem, Nat.reduceBEq, Nat.reduceLT, Nat.reduceAdd, Nat.reduceLeDiff, Nat.reduceSub, Nat.reduceEqDiff, Int.reduceToNat, reduceCtorEq, ↓reduceIte]; exact rfl), ?_, ?_, ?_, ?_⟩
              · first | exact trivial | exact ⟨trivial, trivial⟩ | exact ⟨trivial, trivial, trivial⟩ | exact ⟨trivial, trivial, trivial, trivial⟩ | (simp only [allP, and_true, true_and]; done) | (simp only [allP, and_true, true_and]; omega)
              · simp [selOk, pos]
              · simp
              · first | exact ⟨rfl, rfl⟩ | (simp only [go_sem, Nat.reduceBEq, Nat.reduceLT, Nat.reduceAdd, Nat.reduceLeDiff, Nat.reduceSub, Nat.reduceEqDiff, Int.reduceToNat, reduceCtorEq, ↓reduceIte]; done) | (simp [go_sem, Nat.reduceBEq, Nat.reduceLT, Nat.reduceAdd, Nat.reduceLeDiff, Nat.reduceSub, Nat.reduceEqDiff, Int.reduceToNat, reduceCtorEq, ↓reduceIte]; done) | (simp only [go_sem, Nat.reduceBEq, Nat.reduceLT, Nat.reduceAdd, Nat.reduceLeDiff, Nat.reduceSub, Nat.reduceEqDiff, Int.reduceToNat, reduceCtorEq, ↓reduceIte]; exact ⟨rfl, rfl⟩) | (simp_all [go_sem, Nat.reduceBEq, Nat.reduceLT, Nat.reduceAdd, Nat.reduceLeDiff, Nat.reduceSub, Nat.reduceEqDiff, Int.reduceToNat, reduceCtorEq, ↓reduceIte]; done)
theorem k_impl_vertexMask_below (a0 : Int) (a1 : Int) {r : Int} (h : impl_vertexMask_below a0 a1 = some r) :
    FnA Tryd.prog 60 [.v (.int .u32 a0), .v (.int .i64 a1)] [] [] (fun x H => x = .v (.int .u32 r) ∧ H = []) := by
  unfold impl_vertexMask_below at h
  refine FnA.of (N := 10) (pin := []) (rs := [.tmp 4]) Tryd.func60 rfl en60 rfl rfl (by simp) (by simp; try omega) ?_
  refine awp_reg ftCOk [(0, .v (.int .u32 a0)), (1, .v (.int .i64 a1))] [] ?_
  replace h := bind_some h
  obtain ⟨y, hr0, h⟩ := h
  try dsimp only at h
  refine awp_to [(4, .v (.int .u32 (bitsV .and .u32 a0 (IntKind.u32.wrap (y - 1)))))] [] ?_ ?_
  · clear h
    intro K hK
    refine awp_region ftCOk ?_
    simp (maxSteps := 4000000) only [go_sem, Nat.reduceBEq, Nat.reduceLT, Nat.reduceAdd, Nat.reduceLeDiff, Nat.reduceSub, Nat.reduceEqDiff, Int.reduceToNat, reduceCtorEq, ↓reduceIte]
    repeat' (first | refine And.intro ?_ ?_ | intro hg)
    all_goals (try simp (disch := omega) only [wrap_fits])
    all_goals first
      | (refine hK _ _ ?_; exact Red.auto)
      | exact trivial
      | assumption
      | omega
      | exact wrap_fits (by omega) (by omega)
      | (refine wpA_callA (k_impl_maskOf a1 (h := hr0)) [] [] ?_
         rintro x Hc' ⟨rfl, rfl⟩ hlen
         refine vcOps_sound ftCOk ?_
         simp (maxSteps := 4000000) only [go_sem, Nat.reduceBEq, Nat.reduceLT, Nat.reduceAdd, Nat.reduceLeDiff, Nat.reduceSub, Nat.reduceEqDiff, Int.reduceToNat, reduceCtorEq, ↓reduceIte]
         repeat' (first | refine And.intro ?_ ?_ | intro hg)
         all_goals (try simp (disch := omega) only [wrap_fits])
         all_goals first
           | (refine hK _ _ ?_; exact Red.auto)
           | exact trivial
           | assumption
           | omega
           | exact wrap_fits (by omega) (by omega)
           | (simp_all; done)
           | (simp_all; omega))
      | (simp_all; done)
      | (simp_all; omega)
  · clear hr0
    refine awp_ret ?_
    (try simp only [Thn, InBlk, ↓reduceIte, Nat.reduceEqDiff])
    obtain rfl := Option.some.inj h
    refine ⟨by simp, _, [], (by simp only [go_sem, Nat.reduceBEq, Nat.reduceLT, Nat.reduceAdd, Nat.reduceLeDiff, Nat.reduceSub, Nat.reduceEqDiff, Int.reduceToNat, reduceCtorEq, ↓reduceIte]; exact rfl), ?_, ?_, ?_, ?_⟩
    · first | exact trivial | exact ⟨trivial, trivial⟩ | exact ⟨trivial, trivial, trivial⟩ | exact ⟨trivial, trivial, trivial, trivial⟩ | (simp only [allP, and_true, true_and]; done) | (simp only [allP, and_true, true_and]; omega)
    · simp [selOk, pos]
    · simp
    · first | exact ⟨rfl, rfl⟩ | (simp only [go_sem, Nat.reduceBEq, Nat.reduceLT, Nat.reduceAdd, Nat.reduceLeDiff, Nat.reduceSub, Nat.reduceEqDiff, Int.reduceToNat, reduceCtorEq, ↓reduceIte]; done) | (simp [go_sem, Nat.reduceBEq, Nat.reduceLT, Nat.reduceAdd, Nat.reduceLeDiff, Nat.reduceSub, Nat.reduceEqDiff, Int.reduceToNat, reduceCtorEq, ↓reduceIte]; done) | (simp only [go_sem, Nat.reduceBEq, Nat.reduceLT, Nat.reduceAdd, Nat.reduceLeDiff, Nat.reduceSub, Nat.reduceEqDiff, Int.reduceToNat, reduceCtorEq, ↓reduceIte]; exact ⟨rfl, rfl⟩) | (simp_all [go_sem, Nat.reduceBEq, Nat.reduceLT, Nat.reduceAdd, Nat.reduceLeDiff, Nat.reduceSub, Nat.reduceEqDiff, Int.reduceToNat, reduceCtorEq, ↓reduceIte]; done)
theorem k_impl_TrianglesAt (a0_0 : Int) (a0_1 : List (Int × Int × Int)) {r : List Int} (h : impl_TrianglesAt a0_0 a0_1 = some r) :
    FnA Tryd.prog 36 [.agg [.v (.int .i64 a0_0), .sl 0]] [.row false (.trips a0_1), .glob 0 (.ints .u8 tab0)] [] (fun x H => x = .sl 2 ∧ H = [.row false (.trips a0_1), .glob 0 (.ints .u8 tab0), .row true (.ints .i64 r)]) := by
  unfold impl_TrianglesAt at h
  refine FnA.of (N := 53) (pin := [0, 1]) (rs := [.tmp 2]) Tryd.func36 rfl en36 rfl rfl (by simp) (by simp; try omega) ?_
  refine awp_reg ftCOk [(1, .pp 2 0)] [.row false (.trips a0_1), .glob 0 (.ints .u8 tab0), .box [.v (.int .i64 a0_0), .sl 0]] ?_
  refine awp_freeze 1 (by rfl) (by rfl) (by exact rfl) ?_
  refine awp_seq fun K2 hK2 => ?_
  replace h := bind_some h
  obtain ⟨y, hr0, h⟩ := h
  try dsimp only at h
  refine awp_to [(1, .pp 2 0), (11, .v (.bool (!y)))] [.row false (.trips a0_1), .glob 0 (.ints .u8 tab0), .rbox [.v (.int .i64 a0_0), .sl 0]] ?_ ?_
  · clear h
    intro K hK
    refine awp_region ftCOk ?_
    simp (maxSteps := 4000000) only [go_sem, Nat.reduceBEq, Nat.reduceLT, Nat.reduceAdd, Nat.reduceLeDiff, Nat.reduceSub, Nat.reduceEqDiff, Int.reduceToNat, reduceCtorEq, ↓reduceIte]
    repeat' (first | refine And.intro ?_ ?_ | intro hg)
    all_goals (try simp (disch := omega) only [wrap_fits])
    all_goals first
      | (refine hK _ _ ?_; exact Red.auto)
      | exact trivial
      | assumption
      | omega
      | exact wrap_fits (by omega) (by omega)
      | (refine wpA_callA (k_impl_GraphValid a0_0 a0_1 (h := hr0)) [0] [] ?_
         rintro x Hc' ⟨rfl, rfl⟩ hlen
         refine vcOps_sound ftCOk ?_
         simp (maxSteps := 4000000) only [go_sem, Nat.reduceBEq, Nat.reduceLT, Nat.reduceAdd, Nat.reduceLeDiff, Nat.reduceSub, Nat.reduceEqDiff, Int.reduceToNat, reduceCtorEq, ↓reduceIte]
         repeat' (first | refine And.intro ?_ ?_ | intro hg)
         all_goals (try simp (disch := omega) only [wrap_fits])
         all_goals first
           | (refine hK _ _ ?_; exact Red.auto)
           | exact trivial
           | assumption
           | omega
           | exact wrap_fits (by omega) (by omega)
           | (simp_all; done)
           | (simp_all; omega))
      | (simp_all; done)
      | (simp_all; omega)
  · clear hr0
    refine awp_cond (t := 11) rfl (fun hc3 => ?_) (fun hc3 => ?_)
    · replace h := bite_t h hc3
      refine awp_reg ftCOk [(2, .v (.slice none 0 0))] [.row false (.trips a0_1), .glob 0 (.ints .u8 tab0), .rbox [.v (.int .i64 a0_0), .sl 0]] ?_
      refine awp_red (Red.nil (t := 2) (.ints .i64 []) rfl rfl) ?_
      refine awp_ret ?_
      (try simp only [Thn, InBlk, ↓reduceIte, Nat.reduceEqDiff])
      obtain rfl := Option.some.inj h
      refine ⟨by simp, _, [0, 1, 3], (by simp only [go_sem, Nat.reduceBEq, Nat.reduceLT, Nat.reduceAdd, Nat.reduceLeDiff, Nat.reduceSub, Nat.reduceEqDiff, Int.reduceToNat, reduceCtorEq, ↓reduceIte]; exact rfl), ?_, ?_, ?_, ?_⟩
      · first | exact trivial | exact ⟨trivial, trivial⟩ | exact ⟨trivial, trivial, trivial⟩ | exact ⟨trivial, trivial, trivial, trivial⟩ | (simp only [allP, and_true, true_and]; done) | (simp only [allP, and_true, true_and]; omega)
      · simp [selOk, pos]
      · simp
      · first | exact ⟨rfl, rfl⟩ | (simp only [go_sem, Nat.reduceBEq, Nat.reduceLT, Nat.reduceAdd, Nat.reduceLeDiff, Nat.reduceSub, Nat.reduceEqDiff, Int.reduceToNat, reduceCtorEq, ↓reduceIte]; done) | (simp [go_sem, Nat.reduceBEq, Nat.reduceLT, Nat.reduceAdd, Nat.reduceLeDiff, Nat.reduceSub, Nat.reduceEqDiff, Int.reduceToNat, reduceCtorEq, ↓reduceIte]; done) | (simp only [go_sem, Nat.reduceBEq, Nat.reduceLT, Nat.reduceAdd, Nat.reduceLeDiff, Nat.reduceSub, Nat.reduceEqDiff, Int.reduceToNat, reduceCtorEq, ↓reduceIte]; exact ⟨rfl, rfl⟩) | (simp_all [go_sem, Nat.reduceBEq, Nat.reduceLT, Nat.reduceAdd, Nat.reduceLeDiff, Nat.reduceSub, Nat.reduceEqDiff, Int.reduceToNat, reduceCtorEq, ↓reduceIte]; done)
    · replace h := bite_f h hc3
      refine awp_skip ?_
      (try simp only [Thn, InBlk, ↓reduceIte, Nat.reduceEqDiff])
      refine hK2 _ _ ?_
      clear hK2
      replace h := bind_some h
      obtain ⟨y_1, hr0, h⟩ := h
      try dsimp only at h
      refine awp_to [(1, .pp 2 0), (3, .sl 3)] [.row false (.trips a0_1), .glob 0 (.ints .u8 tab0), .rbox [.v (.int .i64 a0_0), .sl 0], .row true (.ints .u32 y_1)] ?_ ?_
      · clear h
        intro K hK
        refine awp_region ftCOk ?_
        simp (maxSteps := 4000000) only [go_sem, Nat.reduceBEq, Nat.reduceLT, Nat.reduceAdd, Nat.reduceLeDiff, Nat.reduceSub, Nat.reduceEqDiff, Int.reduceToNat, reduceCtorEq, ↓reduceIte]
        repeat' (first | refine And.intro ?_ ?_ | intro hg)
        all_goals (try simp (disch := omega) only [wrap_fits])
        all_goals first
          | (refine hK _ _ ?_; exact Red.auto)
          | exact trivial
          | assumption
          | omega
          | exact wrap_fits (by omega) (by omega)
          | (refine wpA_callA (k_impl_nearMasks a0_0 a0_1 (h := hr0)) [0] [] ?_
             rintro x Hc' ⟨rfl, rfl⟩ hlen
             refine vcOps_sound ftCOk ?_
             simp (maxSteps := 4000000) only [go_sem, Nat.reduceBEq, Nat.reduceLT, Nat.reduceAdd, Nat.reduceLeDiff, Nat.reduceSub, Nat.reduceEqDiff, Int.reduceToNat, reduceCtorEq, ↓reduceIte]
             repeat' (first | refine And.intro ?_ ?_ | intro hg)
             all_goals (try simp (disch := omega) only [wrap_fits])
             all_goals first
               | (refine hK _ _ ?_; exact Red.auto)
               | exact trivial
               | assumption
               | omega
               | exact wrap_fits (by omega) (by omega)
               | (simp_all; done)
               | (simp_all; omega))
          | (simp_all; done)
          | (simp_all; omega)
      · clear hr0
        replace h := chk_some h
        obtain ⟨hp0, h⟩ := h
        refine awp_reg ftCOk [(3, .sl 3), (4, .sl 4)] [.row false (.trips a0_1), .glob 0 (.ints .u8 tab0), .rbox [.v (.int .i64 a0_0), .sl 0], .row true (.ints .u32 y_1), .row true (.ints .i64 (List.replicate a0_0.toNat 0))] ?_
        clear hp0
        refine awp_seq fun K95 hK95 => ?_
        refine awp_reg ftCOk [(3, .sl 3), (4, .sl 4), (18, .v (.int .i64 ((List.replicate a0_0.toNat 0).length : Int))), (19, .v (.int .i64 0))] [.row false (.trips a0_1), .glob 0 (.ints .u8 tab0), .rbox [.v (.int .i64 a0_0), .sl 0], .row true (.ints .u32 y_1), .row true (.ints .i64 (List.replicate a0_0.toNat 0))] ?_
        refine awp_block ?_
        replace h := bind_some h
        obtain ⟨t4s_1, hx, h⟩ := h
        refine awp_loopL hx (fun ((t19, t4s) : Int × List Int) => [(3, .sl 2), (4, .sl 3), (18, .v (.int .i64 ((List.replicate a0_0.toNat 0).length : Int))), (19, .v (.int .i64 t19))]) (fun ((t19, t4s) : Int × List Int) => [.row false (.trips a0_1), .glob 0 (.ints .u8 tab0), .row true (.ints .u32 y_1), .row true (.ints .i64 t4s)]) (fun (t4s_1 : List Int) => Exit.exit 0) (fun (t4s_1 : List Int) => [(4, .sl 2)]) (fun (t4s_1 : List Int) => [.row false (.trips a0_1), .glob 0 (.ints .u8 tab0), .row true (.ints .i64 t4s_1)]) ?_ ?_ ?_ ?_
        · rintro t4s_1 hy <;> cases hy
        · clear h hx
          exact Red.selA [0, 1, 3, 4] Red.auto
        · clear h hx
          rintro ⟨t19, t4s⟩ r h
          unfold impl_TrianglesAt_b1 at h
          try dsimp only at h
          try dsimp only
          refine awp_reg ftCOk [(3, .sl 2), (4, .sl 3), (18, .v (.int .i64 ((List.replicate a0_0.toNat 0).length : Int))), (19, .v (.int .i64 t19)), (20, .v (.bool (decide (t19 < ((List.replicate a0_0.toNat 0).length : Int)))))] [.row false (.trips a0_1), .glob 0 (.ints .u8 tab0), .row true (.ints .u32 y_1), .row true (.ints .i64 t4s)] ?_
          refine awp_seq fun K157 hK157 => ?_
          refine awp_cond (t := 20) rfl (fun hc158 => ?_) (fun hc158 => ?_)
          · replace h := bite_t h hc158
            refine awp_skip ?_
            (try simp only [Thn, InBlk, ↓reduceIte, Nat.reduceEqDiff])
            refine hK157 _ _ ?_
            clear hK157
            refine awp_seq fun K172 hK172 => ?_
            refine awp_block ?_
            refine awp_reg ftCOk [(3, .sl 2), (4, .sl 3), (5, .v (.int .i64 t19)), (18, .v (.int .i64 ((List.replicate a0_0.toNat 0).length : Int))), (19, .v (.int .i64 t19))] [.row false (.trips a0_1), .glob 0 (.ints .u8 tab0), .row true (.ints .u32 y_1), .row true (.ints .i64 t4s)] ?_
            replace h := chk_some h
            obtain ⟨hp0, h⟩ := h
            replace h := bind_some h
            obtain ⟨y_2, hr1, h⟩ := h
            try dsimp only at h
            refine awp_to [(3, .sl 2), (4, .sl 3), (5, .v (.int .i64 t19)), (6, .v (.int .u32 y_2)), (18, .v (.int .i64 ((List.replicate a0_0.toNat 0).length : Int))), (19, .v (.int .i64 t19))] [.row false (.trips a0_1), .glob 0 (.ints .u8 tab0), .row true (.ints .u32 y_1), .row true (.ints .i64 t4s)] ?_ ?_
            · clear h
              intro K hK
              refine awp_region ftCOk ?_
              simp (maxSteps := 4000000) only [go_sem, Nat.reduceBEq, Nat.reduceLT, Nat.reduceAdd, Nat.reduceLeDiff, Nat.reduceSub, Nat.reduceEqDiff, Int.reduceToNat, reduceCtorEq, ↓reduceIte]
              repeat' (first | refine And.intro ?_ ?_ | intro hg)
              all_goals (try simp (disch := omega) only [wrap_fits])
              all_goals first
                | (refine hK _ _ ?_; exact Red.auto)
                | exact trivial
                | assumption
                | omega
                | exact wrap_fits (by omega) (by omega)
                | (refine wpA_callA (k_impl_vertexMask_below (y_1.getD t19.toNat 0) t19 (h := hr1)) [] [] ?_
                   rintro x Hc' ⟨rfl, rfl⟩ hlen
                   refine vcOps_sound ftCOk ?_
                   simp (maxSteps := 4000000) only [go_sem, Nat.reduceBEq, Nat.reduceLT, Nat.reduceAdd, Nat.reduceLeDiff, Nat.reduceSub, Nat.reduceEqDiff, Int.reduceToNat, reduceCtorEq, ↓reduceIte]
                   repeat' (first | refine And.intro ?_ ?_ | intro hg)
                   all_goals (try simp (disch := omega) only [wrap_fits])
                   all_goals first
                     | (refine hK _ _ ?_; exact Red.auto)
                     | exact trivial
                     | assumption
                     | omega
                     | exact wrap_fits (by omega) (by omega)
                     | (simp_all; done)
                     | (simp_all; omega))
                | (simp_all; done)
                | (simp_all; omega)
            · clear hp0 hr1
              replace h := bind_some h
              obtain ⟨y_3, hr0, h⟩ := h
              try dsimp only at h
              refine awp_to [(3, .sl 2), (4, .sl 3), (5, .v (.int .i64 t19)), (6, .v (.int .u32 y_2)), (18, .v (.int .i64 ((List.replicate a0_0.toNat 0).length : Int))), (19, .v (.int .i64 t19)), (29, .sl 4), (30, .v (.int .i64 (y_3.length : Int))), (31, .v (.int .i64 0))] [.row false (.trips a0_1), .glob 0 (.ints .u8 tab0), .row true (.ints .u32 y_1), .row true (.ints .i64 t4s), .row true (.ints .i64 y_3)] ?_ ?_
              · clear h
                intro K hK
                refine awp_region ftCOk ?_
                simp (maxSteps := 4000000) only [go_sem, Nat.reduceBEq, Nat.reduceLT, Nat.reduceAdd, Nat.reduceLeDiff, Nat.reduceSub, Nat.reduceEqDiff, Int.reduceToNat, reduceCtorEq, ↓reduceIte]
                repeat' (first | refine And.intro ?_ ?_ | intro hg)
                all_goals (try simp (disch := omega) only [wrap_fits])
                all_goals first
                  | (refine hK _ _ ?_; exact Red.auto)
                  | exact trivial
                  | assumption
                  | omega
                  | exact wrap_fits (by omega) (by omega)
                  | (refine wpA_callA (k_impl_vertexMask_list y_2 (h := hr0)) [1] [] ?_
                     rintro x Hc' ⟨rfl, rfl⟩ hlen
                     refine vcOps_sound ftCOk ?_
                     simp (maxSteps := 4000000) only [go_sem, Nat.reduceBEq, Nat.reduceLT, Nat.reduceAdd, Nat.reduceLeDiff, Nat.reduceSub, Nat.reduceEqDiff, Int.reduceToNat, reduceCtorEq, ↓reduceIte]
                     repeat' (first | refine And.intro ?_ ?_ | intro hg)
                     all_goals (try simp (disch := omega) only [wrap_fits])
                     all_goals first
                       | (refine hK _ _ ?_; exact Red.auto)
                       | exact trivial
                       | assumption
                       | omega
                       | exact wrap_fits (by omega) (by omega)
                       | (simp_all; done)
                       | (simp_all; omega))
                  | (simp_all; done)
                  | (simp_all; omega)
              · clear hr0
                refine awp_block ?_
                replace h := bind_some h
                obtain ⟨t4s_3, hx, h⟩ := h
                refine awp_loopL hx (fun ((t31, t4s_2) : Int × List Int) => [(3, .sl 2), (4, .sl 3), (5, .v (.int .i64 t19)), (6, .v (.int .u32 y_2)), (18, .v (.int .i64 ((List.replicate a0_0.toNat 0).length : Int))), (19, .v (.int .i64 t19)), (29, .sl 4), (30, .v (.int .i64 (y_3.length : Int))), (31, .v (.int .i64 t31))]) (fun ((t31, t4s_2) : Int × List Int) => [.row false (.trips a0_1), .glob 0 (.ints .u8 tab0), .row true (.ints .u32 y_1), .row true (.ints .i64 t4s_2), .row true (.ints .i64 y_3)]) (fun (t4s_3 : List Int) => Exit.exit 2) (fun (t4s_3 : List Int) => [(3, .sl 2), (4, .sl 3), (18, .v (.int .i64 ((List.replicate a0_0.toNat 0).length : Int))), (19, .v (.int .i64 t19))]) (fun (t4s_3 : List Int) => [.row false (.trips a0_1), .glob 0 (.ints .u8 tab0), .row true (.ints .u32 y_1), .row true (.ints .i64 t4s_3)]) ?_ ?_ ?_ ?_
                · rintro t4s_3 hy <;> cases hy
                · clear h hx
                  exact Red.auto
                · clear h hx
                  rintro ⟨t31, t4s_2⟩ r h
                  unfold impl_TrianglesAt_b0 at h
                  try dsimp only at h
                  try dsimp only
                  refine awp_reg ftCOk [(3, .sl 2), (4, .sl 3), (5, .v (.int .i64 t19)), (6, .v (.int .u32 y_2)), (18, .v (.int .i64 ((List.replicate a0_0.toNat 0).length : Int))), (19, .v (.int .i64 t19)), (29, .sl 4), (30, .v (.int .i64 (y_3.length : Int))), (31, .v (.int .i64 t31)), (32, .v (.bool (decide (t31 < (y_3.length : Int)))))] [.row false (.trips a0_1), .glob 0 (.ints .u8 tab0), .row true (.ints .u32 y_1), .row true (.ints .i64 t4s_2), .row true (.ints .i64 y_3)] ?_
                  refine awp_seq fun K182 hK182 => ?_
                  refine awp_cond (t := 32) rfl (fun hc183 => ?_) (fun hc183 => ?_)
                  · replace h := bite_t h hc183
                    refine awp_skip ?_
                    (try simp only [Thn, InBlk, ↓reduceIte, Nat.reduceEqDiff])
                    refine hK182 _ _ ?_
                    clear hK182
                    refine awp_seq fun K184 hK184 => ?_
                    refine awp_block ?_
                    replace h := chk_some h
                    obtain ⟨hp0, h⟩ := h
                    refine awp_reg ftCOk [(3, .sl 2), (4, .sl 3), (5, .v (.int .i64 t19)), (6, .v (.int .u32 y_2)), (8, .v (.int .i64 (y_3.getD t31.toNat 0))), (18, .v (.int .i64 ((List.replicate a0_0.toNat 0).length : Int))), (19, .v (.int .i64 t19)), (29, .sl 4), (30, .v (.int .i64 (y_3.length : Int))), (31, .v (.int .i64 t31))] [.row false (.trips a0_1), .glob 0 (.ints .u8 tab0), .row true (.ints .u32 y_1), .row true (.ints .i64 t4s_2), .row true (.ints .i64 y_3)] ?_
                    clear hp0
                    replace h := chk_some h
                    obtain ⟨hp0, h⟩ := h
                    replace h := chk_some h
                    obtain ⟨hp1, h⟩ := h
                    replace h := bind_some h
                    obtain ⟨y_4, hr2, h⟩ := h
                    try dsimp only at h
                    replace h := bind_some h
                    obtain ⟨y_5, hr3, h⟩ := h
                    try dsimp only at h
                    replace h := chk_some h
                    obtain ⟨hp4, h⟩ := h
                    refine awp_end [(3, .sl 2), (4, .sl 3), (5, .v (.int .i64 t19)), (6, .v (.int .u32 y_2)), (18, .v (.int .i64 ((List.replicate a0_0.toNat 0).length : Int))), (19, .v (.int .i64 t19)), (29, .sl 4), (30, .v (.int .i64 (y_3.length : Int))), (31, .v (.int .i64 t31))] [.row false (.trips a0_1), .glob 0 (.ints .u8 tab0), .row true (.ints .u32 y_1), .row true (.ints .i64 (t4s_2.set t19.toNat ((t4s_2.getD t19.toNat 0) + y_5))), .row true (.ints .i64 y_3)] ?_ ?_
                    · clear h
                      intro K hK
                      refine awp_drawT mixed ftCOk (.free 0 (.free 1 (.free 4 (.free 5 (.free 6 (.free 10 (.two 2 7 (.two 3 7 (.one 7 (.one 8 (.one 9 (.one 11 (.one 12 (.one 13 (.one 14 (.one 15 .fin)))))))) (.two 3 8 (.one 8 (.one 9 (.one 11 (.one 12 (.one 13 (.one 14 (.one 15 .fin))))))) (.free 9 (.two 3 11 (.one 11 (.one 12 (.one 13 (.one 14 (.one 15 .fin))))) (.two 3 12 (.one 12 (.one 13 (.one 14 (.one 15 .fin)))) (.one 3 (.one 13 (.one 14 (.one 15 .fin))))))))) (.two 2 8 (.two 3 8 (.one 8 (.one 9 (.one 11 (.one 12 (.one 13 (.one 14 (.one 15 .fin))))))) (.free 9 (.two 3 11 (.one 11 (.one 12 (.one 13 (.one 14 (.one 15 .fin))))) (.two 3 12 (.one 12 (.one 13 (.one 14 (.one 15 .fin)))) (.one 3 (.one 13 (.one 14 (.one 15 .fin)))))))) (.free 9 (.two 2 11 (.two 3 11 (.one 11 (.one 12 (.one 13 (.one 14 (.one 15 .fin))))) (.two 3 12 (.one 12 (.one 13 (.one 14 (.one 15 .fin)))) (.one 3 (.one 13 (.one 14 (.one 15 .fin)))))) (.two 2 12 (.two 3 12 (.one 12 (.one 13 (.one 14 (.one 15 .fin)))) (.one 3 (.one 13 (.one 14 (.one 15 .fin))))) (.one 2 (.one 3 (.one 13 (.one 14 (.one 15 .fin)))))))))))))))) (by kernel_rfl) (by simp) ?_
                      simp (maxSteps := 4000000) only [go_sem, Nat.reduceBEq, Nat.reduceLT, Nat.reduceAdd, Nat.reduceLeDiff, Nat.reduceSub, Nat.reduceEqDiff, Int.reduceToNat, reduceCtorEq, ↓reduceIte]
                      repeat' (first | refine And.intro ?_ ?_ | intro hg)
                      all_goals (try simp (disch := omega) only [wrap_fits])
                      all_goals first
                        | (refine hK _ _ ?_; exact Red.auto)
                        | exact trivial
                        | assumption
                        | omega
                        | exact wrap_fits (by omega) (by omega)
                        | (refine OpK_callA (k_impl_vertexMask_below (bitsV .and .u32 y_2 (y_1.getD ((y_3.getD t31.toNat 0).toNat) 0)) (y_3.getD t31.toNat 0) (h := hr2)) [] [] ?_
                           rintro x Hc' ⟨rfl, rfl⟩ hlen
                           simp (maxSteps := 4000000) only [go_sem, Nat.reduceBEq, Nat.reduceLT, Nat.reduceAdd, Nat.reduceLeDiff, Nat.reduceSub, Nat.reduceEqDiff, Int.reduceToNat, reduceCtorEq, ↓reduceIte]
                           repeat' (first | refine And.intro ?_ ?_ | intro hg)
                           all_goals (try simp (disch := omega) only [wrap_fits])
                           all_goals first
                             | (refine hK _ _ ?_; exact Red.auto)
                             | exact trivial
                             | assumption
                             | omega
                             | exact wrap_fits (by omega) (by omega)
                             | (refine OpK_callA (k_impl_vertexMask_size y_4 (h := hr3)) [] [] ?_
                                rintro x Hc' ⟨rfl, rfl⟩ hlen
                                simp (maxSteps := 4000000) only [go_sem, Nat.reduceBEq, Nat.reduceLT, Nat.reduceAdd, Nat.reduceLeDiff, Nat.reduceSub, Nat.reduceEqDiff, Int.reduceToNat, reduceCtorEq, ↓reduceIte]
                                repeat' (first | refine And.intro ?_ ?_ | intro hg)
                                all_goals (try simp (disch := omega) only [wrap_fits])
                                all_goals first
                                  | (refine hK _ _ ?_; exact Red.auto)
                                  | exact trivial
                                  | assumption
                                  | omega
                                  | exact wrap_fits (by omega) (by omega)
                                  | (simp (maxSteps := 4000000) only [go_sem, Nat.reduceBEq, Nat.reduceLT, Nat.reduceAdd, Nat.reduceLeDiff, Nat.reduceSub, Nat.reduceEqDiff, Int.reduceToNat, reduceCtorEq, ↓reduceIte]
                                     repeat' (first | refine And.intro ?_ ?_ | intro hg)
                                     all_goals (try simp (disch := omega) only [wrap_fits])
                                     all_goals first | (refine hK _ _ ?_; exact Red.auto) | exact trivial | assumption | omega | exact wrap_fits (by omega) (by omega))
                                  | (simp_all; done)
                                  | (simp_all; omega))
                             | (simp_all; done)
                             | (simp_all; omega))
                        | (simp_all; done)
                        | (simp_all; omega)
                    · clear hp0 hp1 hr2 hr3 hp4
                      (try simp only [Thn, InBlk, ↓reduceIte, Nat.reduceEqDiff])
                      (try simp only [Thn, InBlk, ↓reduceIte, Nat.reduceEqDiff])
                      refine hK184 _ _ ?_
                      clear hK184
                      replace h := chk_some h
                      obtain ⟨hp0, h⟩ := h
                      refine awp_regE ftCOk [(3, .sl 2), (4, .sl 3), (5, .v (.int .i64 t19)), (6, .v (.int .u32 y_2)), (18, .v (.int .i64 ((List.replicate a0_0.toNat 0).length : Int))), (19, .v (.int .i64 t19)), (29, .sl 4), (30, .v (.int .i64 (y_3.length : Int))), (31, .v (.int .i64 (t31 + 1)))] [.row false (.trips a0_1), .glob 0 (.ints .u8 tab0), .row true (.ints .u32 y_1), .row true (.ints .i64 (t4s_2.set t19.toNat ((t4s_2.getD t19.toNat 0) + y_5))), .row true (.ints .i64 y_3)] ?_
                      clear hp0
                      obtain rfl := Option.some.inj h
                      refine LoopQ.next ?_
                      exact Red.auto
                  · replace h := bite_f h hc183
                    refine awp_exit ?_
                    (try simp only [Thn, InBlk, ↓reduceIte, Nat.reduceEqDiff])
                    obtain rfl := Option.some.inj h
                    refine LoopQ.out rfl ?_
                    exact Red.selA [0, 1, 2, 3] Red.auto
                · clear hx
                  skip
                  · try dsimp only [Sum.elim_inl, Sum.elim_inr] at h
                    try dsimp only [Sum.elim_inl, Sum.elim_inr]
                    (try simp only [Thn, InBlk, ↓reduceIte, Nat.reduceEqDiff])
                    (try simp only [Thn, InBlk, ↓reduceIte, Nat.reduceEqDiff])
                    (try simp only [Thn, InBlk, ↓reduceIte, Nat.reduceEqDiff])
                    (try simp only [Thn, InBlk, ↓reduceIte, Nat.reduceEqDiff])
                    refine hK172 _ _ ?_
                    clear hK172
                    replace h := chk_some h
                    obtain ⟨hp0, h⟩ := h
                    refine awp_regE ftCOk [(3, .sl 2), (4, .sl 3), (18, .v (.int .i64 ((List.replicate a0_0.toNat 0).length : Int))), (19, .v (.int .i64 (t19 + 1)))] [.row false (.trips a0_1), .glob 0 (.ints .u8 tab0), .row true (.ints .u32 y_1), .row true (.ints .i64 t4s_3)] ?_
                    clear hp0
                    obtain rfl := Option.some.inj h
                    refine LoopQ.next ?_
                    exact Red.auto
          · replace h := bite_f h hc158
            refine awp_exit ?_
            (try simp only [Thn, InBlk, ↓reduceIte, Nat.reduceEqDiff])
            obtain rfl := Option.some.inj h
            refine LoopQ.out rfl ?_
            exact Red.selA [0, 1, 3] Red.auto
        · clear hx
          skip
          · try dsimp only [Sum.elim_inl, Sum.elim_inr] at h
            try dsimp only [Sum.elim_inl, Sum.elim_inr]
            (try simp only [Thn, InBlk, ↓reduceIte, Nat.reduceEqDiff])
            (try simp only [Thn, InBlk, ↓reduceIte, Nat.reduceEqDiff])
            (try simp only [Thn, InBlk, ↓reduceIte, Nat.reduceEqDiff])
            refine hK95 _ _ ?_
            clear hK95
            refine awp_reg ftCOk [(2, .sl 2)] [.row false (.trips a0_1), .glob 0 (.ints .u8 tab0), .row true (.ints .i64 t4s_1)] ?_
            refine awp_ret ?_
            (try simp only [Thn, InBlk, ↓reduceIte, Nat.reduceEqDiff])
            obtain rfl := Option.some.inj h
            refine ⟨by simp, _, [0, 1, 2], (by simp only [go_sem, Nat.reduceBEq, Nat.reduceLT, Nat.reduceAdd, Nat.reduceLeDiff, Nat.reduceSub, Nat.reduceEqDiff, Int.reduceToNat, reduceCtorEq, ↓reduceIte]; exact rfl), ?_, ?_, ?_, ?_⟩
            · first | exact trivial | exact ⟨trivial, trivial⟩ | exact ⟨trivial, trivial, trivial⟩ | exact ⟨trivial, trivial, trivial, trivial⟩ | (simp only [allP, and_true, true_and]; done) | (simp only [allP, and_true, true_and]; omega)
            · simp [selOk, pos]
            · simp
            · first | exact ⟨rfl, rfl⟩ | (simp only [go_sem, Nat.reduceBEq, Nat.reduceLT, Nat.reduceAdd, Nat.reduceLeDiff, Nat.reduceSub, Nat.reduceEqDiff, Int.reduceToNat, reduceCtorEq, ↓reduceIte]; done) | (simp [go_sem, Nat.reduceBEq, Nat.reduceLT, Nat.reduceAdd, Nat.reduceLeDiff, Nat.reduceSub, Nat.reduceEqDiff, Int.reduceToNat, reduceCtorEq, ↓reduceIte]; done) | (simp only [go_sem, Nat.reduceBEq, Nat.reduceLT, Nat.reduceAdd, Nat.reduceLeDiff, Nat.reduceSub, Nat.reduceEqDiff, Int.reduceToNat, reduceCtorEq, ↓reduceIte]; exact ⟨rfl, rfl⟩) | (simp_all [go_sem, Nat.reduceBEq, Nat.reduceLT, Nat.reduceAdd, Nat.reduceLeDiff, Nat.reduceSub, Nat.reduceEqDiff, Int.reduceToNat, reduceCtorEq, ↓reduceIte]; done)
theorem k_impl_BytesValid (a0 : List Int) {r : Bool} (h : impl_BytesValid a0 = some r) :
    FnA Tryd.prog 68 [.sl 0] [.row false (.ints .i64 a0)] [] (fun x H => x = .v (.bool r) ∧ H = [.row false (.ints .i64 a0)]) := by
  unfold impl_BytesValid at h
  refine FnA.of (N := 21) (pin := [0]) (rs := [.tmp 2]) Tryd.func68 rfl en68 rfl rfl (by simp) (by simp; try omega) ?_
  refine awp_reg ftCOk [(0, .sl 0)] [.row false (.ints .i64 a0)] ?_
  refine awp_seq fun K2 hK2 => ?_
  refine awp_reg ftCOk [(0, .sl 0), (7, .v (.bool (decide (2000 < (a0.length : Int)))))] [.row false (.ints .i64 a0)] ?_
  refine awp_cond (t := 7) rfl (fun hc3 => ?_) (fun hc3 => ?_)
  · replace h := bite_t h hc3
    refine awp_reg ftCOk [(2, .v (.bool false))] [.row false (.ints .i64 a0)] ?_
    refine awp_ret ?_
    (try simp only [Thn, InBlk, ↓reduceIte, Nat.reduceEqDiff])
    obtain rfl := Option.some.inj h
    refine ⟨by simp, _, [0], (by simp only [go_sem, Nat.reduceBEq, Nat.reduceLT, Nat.reduceAdd, Nat.reduceLeDiff, Nat.reduceSub, Nat.reduceEqDiff, Int.reduceToNat, reduceCtorEq, ↓reduceIte]; exact rfl), ?_, ?_, ?_, ?_⟩
    · first | exact trivial | exact ⟨trivial, trivial⟩ | exact ⟨trivial, trivial, trivial⟩ | exact ⟨trivial, trivial, trivial, trivial⟩ | (simp only [allP, and_true, true_and]; done) | (simp only [allP, and_true, true_and]; omega)
    · simp [selOk, pos]
    · simp
    · first | exact ⟨rfl, rfl⟩ | (simp only [go_sem, Nat.reduceBEq, Nat.reduceLT, Nat.reduceAdd, Nat.reduceLeDiff, Nat.reduceSub, Nat.reduceEqDiff, Int.reduceToNat, reduceCtorEq, ↓reduceIte]; done) | (simp [go_sem, Nat.reduceBEq, Nat.reduceLT, Nat.reduceAdd, Nat.reduceLeDiff, Nat.reduceSub, Nat.reduceEqDiff, Int.reduceToNat, reduceCtorEq, ↓reduceIte]; done) | (simp only [go_sem, Nat.reduceBEq, Nat.reduceLT, Nat.reduceAdd, Nat.reduceLeDiff, Nat.reduceSub, Nat.reduceEqDiff, Int.reduceToNat, reduceCtorEq, ↓reduceIte]; exact ⟨rfl, rfl⟩) | (simp_all [go_sem, Nat.reduceBEq, Nat.reduceLT, Nat.reduceAdd, Nat.reduceLeDiff, Nat.reduceSub, Nat.reduceEqDiff, Int.reduceToNat, reduceCtorEq, ↓reduceIte]; done)
  · replace h := bite_f h hc3
    refine awp_skip ?_
    (try simp only [Thn, InBlk, ↓reduceIte, Nat.reduceEqDiff])
    refine hK2 _ _ ?_
    clear hK2
    refine awp_seq fun K23 hK23 => ?_
    refine awp_reg ftCOk [(8, .sl 0), (9, .v (.int .i64 (a0.length : Int))), (10, .v (.int .i64 0))] [.row false (.ints .i64 a0)] ?_
    refine awp_block ?_
    replace h := bind_some h
    obtain ⟨x42, hx, h⟩ := h
    refine awp_loopL hx (fun (t10 : Int) => [(8, .sl 0), (9, .v (.int .i64 (a0.length : Int))), (10, .v (.int .i64 t10))]) (fun (t10 : Int) => [.row false (.ints .i64 a0)]) (Sum.elim (fun (_ : Unit) => Exit.exit 0) (fun (_ : Unit) => Exit.ret)) (Sum.elim (fun (_ : Unit) => []) (fun (_ : Unit) => [(2, .v (.bool false))])) (Sum.elim (fun (_ : Unit) => [.row false (.ints .i64 a0)]) (fun (_ : Unit) => [.row false (.ints .i64 a0)])) ?_ ?_ ?_ ?_
    · rintro (⟨⟩ | ⟨⟩) hy <;> cases hy
    · clear h hx
      exact Red.auto
    · clear h hx
      rintro t10 r h
      unfold impl_BytesValid_b0 at h
      try dsimp only at h
      try dsimp only
      refine awp_reg ftCOk [(8, .sl 0), (9, .v (.int .i64 (a0.length : Int))), (10, .v (.int .i64 t10)), (11, .v (.bool (decide (t10 < (a0.length : Int)))))] [.row false (.ints .i64 a0)] ?_
      refine awp_seq fun K37 hK37 => ?_
      refine awp_cond (t := 11) rfl (fun hc38 => ?_) (fun hc38 => ?_)
      · replace h := bite_t h hc38
        refine awp_skip ?_
        (try simp only [Thn, InBlk, ↓reduceIte, Nat.reduceEqDiff])
        refine hK37 _ _ ?_
        clear hK37
        refine awp_seq fun K40 hK40 => ?_
        refine awp_block ?_
        replace h := chk_some h
        obtain ⟨hp0, h⟩ := h
        refine awp_reg ftCOk [(4, .v (.int .i64 (a0.getD t10.toNat 0))), (8, .sl 0), (9, .v (.int .i64 (a0.length : Int))), (10, .v (.int .i64 t10))] [.row false (.ints .i64 a0)] ?_
        clear hp0
        refine awp_reg ftCOk [(8, .sl 0), (9, .v (.int .i64 (a0.length : Int))), (10, .v (.int .i64 t10)), (19, .v (.bool ((decide ((a0.getD t10.toNat 0) < 0)) || (decide (255 < (a0.getD t10.toNat 0))))))] [.row false (.ints .i64 a0)] ?_
        refine awp_cond (t := 19) rfl (fun hc41 => ?_) (fun hc41 => ?_)
        · replace h := bite_t h hc41
          refine awp_reg ftCOk [(2, .v (.bool false))] [.row false (.ints .i64 a0)] ?_
          refine awp_ret ?_
          (try simp only [Thn, InBlk, ↓reduceIte, Nat.reduceEqDiff])
          obtain rfl := Option.some.inj h
          refine LoopQ.out rfl ?_
          exact Red.auto
        · replace h := bite_f h hc41
          refine awp_skip ?_
          (try simp only [Thn, InBlk, ↓reduceIte, Nat.reduceEqDiff])
          (try simp only [Thn, InBlk, ↓reduceIte, Nat.reduceEqDiff])
          refine hK40 _ _ ?_
          clear hK40
          replace h := chk_some h
          obtain ⟨hp0, h⟩ := h
          refine awp_regE ftCOk [(8, .sl 0), (9, .v (.int .i64 (a0.length : Int))), (10, .v (.int .i64 (t10 + 1)))] [.row false (.ints .i64 a0)] ?_
          clear hp0
          obtain rfl := Option.some.inj h
          refine LoopQ.next ?_
          exact Red.auto
      · replace h := bite_f h hc38
        refine awp_exit ?_
        (try simp only [Thn, InBlk, ↓reduceIte, Nat.reduceEqDiff])
        obtain rfl := Option.some.inj h
        refine LoopQ.out rfl ?_
        exact Red.auto
    · clear hx
      rcases x42 with (⟨⟩ | ⟨⟩)
      · try dsimp only [Sum.elim_inl, Sum.elim_inr] at h
        try dsimp only [Sum.elim_inl, Sum.elim_inr]
        (try simp only [Thn, InBlk, ↓reduceIte, Nat.reduceEqDiff])
        (try simp only [Thn, InBlk, ↓reduceIte, Nat.reduceEqDiff])
        (try simp only [Thn, InBlk, ↓reduceIte, Nat.reduceEqDiff])
        refine hK23 _ _ ?_
        clear hK23
        refine awp_reg ftCOk [(2, .v (.bool true))] [.row false (.ints .i64 a0)] ?_
        refine awp_ret ?_
        (try simp only [Thn, InBlk, ↓reduceIte, Nat.reduceEqDiff])
        obtain rfl := Option.some.inj h
        refine ⟨by simp, _, [0], (by simp only [go_sem, Nat.reduceBEq, Nat.reduceLT, Nat.reduceAdd, Nat.reduceLeDiff, Nat.reduceSub, Nat.reduceEqDiff, Int.reduceToNat, reduceCtorEq, ↓reduceIte]; exact rfl), ?_, ?_, ?_, ?_⟩
        · first | exact trivial | exact ⟨trivial, trivial⟩ | exact ⟨trivial, trivial, trivial⟩ | exact ⟨trivial, trivial, trivial, trivial⟩ | (simp only [allP, and_true, true_and]; done) | (simp only [allP, and_true, true_and]; omega)
        · simp [selOk, pos]
        · simp
        · first | exact ⟨rfl, rfl⟩ | (simp only [go_sem, Nat.reduceBEq, Nat.reduceLT, Nat.reduceAdd, Nat.reduceLeDiff, Nat.reduceSub, Nat.reduceEqDiff, Int.reduceToNat, reduceCtorEq, ↓reduceIte]; done) | (simp [go_sem, Nat.reduceBEq, Nat.reduceLT, Nat.reduceAdd, Nat.reduceLeDiff, Nat.reduceSub, Nat.reduceEqDiff, Int.reduceToNat, reduceCtorEq, ↓reduceIte]; done) | (simp only [go_sem, Nat.reduceBEq, Nat.reduceLT, Nat.reduceAdd, Nat.reduceLeDiff, Nat.reduceSub, Nat.reduceEqDiff, Int.reduceToNat, reduceCtorEq, ↓reduceIte]; exact ⟨rfl, rfl⟩) | (simp_all [go_sem, Nat.reduceBEq, Nat.reduceLT, Nat.reduceAdd, Nat.reduceLeDiff, Nat.reduceSub, Nat.reduceEqDiff, Int.reduceToNat, reduceCtorEq, ↓reduceIte]; done)
      · try dsimp only [Sum.elim_inl, Sum.elim_inr] at h
        try dsimp only [Sum.elim_inl, Sum.elim_inr]
        (try simp only [Thn, InBlk, ↓reduceIte, Nat.reduceEqDiff])
        obtain rfl := Option.some.inj h
        refine ⟨by simp, _, [0], (by simp only [go_sem, Nat.reduceBEq, Nat.reduceLT, Nat.reduceAdd, Nat.reduceLeDiff, Nat.reduceSub, Nat.reduceEqDiff, Int.reduceToNat, reduceCtorEq, ↓reduceIte]; exact rfl), ?_, ?_, ?_, ?_⟩
        · first | exact trivial | exact ⟨trivial, trivial⟩ | exact ⟨trivial, trivial, trivial⟩ | exact ⟨trivial, trivial, trivial, trivial⟩ | (simp only [allP, and_true, true_and]; done) | (simp only [allP, and_true, true_and]; omega)
        · simp [selOk, pos]
        · simp
        · first | exact ⟨rfl, rfl⟩ | (simp only [go_sem, Nat.reduceBEq, Nat.reduceLT, Nat.reduceAdd, Nat.reduceLeDiff, Nat.reduceSub, Nat.reduceEqDiff, Int.reduceToNat, reduceCtorEq, ↓reduceIte]; done) | (simp [go_sem, Nat.reduceBEq, Nat.reduceLT, Nat.reduceAdd, Nat.reduceLeDiff, Nat.reduceSub, Nat.reduceEqDiff, Int.reduceToNat, reduceCtorEq, ↓reduceIte]; done) | (simp only [go_sem, Nat.reduceBEq, Nat.reduceLT, Nat.reduceAdd, Nat.reduceLeDiff, Nat.reduceSub, Nat.reduceEqDiff, Int.reduceToNat, reduceCtorEq, ↓reduceIte]; exact ⟨rfl, rfl⟩) | (simp_all [go_sem, Nat.reduceBEq, Nat.reduceLT, Nat.reduceAdd, Nat.reduceLeDiff, Nat.reduceSub, Nat.reduceEqDiff, Int.reduceToNat, reduceCtorEq, ↓reduceIte]; done)
theorem k_impl_CheckSum (a0 : List Int) {r : Int} (h : impl_CheckSum a0 = some r) :
    FnA Tryd.prog 46 [.sl 0] [.row false (.ints .i64 a0)] [] (fun x H => x = .v (.int .i64 r) ∧ H = [.row false (.ints .i64 a0)]) := by
  unfold impl_CheckSum at h
  refine FnA.of (N := 23) (pin := [0]) (rs := [.tmp 2]) Tryd.func46 rfl en46 rfl rfl (by simp) (by simp; try omega) ?_
  refine awp_reg ftCOk [(0, .sl 0)] [.row false (.ints .i64 a0)] ?_
  refine awp_seq fun K2 hK2 => ?_
  replace h := bind_some h
  obtain ⟨y, hr0, h⟩ := h
  try dsimp only at h
  refine awp_to [(0, .sl 0), (8, .v (.bool (!y)))] [.row false (.ints .i64 a0)] ?_ ?_
  · clear h
    intro K hK
    refine awp_region ftCOk ?_
    simp (maxSteps := 4000000) only [go_sem, Nat.reduceBEq, Nat.reduceLT, Nat.reduceAdd, Nat.reduceLeDiff, Nat.reduceSub, Nat.reduceEqDiff, Int.reduceToNat, reduceCtorEq, ↓reduceIte]
    repeat' (first | refine And.intro ?_ ?_ | intro hg)
    all_goals (try simp (disch := omega) only [wrap_fits])
    all_goals first
      | (refine hK _ _ ?_; exact Red.auto)
      | exact trivial
      | assumption
      | omega
      | exact wrap_fits (by omega) (by omega)
      | (refine wpA_callA (k_impl_BytesValid a0 (h := hr0)) [0] [] ?_
         rintro x Hc' ⟨rfl, rfl⟩ hlen
         refine vcOps_sound ftCOk ?_
         simp (maxSteps := 4000000) only [go_sem, Nat.reduceBEq, Nat.reduceLT, Nat.reduceAdd, Nat.reduceLeDiff, Nat.reduceSub, Nat.reduceEqDiff, Int.reduceToNat, reduceCtorEq, ↓reduceIte]
         repeat' (first | refine And.intro ?_ ?_ | intro hg)
         all_goals (try simp (disch := omega) only [wrap_fits])
         all_goals first
           | (refine hK _ _ ?_; exact Red.auto)
           | exact trivial
           | assumption
           | omega
           | exact wrap_fits (by omega) (by omega)
           | (simp_all; done)
           | (simp_all; omega))
      | (simp_all; done)
      | (simp_all; omega)
  · clear hr0
    refine awp_cond (t := 8) rfl (fun hc3 => ?_) (fun hc3 => ?_)
    · replace h := bite_t h hc3
      refine awp_reg ftCOk [(2, .v (.int .i64 (-1)))] [.row false (.ints .i64 a0)] ?_
      refine awp_ret ?_
      (try simp only [Thn, InBlk, ↓reduceIte, Nat.reduceEqDiff])
      obtain rfl := Option.some.inj h
      refine ⟨by simp, _, [0], (by simp only [go_sem, Nat.reduceBEq, Nat.reduceLT, Nat.reduceAdd, Nat.reduceLeDiff, Nat.reduceSub, Nat.reduceEqDiff, Int.reduceToNat, reduceCtorEq, ↓reduceIte]; exact rfl), ?_, ?_, ?_, ?_⟩
      · first | exact trivial | exact ⟨trivial, trivial⟩ | exact ⟨trivial, trivial, trivial⟩ | exact ⟨trivial, trivial, trivial, trivial⟩ | (simp only [allP, and_true, true_and]; done) | (simp only [allP, and_true, true_and]; omega)
      · simp [selOk, pos]
      · simp
      · first | exact ⟨rfl, rfl⟩ | (simp only [go_sem, Nat.reduceBEq, Nat.reduceLT, Nat.reduceAdd, Nat.reduceLeDiff, Nat.reduceSub, Nat.reduceEqDiff, Int.reduceToNat, reduceCtorEq, ↓reduceIte]; done) | (simp [go_sem, Nat.reduceBEq, Nat.reduceLT, Nat.reduceAdd, Nat.reduceLeDiff, Nat.reduceSub, Nat.reduceEqDiff, Int.reduceToNat, reduceCtorEq, ↓reduceIte]; done) | (simp only [go_sem, Nat.reduceBEq, Nat.reduceLT, Nat.reduceAdd, Nat.reduceLeDiff, Nat.reduceSub, Nat.reduceEqDiff, Int.reduceToNat, reduceCtorEq, ↓reduceIte]; exact ⟨rfl, rfl⟩) | (simp_all [go_sem, Nat.reduceBEq, Nat.reduceLT, Nat.reduceAdd, Nat.reduceLeDiff, Nat.reduceSub, Nat.reduceEqDiff, Int.reduceToNat, reduceCtorEq, ↓reduceIte]; done)
    · replace h := bite_f h hc3
      refine awp_skip ?_
      (try simp only [Thn, InBlk, ↓reduceIte, Nat.reduceEqDiff])
      refine hK2 _ _ ?_
      clear hK2
      refine awp_reg ftCOk [(0, .sl 0), (3, .v (.int .i64 7))] [.row false (.ints .i64 a0)] ?_
      refine awp_seq fun K17 hK17 => ?_
      refine awp_reg ftCOk [(3, .v (.int .i64 7)), (9, .sl 0), (10, .v (.int .i64 (a0.length : Int))), (11, .v (.int .i64 0))] [.row false (.ints .i64 a0)] ?_
      refine awp_block ?_
      replace h := bind_some h
      obtain ⟨t3_1, hx, h⟩ := h
      refine awp_loopL hx (fun ((t3, t11) : Int × Int) => [(3, .v (.int .i64 t3)), (9, .sl 0), (10, .v (.int .i64 (a0.length : Int))), (11, .v (.int .i64 t11))]) (fun ((t3, t11) : Int × Int) => [.row false (.ints .i64 a0)]) (fun (t3_1 : Int) => Exit.exit 0) (fun (t3_1 : Int) => [(3, .v (.int .i64 t3_1))]) (fun (t3_1 : Int) => [.row false (.ints .i64 a0)]) ?_ ?_ ?_ ?_
      · rintro t3_1 hy <;> cases hy
      · clear h hx
        exact Red.auto
      · clear h hx
        rintro ⟨t3, t11⟩ r h
        unfold impl_CheckSum_b0 at h
        try dsimp only at h
        try dsimp only
        refine awp_reg ftCOk [(3, .v (.int .i64 t3)), (9, .sl 0), (10, .v (.int .i64 (a0.length : Int))), (11, .v (.int .i64 t11)), (12, .v (.bool (decide (t11 < (a0.length : Int)))))] [.row false (.ints .i64 a0)] ?_
        refine awp_seq fun K27 hK27 => ?_
        refine awp_cond (t := 12) rfl (fun hc28 => ?_) (fun hc28 => ?_)
        · replace h := bite_t h hc28
          refine awp_skip ?_
          (try simp only [Thn, InBlk, ↓reduceIte, Nat.reduceEqDiff])
          refine hK27 _ _ ?_
          clear hK27
          refine awp_seq fun K29 hK29 => ?_
          refine awp_block ?_
          replace h := chk_some h
          obtain ⟨hp0, h⟩ := h
          refine awp_reg ftCOk [(3, .v (.int .i64 t3)), (5, .v (.int .i64 (a0.getD t11.toNat 0))), (9, .sl 0), (10, .v (.int .i64 (a0.length : Int))), (11, .v (.int .i64 t11))] [.row false (.ints .i64 a0)] ?_
          clear hp0
          replace h := chk_some h
          obtain ⟨hp0, h⟩ := h
          replace h := chk_some h
          obtain ⟨hp1, h⟩ := h
          replace h := chk_some h
          obtain ⟨hp2, h⟩ := h
          replace h := chk_some h
          obtain ⟨hp3, h⟩ := h
          refine awp_regE ftCOk [(3, .v (.int .i64 ((((31 * t3) + (a0.getD t11.toNat 0)) + 1) % 251))), (9, .sl 0), (10, .v (.int .i64 (a0.length : Int))), (11, .v (.int .i64 t11))] [.row false (.ints .i64 a0)] ?_
          clear hp0 hp1 hp2 hp3
          (try simp only [Thn, InBlk, ↓reduceIte, Nat.reduceEqDiff])
          (try simp only [Thn, InBlk, ↓reduceIte, Nat.reduceEqDiff])
          refine hK29 _ _ ?_
          clear hK29
          replace h := chk_some h
          obtain ⟨hp0, h⟩ := h
          refine awp_regE ftCOk [(3, .v (.int .i64 ((((31 * t3) + (a0.getD t11.toNat 0)) + 1) % 251))), (9, .sl 0), (10, .v (.int .i64 (a0.length : Int))), (11, .v (.int .i64 (t11 + 1)))] [.row false (.ints .i64 a0)] ?_
          clear hp0
          obtain rfl := Option.some.inj h
          refine LoopQ.next ?_
          exact Red.auto
        · replace h := bite_f h hc28
          refine awp_exit ?_
          (try simp only [Thn, InBlk, ↓reduceIte, Nat.reduceEqDiff])
          obtain rfl := Option.some.inj h
          refine LoopQ.out rfl ?_
          exact Red.auto
      · clear hx
        skip
        · try dsimp only [Sum.elim_inl, Sum.elim_inr] at h
          try dsimp only [Sum.elim_inl, Sum.elim_inr]
          (try simp only [Thn, InBlk, ↓reduceIte, Nat.reduceEqDiff])
          (try simp only [Thn, InBlk, ↓reduceIte, Nat.reduceEqDiff])
          (try simp only [Thn, InBlk, ↓reduceIte, Nat.reduceEqDiff])
          refine hK17 _ _ ?_
          clear hK17
          refine awp_reg ftCOk [(2, .v (.int .i64 t3_1))] [.row false (.ints .i64 a0)] ?_
          refine awp_ret ?_
          (try simp only [Thn, InBlk, ↓reduceIte, Nat.reduceEqDiff])
          obtain rfl := Option.some.inj h
          refine ⟨by simp, _, [0], (by simp only [go_sem, Nat.reduceBEq, Nat.reduceLT, Nat.reduceAdd, Nat.reduceLeDiff, Nat.reduceSub, Nat.reduceEqDiff, Int.reduceToNat, reduceCtorEq, ↓reduceIte]; exact rfl), ?_, ?_, ?_, ?_⟩
          · first | exact trivial | exact ⟨trivial, trivial⟩ | exact ⟨trivial, trivial, trivial⟩ | exact ⟨trivial, trivial, trivial, trivial⟩ | (simp only [allP, and_true, true_and]; done) | (simp only [allP, and_true, true_and]; omega)
          · simp [selOk, pos]
          · simp
          · first | exact ⟨rfl, rfl⟩ | (simp only [go_sem, Nat.reduceBEq, Nat.reduceLT, Nat.reduceAdd, Nat.reduceLeDiff, Nat.reduceSub, Nat.reduceEqDiff, Int.reduceToNat, reduceCtorEq, ↓reduceIte]; done) | (simp [go_sem, Nat.reduceBEq, Nat.reduceLT, Nat.reduceAdd, Nat.reduceLeDiff, Nat.reduceSub, Nat.reduceEqDiff, Int.reduceToNat, reduceCtorEq, ↓reduceIte]; done) | (simp only [go_sem, Nat.reduceBEq, Nat.reduceLT, Nat.reduceAdd, Nat.reduceLeDiff, Nat.reduceSub, Nat.reduceEqDiff, Int.reduceToNat, reduceCtorEq, ↓reduceIte]; exact ⟨rfl, rfl⟩) | (simp_all [go_sem, Nat.reduceBEq, Nat.reduceLT, Nat.reduceAdd, Nat.reduceLeDiff, Nat.reduceSub, Nat.reduceEqDiff, Int.reduceToNat, reduceCtorEq, ↓reduceIte]; done)
theorem k_laws_alive {r : Bool} (h : laws_alive = some r) :
    FnA Tryd.prog 15 [] [] [] (fun x H => x = .v (.bool r) ∧ H = []) := by
  unfold laws_alive at h
  refine FnA.of (N := 4) (pin := []) (rs := [.tmp 0]) Tryd.func15 rfl en15 rfl rfl (by simp) (by simp; try omega) ?_
  refine awp_reg ftCOk [] [] ?_
  replace h := bind_some h
  obtain ⟨y, hr0, h⟩ := h
  try dsimp only at h
  refine awp_to [(0, .v (.bool (y == 7)))] [.row true (.ints .i64 [])] ?_ ?_
  · clear h
    intro K hK
    refine awp_region ftCOk ?_
    simp (maxSteps := 4000000) only [go_sem, Nat.reduceBEq, Nat.reduceLT, Nat.reduceAdd, Nat.reduceLeDiff, Nat.reduceSub, Nat.reduceEqDiff, Int.reduceToNat, reduceCtorEq, ↓reduceIte]
    repeat' (first | refine And.intro ?_ ?_ | intro hg)
    all_goals (try simp (disch := omega) only [wrap_fits])
    all_goals first
      | (refine hK _ _ ?_; exact Red.auto)
      | exact trivial
      | assumption
      | omega
      | exact wrap_fits (by omega) (by omega)
      | (refine wpA_callA (k_impl_CheckSum [] (h := hr0)) [0] [] ?_
         rintro x Hc' ⟨rfl, rfl⟩ hlen
         refine vcOps_sound ftCOk ?_
         simp (maxSteps := 4000000) only [go_sem, Nat.reduceBEq, Nat.reduceLT, Nat.reduceAdd, Nat.reduceLeDiff, Nat.reduceSub, Nat.reduceEqDiff, Int.reduceToNat, reduceCtorEq, ↓reduceIte]
         repeat' (first | refine And.intro ?_ ?_ | intro hg)
         all_goals (try simp (disch := omega) only [wrap_fits])
         all_goals first
           | (refine hK _ _ ?_; exact Red.auto)
           | exact trivial
           | assumption
           | omega
           | exact wrap_fits (by omega) (by omega)
           | (simp_all; done)
           | (simp_all; omega))
      | (simp_all; done)
      | (simp_all; omega)
  · clear hr0
    refine awp_ret ?_
    (try simp only [Thn, InBlk, ↓reduceIte, Nat.reduceEqDiff])
    obtain rfl := Option.some.inj h
    refine ⟨by simp, _, [], (by simp only [go_sem, Nat.reduceBEq, Nat.reduceLT, Nat.reduceAdd, Nat.reduceLeDiff, Nat.reduceSub, Nat.reduceEqDiff, Int.reduceToNat, reduceCtorEq, ↓reduceIte]; exact rfl), ?_, ?_, ?_, ?_⟩
    · first | exact trivial | exact ⟨trivial, trivial⟩ | exact ⟨trivial, trivial, trivial⟩ | exact ⟨trivial, trivial, trivial, trivial⟩ | (simp only [allP, and_true, true_and]; done) | (simp only [allP, and_true, true_and]; omega)
    · simp [selOk, pos]
    · simp
    · first | exact ⟨rfl, rfl⟩ | (simp only [go_sem, Nat.reduceBEq, Nat.reduceLT, Nat.reduceAdd, Nat.reduceLeDiff, Nat.reduceSub, Nat.reduceEqDiff, Int.reduceToNat, reduceCtorEq, ↓reduceIte]; done) | (simp [go_sem, Nat.reduceBEq, Nat.reduceLT, Nat.reduceAdd, Nat.reduceLeDiff, Nat.reduceSub, Nat.reduceEqDiff, Int.reduceToNat, reduceCtorEq, ↓reduceIte]; done) | (simp only [go_sem, Nat.reduceBEq, Nat.reduceLT, Nat.reduceAdd, Nat.reduceLeDiff, Nat.reduceSub, Nat.reduceEqDiff, Int.reduceToNat, reduceCtorEq, ↓reduceIte]; exact ⟨rfl, rfl⟩) | (simp_all [go_sem, Nat.reduceBEq, Nat.reduceLT, Nat.reduceAdd, Nat.reduceLeDiff, Nat.reduceSub, Nat.reduceEqDiff, Int.reduceToNat, reduceCtorEq, ↓reduceIte]; done)
end Go.Proofs.YtdjckcedpnabpaaDoor

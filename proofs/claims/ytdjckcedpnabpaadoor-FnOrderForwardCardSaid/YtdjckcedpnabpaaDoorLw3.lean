/- The code computes the functions that were taken out of it. -/
import Derived.Test.YtdjckcedpnabpaaDoorLw2
set_option maxRecDepth 100000
set_option maxHeartbeats 4000000
set_option linter.unusedSimpArgs false
set_option linter.unusedVariables false
namespace Go.Proofs.YtdjckcedpnabpaaDoor
open Go Go.Av
attribute [local irreducible] wpA OpK awp
attribute [local go_sem] frs_nil frs_cons pw8_32 pw16_32 pw24_32 pw27_32 eqAgg eqAggV buildQ placesOf buildCells List.toList_toArray vcQg gfind gfree gput un3_agg unI_int unB_bool unK_int guardU skipV resVs resV vcD_nil vcD_cons vcT_fin vcT_free vcT_one vcT_two opS vcD1 roH roOb ftNone ftAdd oneOrTup AV.detup AV.ren AV.ren2 AV.ren1 pos selH AObj.ren fitAll fit fit1 fit1s matchAll matchOb exIds AObj.excl Env.killp pastH setAll upId AObj.past AObj.back AV.killp AV.killp1 AV.killp2 Nat.sub_self Nat.lt_irrefl Bool.or_self vcOps vcOp vcQs vcQ dstOk quiet eff pcall calleeF plain valsOf ev ofConst argEnv List.lookup Nat.add_eq decide_true decide_false Env.put binV wrapTo unV convV loadQ indexQ callQ builtinQ rd rdI globC AObj.globC partAV isAggD isArrayD addrAdd boxE storeE storeCE makeE makeNE buildNE nestZero Cont.child Cont.setChild buildSliceE buildFold appendE appendNE nestApp appendV promoteH sliceE boundAV subObj asCells Value.oneCell' contZero Cont.sets Cont.app Cont.sub Cont.len Cont.esz Cont.cell Cont.cells Cont.flat AV.det AV.det1 guardV AObj.unview AObj.kill Env.kill AV.kill AV.kill1 AV.kill2 fits64 Option.getD_some Option.getD_none Option.map_some Option.map_none Option.bind_some List.map_cons List.map_nil List.getElem?_cons_zero List.getElem?_cons_succ List.getElem?_nil true_and and_true List.getElem?_toArray List.cons_append List.nil_append List.length_cons List.length_nil List.set_cons_zero List.set_cons_succ List.take_succ_cons List.take_zero List.drop_succ_cons List.drop_zero List.drop_nil List.take_nil List.contains_cons List.contains_nil List.elem_cons List.elem_nil Bool.not_true Bool.not_false Bool.false_eq_true Bool.or_false Bool.or_true Bool.and_true Bool.and_false Bool.true_and Bool.false_and List.all_cons List.all_nil List.size_toArray Nat.lt_add_one Nat.zero_lt_succ Nat.one_ne_zero Nat.zero_ne_one and_self List.replicate_succ List.replicate_zero Int.toNat_natCast Int.toNat_zero Value.cells false_implies true_implies forall_const Thn InBlk Nat.zero_add Nat.add_zero Int.zero_add Ele Env.ren Option.some.injEq AV.v.injEq AV.sl.injEq AV.pp.injEq AV.ep.injEq AV.agg.injEq List.cons.injEq Value.int.injEq Value.bool.injEq Value.string.injEq true_or or_true or_false false_or tsz0 tby0 tz0 Tryd.underlying0 tsz1 tby1 tz1 Tryd.underlying1 tsz2 tby2 tz2 Tryd.underlying2 tsz3 tby3 tz3 Tryd.underlying3 tsz4 tby4 tz4 Tryd.underlying4 tsz5 tby5 tz5 Tryd.underlying5 tsz6 tby6 tz6 Tryd.underlying6 tsz7 tby7 tz7 Tryd.underlying7 fo7_0 fo7_1 fo7_2 fo7_3 tsz8 tby8 tz8 Tryd.underlying8 fo8_0 fo8_1 fo8_2 fo8_3 tsz9 tby9 Tryd.underlying9 tsz10 tby10 Tryd.underlying10 tsz12 tby12 tz12 Tryd.underlying12 tsz16 tby16 tz16 Tryd.underlying16 tsz17 tby17 tz17 Tryd.underlying17 tsz20 tby20 tz20 Tryd.underlying20 tsz21 tby21 tz21 Tryd.underlying21 tsz22 tby22 tz22 Tryd.underlying22 tsz23 tby23 tz23 Tryd.underlying23 tsz24 tby24 tz24 Tryd.underlying24 fo24_0 fo24_1 tsz25 tby25 tz25 Tryd.underlying25 fo25_0 fo25_1 tsz30 tby30 tz30 Tryd.underlying30 tsz32 tby32 tz32 Tryd.underlying32 tsz39 tby39 tz39 Tryd.underlying39 tsz40 tby40 tz40 Tryd.underlying40 tsz43 tby43 tz43 Tryd.underlying43 tsz44 tby44 tz44 Tryd.underlying44 tsz46 tby46 tz46 Tryd.underlying46 tsz50 tby50 tz50 Tryd.underlying50 peq50 fo50_0 fo50_1 fo50_2 tsz51 tby51 tz51 Tryd.underlying51 peq51 fo51_0 fo51_1 fo51_2 tsz53 tby53 tz53 Tryd.underlying53 tsz54 tby54 tz54 Tryd.underlying54 tsz55 tby55 tz55 Tryd.underlying55 tsz60 tby60 tz60 Tryd.underlying60 tsz71 tby71 tz71 Tryd.underlying71 fo71_0 fo71_1 tsz72 tby72 tz72 Tryd.underlying72 fo72_0 fo72_1 tsz77 tby77 tz77 Tryd.underlying77 tsz81 tby81 tz81 Tryd.underlying81 tsz86 tby86 tz86 Tryd.underlying86 tsz87 tby87 tz87 Tryd.underlying87 tsz91 tby91 tz91 Tryd.underlying91 tsz94 tby94 tz94 Tryd.underlying94 tsz95 tby95 tz95 Tryd.underlying95 tsz96 tby96 tz96 Tryd.underlying96 tsz100 tby100 tz100 Tryd.underlying100 tsz102 tby102 tz102 Tryd.underlying102 tsz103 tby103 tz103 Tryd.underlying103 tsz108 tby108 tz108 Tryd.underlying108 tsz109 tby109 tz109 Tryd.underlying109 tsz110 tby110 tz110 Tryd.underlying110 tsz111 tby111 tz111 Tryd.underlying111 tsz112 tby112 tz112 Tryd.underlying112 tsz113 tby113 tz113 Tryd.underlying113 tsz114 tby114 tz114 Tryd.underlying114 tsz115 tby115 tz115 Tryd.underlying115 tsz116 tby116 tz116 Tryd.underlying116 tsz117 tby117 tz117 Tryd.underlying117 fo117_0 fo117_1 fo117_2 fo117_3 fo117_4 fo117_5 fo117_6 fo117_7 fo117_8 fo117_9 fo117_10 tsz118 tby118 tz118 Tryd.underlying118 fo118_0 fo118_1 fo118_2 fo118_3 fo118_4 fo118_5 fo118_6 fo118_7 fo118_8 fo118_9 fo118_10 tsz119 tby119 tz119 Tryd.underlying119 l1InG l4BeforeG isNaNG cmpIntG cmpEndsG ftC
theorem k_impl_forward (a0_0 : Int) (a0_1 : List (Int × Int × Int)) {r : List Int} (h : impl_forward a0_0 a0_1 = some r) :
    FnA Tryd.prog 52 [.agg [.v (.int .i64 a0_0), .sl 0]] [.row false (.trips a0_1), .glob 0 (.ints .u8 tab0)] [] (fun x H => x = .sl 2 ∧ H = [.row false (.trips a0_1), .glob 0 (.ints .u8 tab0), .row true (.ints .i64 r)]) := by
  unfold impl_forward at h
  refine FnA.of (N := 87) (pin := [0, 1]) (rs := [.tmp 2]) Tryd.func52 rfl en52 rfl rfl (by simp) (by simp; try omega) ?_
  refine awp_reg ftCOk [(1, .pp 2 0)] [.row false (.trips a0_1), .glob 0 (.ints .u8 tab0), .box [.v (.int .i64 a0_0), .sl 0]] ?_
  refine awp_freeze 1 (by rfl) (by rfl) (by exact rfl) ?_
  replace h := chk_some h
  obtain ⟨hp0, h⟩ := h
  refine awp_reg ftCOk [(1, .pp 2 0), (3, .sl 3)] [.row false (.trips a0_1), .glob 0 (.ints .u8 tab0), .rbox [.v (.int .i64 a0_0), .sl 0], .row true (.ints .i64 (List.replicate a0_0.toNat 0))] ?_
  clear hp0
  refine awp_seq fun K14 hK14 => ?_
  refine awp_reg ftCOk [(1, .pp 2 0), (3, .sl 3), (18, .sl 0), (19, .v (.int .i64 (a0_1.length : Int))), (20, .v (.int .i64 0))] [.row false (.trips a0_1), .glob 0 (.ints .u8 tab0), .rbox [.v (.int .i64 a0_0), .sl 0], .row true (.ints .i64 (List.replicate a0_0.toNat 0))] ?_
  refine awp_block ?_
  replace h := bind_some h
  obtain ⟨t3s_1, hx, h⟩ := h
  refine awp_loopL hx (fun ((t20, t3s) : Int × List Int) => [(1, .pp 2 0), (3, .sl 3), (18, .sl 0), (19, .v (.int .i64 (a0_1.length : Int))), (20, .v (.int .i64 t20))]) (fun ((t20, t3s) : Int × List Int) => [.row false (.trips a0_1), .glob 0 (.ints .u8 tab0), .rbox [.v (.int .i64 a0_0), .sl 0], .row true (.ints .i64 t3s)]) (fun (t3s_1 : List Int) => Exit.exit 0) (fun (t3s_1 : List Int) => [(1, .pp 2 0), (3, .sl 3)]) (fun (t3s_1 : List Int) => [.row false (.trips a0_1), .glob 0 (.ints .u8 tab0), .rbox [.v (.int .i64 a0_0), .sl 0], .row true (.ints .i64 t3s_1)]) ?_ ?_ ?_ ?_
  · rintro t3s_1 hy <;> cases hy
  · clear h hx
    exact Red.auto
  · clear h hx
    rintro ⟨t20, t3s⟩ r h
    unfold impl_forward_b0 at h
    try dsimp only at h
    try dsimp only
    refine awp_reg ftCOk [(1, .pp 2 0), (3, .sl 3), (18, .sl 0), (19, .v (.int .i64 (a0_1.length : Int))), (20, .v (.int .i64 t20)), (21, .v (.bool (decide (t20 < (a0_1.length : Int)))))] [.row false (.trips a0_1), .glob 0 (.ints .u8 tab0), .rbox [.v (.int .i64 a0_0), .sl 0], .row true (.ints .i64 t3s)] ?_
    refine awp_seq fun K24 hK24 => ?_
    refine awp_cond (t := 21) rfl (fun hc25 => ?_) (fun hc25 => ?_)
    · replace h := bite_t h hc25
      refine awp_skip ?_
      (try simp only [Thn, InBlk, ↓reduceIte, Nat.reduceEqDiff])
      refine hK24 _ _ ?_
      clear hK24
      refine awp_seq fun K26 hK26 => ?_
      refine awp_block ?_
      replace h := chk_some h
      obtain ⟨hp0, h⟩ := h
      refine awp_reg ftCOk [(1, .pp 2 0), (3, .sl 3), (5, .pp 4 0), (18, .sl 0), (19, .v (.int .i64 (a0_1.length : Int))), (20, .v (.int .i64 t20))] [.row false (.trips a0_1), .glob 0 (.ints .u8 tab0), .rbox [.v (.int .i64 a0_0), .sl 0], .row true (.ints .i64 t3s), .box [.v (.int .i64 ((a0_1.getD t20.toNat (0, 0, 0)).1)), .v (.int .i64 ((a0_1.getD t20.toNat (0, 0, 0)).2.1)), .v (.int .i64 ((a0_1.getD t20.toNat (0, 0, 0)).2.2))]] ?_
      clear hp0
      replace h := chk_some h
      obtain ⟨hp0, h⟩ := h
      replace h := chk_some h
      obtain ⟨hp1, h⟩ := h
      refine awp_regE ftCOk [(1, .pp 2 0), (3, .sl 3), (18, .sl 0), (19, .v (.int .i64 (a0_1.length : Int))), (20, .v (.int .i64 t20))] [.row false (.trips a0_1), .glob 0 (.ints .u8 tab0), .rbox [.v (.int .i64 a0_0), .sl 0], .row true (.ints .i64 (t3s.set (((a0_1.getD t20.toNat (0, 0, 0)).2.1).toNat) ((t3s.getD (((a0_1.getD t20.toNat (0, 0, 0)).2.1).toNat) 0) + 1))), .box [.v (.int .i64 ((a0_1.getD t20.toNat (0, 0, 0)).1)), .v (.int .i64 ((a0_1.getD t20.toNat (0, 0, 0)).2.1)), .v (.int .i64 ((a0_1.getD t20.toNat (0, 0, 0)).2.2))]] ?_
      clear hp0 hp1
      (try simp only [Thn, InBlk, ↓reduceIte, Nat.reduceEqDiff])
      (try simp only [Thn, InBlk, ↓reduceIte, Nat.reduceEqDiff])
      refine hK26 _ _ ?_
      clear hK26
      replace h := chk_some h
      obtain ⟨hp0, h⟩ := h
      refine awp_regE ftCOk [(1, .pp 2 0), (3, .sl 3), (18, .sl 0), (19, .v (.int .i64 (a0_1.length : Int))), (20, .v (.int .i64 (t20 + 1)))] [.row false (.trips a0_1), .glob 0 (.ints .u8 tab0), .rbox [.v (.int .i64 a0_0), .sl 0], .row true (.ints .i64 (t3s.set (((a0_1.getD t20.toNat (0, 0, 0)).2.1).toNat) ((t3s.getD (((a0_1.getD t20.toNat (0, 0, 0)).2.1).toNat) 0) + 1))), .box [.v (.int .i64 ((a0_1.getD t20.toNat (0, 0, 0)).1)), .v (.int .i64 ((a0_1.getD t20.toNat (0, 0, 0)).2.1)), .v (.int .i64 ((a0_1.getD t20.toNat (0, 0, 0)).2.2))]] ?_
      clear hp0
      obtain rfl := Option.some.inj h
      refine LoopQ.next ?_
      exact Red.selA [0, 1, 2, 3] Red.auto
    · replace h := bite_f h hc25
      refine awp_exit ?_
      (try simp only [Thn, InBlk, ↓reduceIte, Nat.reduceEqDiff])
      obtain rfl := Option.some.inj h
      refine LoopQ.out rfl ?_
      exact Red.auto
  · clear hx
    skip
    · try dsimp only [Sum.elim_inl, Sum.elim_inr] at h
      try dsimp only [Sum.elim_inl, Sum.elim_inr]
      (try simp only [Thn, InBlk, ↓reduceIte, Nat.reduceEqDiff])
      (try simp only [Thn, InBlk, ↓reduceIte, Nat.reduceEqDiff])
      (try simp only [Thn, InBlk, ↓reduceIte, Nat.reduceEqDiff])
      refine hK14 _ _ ?_
      clear hK14
      replace h := bind_some h
      obtain ⟨y, hr0, h⟩ := h
      try dsimp only at h
      refine awp_to [(3, .sl 3), (6, .sl 4)] [.row false (.trips a0_1), .glob 0 (.ints .u8 tab0), .rbox [.v (.int .i64 a0_0), .sl 0], .row true (.ints .i64 t3s_1), .row true (.ints .u32 y)] ?_ ?_
      · clear h
        intro K hK
        refine awp_region ftCOk ?_
        simp (maxSteps := 4000000) only [go_sem, Nat.reduceBEq, Nat.reduceLT, Nat.reduceAdd, Nat.reduceLeDiff, Nat.reduceSub, Nat.reduceEqDiff, Int.reduceToNat, reduceCtorEq, ↓reduceIte]
        repeat' (first | refine And.intro ?_ ?_ | intro hg)
        all_goals (try simp (disch := omega) only [wrap_fits])
        all_goals first
          | (refine hK _ _ ?_; exact Red.auto)
          | exact trivial
          | assumption
          | omega
          | exact wrap_fits (by omega) (by omega)
          | (refine wpA_callA (k_impl_nextMasks a0_0 a0_1 (h := hr0)) [0] [] ?_
             rintro x Hc' ⟨rfl, rfl⟩ hlen
             refine vcOps_sound ftCOk ?_
             simp (maxSteps := 4000000) only [go_sem, Nat.reduceBEq, Nat.reduceLT, Nat.reduceAdd, Nat.reduceLeDiff, Nat.reduceSub, Nat.reduceEqDiff, Int.reduceToNat, reduceCtorEq, ↓reduceIte]
             repeat' (first | refine And.intro ?_ ?_ | intro hg)
             all_goals (try simp (disch := omega) only [wrap_fits])
             all_goals first
               | (refine hK _ _ ?_; exact Red.auto)
               | exact trivial
               | assumption
               | omega
               | exact wrap_fits (by omega) (by omega)
               | (simp_all; done)
               | (simp_all; omega))
          | (simp_all; done)
          | (simp_all; omega)
      · clear hr0
        refine awp_reg ftCOk [(3, .sl 3), (6, .sl 4), (7, .v (.int .u32 0))] [.row false (.trips a0_1), .glob 0 (.ints .u8 tab0), .rbox [.v (.int .i64 a0_0), .sl 0], .row true (.ints .i64 t3s_1), .row true (.ints .u32 y)] ?_
        refine awp_seq fun K44 hK44 => ?_
        refine awp_reg ftCOk [(3, .sl 3), (6, .sl 4), (7, .v (.int .u32 0)), (34, .sl 3), (35, .v (.int .i64 (t3s_1.length : Int))), (36, .v (.int .i64 0))] [.row false (.trips a0_1), .glob 0 (.ints .u8 tab0), .rbox [.v (.int .i64 a0_0), .sl 0], .row true (.ints .i64 t3s_1), .row true (.ints .u32 y)] ?_
        refine awp_block ?_
        replace h := bind_some h
        obtain ⟨t7_1, hx, h⟩ := h
        refine awp_loopL hx (fun ((t7, t36) : Int × Int) => [(3, .sl 2), (6, .sl 3), (7, .v (.int .u32 t7)), (34, .sl 2), (35, .v (.int .i64 (t3s_1.length : Int))), (36, .v (.int .i64 t36))]) (fun ((t7, t36) : Int × Int) => [.row false (.trips a0_1), .glob 0 (.ints .u8 tab0), .row true (.ints .i64 t3s_1), .row true (.ints .u32 y)]) (fun (t7_1 : Int) => Exit.exit 2) (fun (t7_1 : Int) => [(3, .sl 2), (6, .sl 3), (7, .v (.int .u32 t7_1))]) (fun (t7_1 : Int) => [.row false (.trips a0_1), .glob 0 (.ints .u8 tab0), .row true (.ints .i64 t3s_1), .row true (.ints .u32 y)]) ?_ ?_ ?_ ?_
        · rintro t7_1 hy <;> cases hy
        · clear h hx
          exact Red.selA [0, 1, 3, 4] Red.auto
        · clear h hx
          rintro ⟨t7, t36⟩ r h
          unfold impl_forward_b1 at h
          try dsimp only at h
          try dsimp only
          refine awp_reg ftCOk [(3, .sl 2), (6, .sl 3), (7, .v (.int .u32 t7)), (34, .sl 2), (35, .v (.int .i64 (t3s_1.length : Int))), (36, .v (.int .i64 t36)), (37, .v (.bool (decide (t36 < (t3s_1.length : Int)))))] [.row false (.trips a0_1), .glob 0 (.ints .u8 tab0), .row true (.ints .i64 t3s_1), .row true (.ints .u32 y)] ?_
          refine awp_seq fun K56 hK56 => ?_
          refine awp_cond (t := 37) rfl (fun hc57 => ?_) (fun hc57 => ?_)
          · replace h := bite_t h hc57
            refine awp_skip ?_
            (try simp only [Thn, InBlk, ↓reduceIte, Nat.reduceEqDiff])
            refine hK56 _ _ ?_
            clear hK56
            refine awp_join h (fun (t7_2 : Int) => [(3, .sl 2), (6, .sl 3), (7, .v (.int .u32 t7_2)), (34, .sl 2), (35, .v (.int .i64 (t3s_1.length : Int))), (36, .v (.int .i64 t36))]) (fun (t7_2 : Int) => [.row false (.trips a0_1), .glob 0 (.ints .u8 tab0), .row true (.ints .i64 t3s_1), .row true (.ints .u32 y)]) ?_ ?_
            · clear h
              intro k h
              try dsimp only at h
              refine awp_block ?_
              replace h := chk_some h
              obtain ⟨hp0, h⟩ := h
              refine awp_reg ftCOk [(3, .sl 2), (6, .sl 3), (7, .v (.int .u32 t7)), (8, .v (.int .i64 t36)), (9, .v (.int .i64 (t3s_1.getD t36.toNat 0))), (34, .sl 2), (35, .v (.int .i64 (t3s_1.length : Int))), (36, .v (.int .i64 t36))] [.row false (.trips a0_1), .glob 0 (.ints .u8 tab0), .row true (.ints .i64 t3s_1), .row true (.ints .u32 y)] ?_
              clear hp0
              refine awp_reg ftCOk [(3, .sl 2), (6, .sl 3), (7, .v (.int .u32 t7)), (8, .v (.int .i64 t36)), (34, .sl 2), (35, .v (.int .i64 (t3s_1.length : Int))), (36, .v (.int .i64 t36)), (42, .v (.bool ((t3s_1.getD t36.toNat 0) == 0)))] [.row false (.trips a0_1), .glob 0 (.ints .u8 tab0), .row true (.ints .i64 t3s_1), .row true (.ints .u32 y)] ?_
              refine awp_cond (t := 42) rfl (fun hc59 => ?_) (fun hc59 => ?_)
              · replace h := bite_t h hc59
                replace h := bind_some h
                obtain ⟨y_1, hr0, h⟩ := h
                try dsimp only at h
                refine awp_end [(3, .sl 2), (6, .sl 3), (7, .v (.int .u32 (bitsV .or .u32 t7 y_1))), (34, .sl 2), (35, .v (.int .i64 (t3s_1.length : Int))), (36, .v (.int .i64 t36))] [.row false (.trips a0_1), .glob 0 (.ints .u8 tab0), .row true (.ints .i64 t3s_1), .row true (.ints .u32 y)] ?_ ?_
                · clear h
                  intro K hK
                  refine awp_region ftCOk ?_
                  simp (maxSteps := 4000000) only [go_sem, Nat.reduceBEq, Nat.reduceLT, Nat.reduceAdd, Nat.reduceLeDiff, Nat.reduceSub, Nat.reduceEqDiff, Int.reduceToNat, reduceCtorEq, ↓reduceIte]
                  repeat' (first | refine And.intro ?_ ?_ | intro hg)
                  all_goals (try simp (disch := omega) only [wrap_fits])
                  all_goals first
                    | (refine hK _ _ ?_; exact Red.auto)
                    | exact trivial
                    | assumption
                    | omega
                    | exact wrap_fits (by omega) (by omega)
                    | (refine wpA_callA (k_impl_maskOf t36 (h := hr0)) [] [] ?_
                       rintro x Hc' ⟨rfl, rfl⟩ hlen
                       refine vcOps_sound ftCOk ?_
                       simp (maxSteps := 4000000) only [go_sem, Nat.reduceBEq, Nat.reduceLT, Nat.reduceAdd, Nat.reduceLeDiff, Nat.reduceSub, Nat.reduceEqDiff, Int.reduceToNat, reduceCtorEq, ↓reduceIte]
                       repeat' (first | refine And.intro ?_ ?_ | intro hg)
                       all_goals (try simp (disch := omega) only [wrap_fits])
                       all_goals first
                         | (refine hK _ _ ?_; exact Red.auto)
                         | exact trivial
                         | assumption
                         | omega
                         | exact wrap_fits (by omega) (by omega)
                         | (simp_all; done)
                         | (simp_all; omega))
                    | (simp_all; done)
                    | (simp_all; omega)
                · clear hr0
                  (try simp only [Thn, InBlk, ↓reduceIte, Nat.reduceEqDiff])
                  (try simp only [Thn, InBlk, ↓reduceIte, Nat.reduceEqDiff])
                  refine ⟨_, h, ?_⟩
                  exact Red.auto
              · replace h := bite_f h hc59
                refine awp_skip ?_
                (try simp only [Thn, InBlk, ↓reduceIte, Nat.reduceEqDiff])
                (try simp only [Thn, InBlk, ↓reduceIte, Nat.reduceEqDiff])
                refine ⟨_, h, ?_⟩
                exact Red.auto
            · clear h
              rintro t7_2 h
              try dsimp only at h
              try dsimp only
              replace h := chk_some h
              obtain ⟨hp0, h⟩ := h
              refine awp_regE ftCOk [(3, .sl 2), (6, .sl 3), (7, .v (.int .u32 t7_2)), (34, .sl 2), (35, .v (.int .i64 (t3s_1.length : Int))), (36, .v (.int .i64 (t36 + 1)))] [.row false (.trips a0_1), .glob 0 (.ints .u8 tab0), .row true (.ints .i64 t3s_1), .row true (.ints .u32 y)] ?_
              clear hp0
              obtain rfl := Option.some.inj h
              refine LoopQ.next ?_
              exact Red.auto
          · replace h := bite_f h hc57
            refine awp_exit ?_
            (try simp only [Thn, InBlk, ↓reduceIte, Nat.reduceEqDiff])
            obtain rfl := Option.some.inj h
            refine LoopQ.out rfl ?_
            exact Red.auto
        · clear hx
          skip
          · try dsimp only [Sum.elim_inl, Sum.elim_inr] at h
            try dsimp only [Sum.elim_inl, Sum.elim_inr]
            (try simp only [Thn, InBlk, ↓reduceIte, Nat.reduceEqDiff])
            (try simp only [Thn, InBlk, ↓reduceIte, Nat.reduceEqDiff])
            (try simp only [Thn, InBlk, ↓reduceIte, Nat.reduceEqDiff])
            refine hK44 _ _ ?_
            clear hK44
            refine awp_reg ftCOk [(3, .sl 2), (6, .sl 3), (7, .v (.int .u32 t7_1)), (10, .v (.slice none 0 0))] [.row false (.trips a0_1), .glob 0 (.ints .u8 tab0), .row true (.ints .i64 t3s_1), .row true (.ints .u32 y)] ?_
            refine awp_seq fun K138 hK138 => ?_
            refine awp_block ?_
            replace h := bind_some h
            obtain ⟨t10s_1, hx, h⟩ := h
            refine awp_loopL hx (fun ((t7_3, t3s_2, t10s) : Int × List Int × List Int) => [(3, .sl 2), (6, .sl 3), (7, .v (.int .u32 t7_3)), (10, .sl 4)]) (fun ((t7_3, t3s_2, t10s) : Int × List Int × List Int) => [.row false (.trips a0_1), .glob 0 (.ints .u8 tab0), .row true (.ints .i64 t3s_2), .row true (.ints .u32 y), .row true (.ints .i64 t10s)]) (fun (t10s_1 : List Int) => Exit.exit 4) (fun (t10s_1 : List Int) => [(10, .sl 2)]) (fun (t10s_1 : List Int) => [.row false (.trips a0_1), .glob 0 (.ints .u8 tab0), .row true (.ints .i64 t10s_1)]) ?_ ?_ ?_ ?_
            · rintro t10s_1 hy <;> cases hy
            · clear h hx
              refine Red.trans (Red.nil (t := 10) (.ints .i64 []) rfl rfl) ?_
              exact Red.auto
            · clear h hx
              rintro ⟨t7_3, t3s_2, t10s⟩ r h
              unfold impl_forward_b3 at h
              try dsimp only at h
              try dsimp only
              refine awp_seq fun K197 hK197 => ?_
              refine awp_reg ftCOk [(3, .sl 2), (6, .sl 3), (7, .v (.int .u32 t7_3)), (10, .sl 4), (49, .v (.bool (t7_3 != 0)))] [.row false (.trips a0_1), .glob 0 (.ints .u8 tab0), .row true (.ints .i64 t3s_2), .row true (.ints .u32 y), .row true (.ints .i64 t10s)] ?_
              refine awp_cond (t := 49) rfl (fun hc198 => ?_) (fun hc198 => ?_)
              · replace h := bite_t h hc198
                refine awp_skip ?_
                (try simp only [Thn, InBlk, ↓reduceIte, Nat.reduceEqDiff])
                refine hK197 _ _ ?_
                clear hK197
                refine awp_block ?_
                replace h := bind_some h
                obtain ⟨y_2, hr0, h⟩ := h
                try dsimp only at h
                refine awp_to [(3, .sl 2), (6, .sl 3), (7, .v (.int .u32 t7_3)), (10, .sl 4), (11, .v (.int .i64 y_2))] [.row false (.trips a0_1), .glob 0 (.ints .u8 tab0), .row true (.ints .i64 t3s_2), .row true (.ints .u32 y), .row true (.ints .i64 t10s)] ?_ ?_
                · clear h
                  intro K hK
                  refine awp_region ftCOk ?_
                  simp (maxSteps := 4000000) only [go_sem, Nat.reduceBEq, Nat.reduceLT, Nat.reduceAdd, Nat.reduceLeDiff, Nat.reduceSub, Nat.reduceEqDiff, Int.reduceToNat, reduceCtorEq, ↓reduceIte]
                  repeat' (first | refine And.intro ?_ ?_ | intro hg)
                  all_goals (try simp (disch := omega) only [wrap_fits])
                  all_goals first
                    | (refine hK _ _ ?_; exact Red.auto)
                    | exact trivial
                    | assumption
                    | omega
                    | exact wrap_fits (by omega) (by omega)
                    | (refine wpA_callA (k_impl_vertexMask_least t7_3 (h := hr0)) [1] [] ?_
                       rintro x Hc' ⟨rfl, rfl⟩ hlen
                       refine vcOps_sound ftCOk ?_
                       simp (maxSteps := 4000000) only [go_sem, Nat.reduceBEq, Nat.reduceLT, Nat.reduceAdd, Nat.reduceLeDiff, Nat.reduceSub, Nat.reduceEqDiff, Int.reduceToNat, reduceCtorEq, ↓reduceIte]
                       repeat' (first | refine And.intro ?_ ?_ | intro hg)
                       all_goals (try simp (disch := omega) only [wrap_fits])
                       all_goals first
                         | (refine hK _ _ ?_; exact Red.auto)
                         | exact trivial
                         | assumption
                         | omega
                         | exact wrap_fits (by omega) (by omega)
                         | (simp_all; done)
                         | (simp_all; omega))
                    | (simp_all; done)
                    | (simp_all; omega)
                · clear hr0
                  replace h := bind_some h
                  obtain ⟨y_3, hr0, h⟩ := h
                  try dsimp only at h
                  refine awp_to [(3, .sl 2), (6, .sl 3), (7, .v (.int .u32 (bitsV .andNot .u32 t7_3 y_3))), (10, .sl 4), (11, .v (.int .i64 y_2))] [.row false (.trips a0_1), .glob 0 (.ints .u8 tab0), .row true (.ints .i64 t3s_2), .row true (.ints .u32 y), .row true (.ints .i64 t10s)] ?_ ?_
                  · clear h
                    intro K hK
                    refine awp_region ftCOk ?_
                    simp (maxSteps := 4000000) only [go_sem, Nat.reduceBEq, Nat.reduceLT, Nat.reduceAdd, Nat.reduceLeDiff, Nat.reduceSub, Nat.reduceEqDiff, Int.reduceToNat, reduceCtorEq, ↓reduceIte]
                    repeat' (first | refine And.intro ?_ ?_ | intro hg)
                    all_goals (try simp (disch := omega) only [wrap_fits])
                    all_goals first
                      | (refine hK _ _ ?_; exact Red.auto)
                      | exact trivial
                      | assumption
                      | omega
                      | exact wrap_fits (by omega) (by omega)
                      | (refine wpA_callA (k_impl_maskOf y_2 (h := hr0)) [] [] ?_
                         rintro x Hc' ⟨rfl, rfl⟩ hlen
                         refine vcOps_sound ftCOk ?_
                         simp (maxSteps := 4000000) only [go_sem, Nat.reduceBEq, Nat.reduceLT, Nat.reduceAdd, Nat.reduceLeDiff, Nat.reduceSub, Nat.reduceEqDiff, Int.reduceToNat, reduceCtorEq, ↓reduceIte]
                         repeat' (first | refine And.intro ?_ ?_ | intro hg)
                         all_goals (try simp (disch := omega) only [wrap_fits])
                         all_goals first
                           | (refine hK _ _ ?_; exact Red.auto)
                           | exact trivial
                           | assumption
                           | omega
                           | exact wrap_fits (by omega) (by omega)
                           | (simp_all; done)
                           | (simp_all; omega))
                      | (simp_all; done)
                      | (simp_all; omega)
                  · clear hr0
                    replace h := chk_some h
                    obtain ⟨hp0, h⟩ := h
                    refine awp_reg ftCOk [(3, .sl 2), (6, .sl 3), (7, .v (.int .u32 (bitsV .andNot .u32 t7_3 y_3))), (10, .sl 4), (11, .v (.int .i64 y_2))] [.row false (.trips a0_1), .glob 0 (.ints .u8 tab0), .row true (.ints .i64 t3s_2), .row true (.ints .u32 y), .row true (.ints .i64 (t10s ++ [y_2])), .row true (.ints .i64 [y_2])] ?_
                    clear hp0
                    replace h := chk_some h
                    obtain ⟨hp0, h⟩ := h
                    replace h := bind_some h
                    obtain ⟨y_4, hr1, h⟩ := h
                    try dsimp only at h
                    refine awp_to [(3, .sl 2), (6, .sl 3), (7, .v (.int .u32 (bitsV .andNot .u32 t7_3 y_3))), (10, .sl 4), (64, .sl 6), (65, .v (.int .i64 (y_4.length : Int))), (66, .v (.int .i64 0))] [.row false (.trips a0_1), .glob 0 (.ints .u8 tab0), .row true (.ints .i64 t3s_2), .row true (.ints .u32 y), .row true (.ints .i64 (t10s ++ [y_2])), .row true (.ints .i64 [y_2]), .row true (.ints .i64 y_4)] ?_ ?_
                    · clear h
                      intro K hK
                      refine awp_region ftCOk ?_
                      simp (maxSteps := 4000000) only [go_sem, Nat.reduceBEq, Nat.reduceLT, Nat.reduceAdd, Nat.reduceLeDiff, Nat.reduceSub, Nat.reduceEqDiff, Int.reduceToNat, reduceCtorEq, ↓reduceIte]
                      repeat' (first | refine And.intro ?_ ?_ | intro hg)
                      all_goals (try simp (disch := omega) only [wrap_fits])
                      all_goals first
                        | (refine hK _ _ ?_; exact Red.auto)
                        | exact trivial
                        | assumption
                        | omega
                        | exact wrap_fits (by omega) (by omega)
                        | (refine wpA_callA (k_impl_vertexMask_list (y.getD y_2.toNat 0) (h := hr1)) [1] [] ?_
                           rintro x Hc' ⟨rfl, rfl⟩ hlen
                           refine vcOps_sound ftCOk ?_
                           simp (maxSteps := 4000000) only [go_sem, Nat.reduceBEq, Nat.reduceLT, Nat.reduceAdd, Nat.reduceLeDiff, Nat.reduceSub, Nat.reduceEqDiff, Int.reduceToNat, reduceCtorEq, ↓reduceIte]
                           repeat' (first | refine And.intro ?_ ?_ | intro hg)
                           all_goals (try simp (disch := omega) only [wrap_fits])
                           all_goals first
                             | (refine hK _ _ ?_; exact Red.auto)
                             | exact trivial
                             | assumption
                             | omega
                             | exact wrap_fits (by omega) (by omega)
                             | (simp_all; done)
                             | (simp_all; omega))
                        | (simp_all; done)
                        | (simp_all; omega)
                    · clear hp0 hr1
                      refine awp_block ?_
                      replace h := bind_some h
                      obtain ⟨x214, hx, h⟩ := h
                      refine awp_loopL hx (fun ((t7_4, t66, t3s_3) : Int × Int × List Int) => [(3, .sl 2), (6, .sl 3), (7, .v (.int .u32 t7_4)), (10, .sl 4), (64, .sl 5), (65, .v (.int .i64 (y_4.length : Int))), (66, .v (.int .i64 t66))]) (fun ((t7_4, t66, t3s_3) : Int × Int × List Int) => [.row false (.trips a0_1), .glob 0 (.ints .u8 tab0), .row true (.ints .i64 t3s_3), .row true (.ints .u32 y), .row true (.ints .i64 (t10s ++ [y_2])), .row true (.ints .i64 y_4)]) (fun ((t7_5, t3s_4) : Int × List Int) => Exit.exit 6) (fun ((t7_5, t3s_4) : Int × List Int) => [(3, .sl 2), (6, .sl 3), (7, .v (.int .u32 t7_5)), (10, .sl 4)]) (fun ((t7_5, t3s_4) : Int × List Int) => [.row false (.trips a0_1), .glob 0 (.ints .u8 tab0), .row true (.ints .i64 t3s_4), .row true (.ints .u32 y), .row true (.ints .i64 (t10s ++ [y_2]))]) ?_ ?_ ?_ ?_
                      · rintro ⟨t7_5, t3s_4⟩ hy <;> cases hy
                      · clear h hx
                        exact Red.selA [0, 1, 2, 3, 4, 6] Red.auto
                      · clear h hx
                        rintro ⟨t7_4, t66, t3s_3⟩ r h
                        unfold impl_forward_b2 at h
                        try dsimp only at h
                        try dsimp only
                        refine awp_reg ftCOk [(3, .sl 2), (6, .sl 3), (7, .v (.int .u32 t7_4)), (10, .sl 4), (64, .sl 5), (65, .v (.int .i64 (y_4.length : Int))), (66, .v (.int .i64 t66)), (67, .v (.bool (decide (t66 < (y_4.length : Int)))))] [.row false (.trips a0_1), .glob 0 (.ints .u8 tab0), .row true (.ints .i64 t3s_3), .row true (.ints .u32 y), .row true (.ints .i64 (t10s ++ [y_2])), .row true (.ints .i64 y_4)] ?_
                        refine awp_seq fun K210 hK210 => ?_
                        refine awp_cond (t := 67) rfl (fun hc211 => ?_) (fun hc211 => ?_)
                        · replace h := bite_t h hc211
                          refine awp_skip ?_
                          (try simp only [Thn, InBlk, ↓reduceIte, Nat.reduceEqDiff])
                          refine hK210 _ _ ?_
                          clear hK210
                          refine awp_join h (fun (t7_6 : Int) => [(3, .sl 2), (6, .sl 3), (7, .v (.int .u32 t7_6)), (10, .sl 4), (64, .sl 5), (65, .v (.int .i64 (y_4.length : Int))), (66, .v (.int .i64 t66))]) (fun (t7_6 : Int) => [.row false (.trips a0_1), .glob 0 (.ints .u8 tab0), .row true (.ints .i64 (t3s_3.set ((y_4.getD t66.toNat 0).toNat) ((t3s_3.getD ((y_4.getD t66.toNat 0).toNat) 0) - 1))), .row true (.ints .u32 y), .row true (.ints .i64 (t10s ++ [y_2])), .row true (.ints .i64 y_4)]) ?_ ?_
                          · clear h
                            intro k_1 h
                            try dsimp only at h
                            refine awp_block ?_
                            replace h := chk_some h
                            obtain ⟨hp0, h⟩ := h
                            refine awp_reg ftCOk [(3, .sl 2), (6, .sl 3), (7, .v (.int .u32 t7_4)), (10, .sl 4), (13, .v (.int .i64 (y_4.getD t66.toNat 0))), (64, .sl 5), (65, .v (.int .i64 (y_4.length : Int))), (66, .v (.int .i64 t66))] [.row false (.trips a0_1), .glob 0 (.ints .u8 tab0), .row true (.ints .i64 t3s_3), .row true (.ints .u32 y), .row true (.ints .i64 (t10s ++ [y_2])), .row true (.ints .i64 y_4)] ?_
                            clear hp0
                            replace h := chk_some h
                            obtain ⟨hp0, h⟩ := h
                            replace h := chk_some h
                            obtain ⟨hp1, h⟩ := h
                            have hwhp1 := wrap_fits hp1.1 hp1.2
                            refine awp_reg ftCOk [(3, .sl 2), (6, .sl 3), (7, .v (.int .u32 t7_4)), (10, .sl 4), (13, .v (.int .i64 (y_4.getD t66.toNat 0))), (64, .sl 5), (65, .v (.int .i64 (y_4.length : Int))), (66, .v (.int .i64 t66))] [.row false (.trips a0_1), .glob 0 (.ints .u8 tab0), .row true (.ints .i64 (t3s_3.set ((y_4.getD t66.toNat 0).toNat) ((t3s_3.getD ((y_4.getD t66.toNat 0).toNat) 0) - 1))), .row true (.ints .u32 y), .row true (.ints .i64 (t10s ++ [y_2])), .row true (.ints .i64 y_4)] ?_
                            clear hp0 hp1
                            replace h := chk_some h
                            obtain ⟨hp0, h⟩ := h
                            refine awp_reg ftCOk [(3, .sl 2), (6, .sl 3), (7, .v (.int .u32 t7_4)), (10, .sl 4), (13, .v (.int .i64 (y_4.getD t66.toNat 0))), (64, .sl 5), (65, .v (.int .i64 (y_4.length : Int))), (66, .v (.int .i64 t66)), (80, .v (.bool (((t3s_3.set ((y_4.getD t66.toNat 0).toNat) ((t3s_3.getD ((y_4.getD t66.toNat 0).toNat) 0) - 1)).getD ((y_4.getD t66.toNat 0).toNat) 0) == 0)))] [.row false (.trips a0_1), .glob 0 (.ints .u8 tab0), .row true (.ints .i64 (t3s_3.set ((y_4.getD t66.toNat 0).toNat) ((t3s_3.getD ((y_4.getD t66.toNat 0).toNat) 0) - 1))), .row true (.ints .u32 y), .row true (.ints .i64 (t10s ++ [y_2])), .row true (.ints .i64 y_4)] ?_
                            clear hp0
                            refine awp_cond (t := 80) rfl (fun hc213 => ?_) (fun hc213 => ?_)
                            · replace h := bite_t h hc213
                              replace h := bind_some h
                              obtain ⟨y_5, hr0, h⟩ := h
                              try dsimp only at h
                              refine awp_end [(3, .sl 2), (6, .sl 3), (7, .v (.int .u32 (bitsV .or .u32 t7_4 y_5))), (10, .sl 4), (64, .sl 5), (65, .v (.int .i64 (y_4.length : Int))), (66, .v (.int .i64 t66))] [.row false (.trips a0_1), .glob 0 (.ints .u8 tab0), .row true (.ints .i64 (t3s_3.set ((y_4.getD t66.toNat 0).toNat) ((t3s_3.getD ((y_4.getD t66.toNat 0).toNat) 0) - 1))), .row true (.ints .u32 y), .row true (.ints .i64 (t10s ++ [y_2])), .row true (.ints .i64 y_4)] ?_ ?_
                              · clear h
                                intro K hK
                                refine awp_region ftCOk ?_
                                simp (maxSteps := 4000000) only [go_sem, Nat.reduceBEq, Nat.reduceLT, Nat.reduceAdd, Nat.reduceLeDiff, Nat.reduceSub, Nat.reduceEqDiff, Int.reduceToNat, reduceCtorEq, ↓reduceIte]
                                repeat' (first | refine And.intro ?_ ?_ | intro hg)
                                all_goals (try simp (disch := omega) only [wrap_fits])
                                all_goals first
                                  | (refine hK _ _ ?_; exact Red.auto)
                                  | exact trivial
                                  | assumption
                                  | omega
                                  | exact wrap_fits (by omega) (by omega)
                                  | (refine wpA_callA (k_impl_maskOf (y_4.getD t66.toNat 0) (h := hr0)) [] [] ?_
                                     rintro x Hc' ⟨rfl, rfl⟩ hlen
                                     refine vcOps_sound ftCOk ?_
                                     simp (maxSteps := 4000000) only [go_sem, Nat.reduceBEq, Nat.reduceLT, Nat.reduceAdd, Nat.reduceLeDiff, Nat.reduceSub, Nat.reduceEqDiff, Int.reduceToNat, reduceCtorEq, ↓reduceIte]
                                     repeat' (first | refine And.intro ?_ ?_ | intro hg)
                                     all_goals (try simp (disch := omega) only [wrap_fits])
                                     all_goals first
                                       | (refine hK _ _ ?_; exact Red.auto)
                                       | exact trivial
                                       | assumption
                                       | omega
                                       | exact wrap_fits (by omega) (by omega)
                                       | (simp_all; done)
                                       | (simp_all; omega))
                                  | (simp_all; done)
                                  | (simp_all; omega)
                              · clear hr0
                                (try simp only [Thn, InBlk, ↓reduceIte, Nat.reduceEqDiff])
                                (try simp only [Thn, InBlk, ↓reduceIte, Nat.reduceEqDiff])
                                refine ⟨_, h, ?_⟩
                                exact Red.auto
                            · replace h := bite_f h hc213
                              refine awp_skip ?_
                              (try simp only [Thn, InBlk, ↓reduceIte, Nat.reduceEqDiff])
                              (try simp only [Thn, InBlk, ↓reduceIte, Nat.reduceEqDiff])
                              refine ⟨_, h, ?_⟩
                              exact Red.auto
                          · clear h
                            rintro t7_6 h
                            try dsimp only at h
                            try dsimp only
                            replace h := chk_some h
                            obtain ⟨hp0, h⟩ := h
                            refine awp_regE ftCOk [(3, .sl 2), (6, .sl 3), (7, .v (.int .u32 t7_6)), (10, .sl 4), (64, .sl 5), (65, .v (.int .i64 (y_4.length : Int))), (66, .v (.int .i64 (t66 + 1)))] [.row false (.trips a0_1), .glob 0 (.ints .u8 tab0), .row true (.ints .i64 (t3s_3.set ((y_4.getD t66.toNat 0).toNat) ((t3s_3.getD ((y_4.getD t66.toNat 0).toNat) 0) - 1))), .row true (.ints .u32 y), .row true (.ints .i64 (t10s ++ [y_2])), .row true (.ints .i64 y_4)] ?_
                            clear hp0
                            obtain rfl := Option.some.inj h
                            refine LoopQ.next ?_
                            exact Red.auto
                        · replace h := bite_f h hc211
                          refine awp_exit ?_
                          (try simp only [Thn, InBlk, ↓reduceIte, Nat.reduceEqDiff])
                          obtain rfl := Option.some.inj h
                          refine LoopQ.out rfl ?_
                          exact Red.selA [0, 1, 2, 3, 4] Red.auto
                      · clear hx
                        rcases x214 with ⟨t7_5, t3s_4⟩
                        · try dsimp only [Sum.elim_inl, Sum.elim_inr] at h
                          try dsimp only [Sum.elim_inl, Sum.elim_inr]
                          (try simp only [Thn, InBlk, ↓reduceIte, Nat.reduceEqDiff])
                          (try simp only [Thn, InBlk, ↓reduceIte, Nat.reduceEqDiff])
                          (try simp only [Thn, InBlk, ↓reduceIte, Nat.reduceEqDiff])
                          obtain rfl := Option.some.inj h
                          refine LoopQ.next ?_
                          exact Red.auto
              · replace h := bite_f h hc198
                refine awp_exit ?_
                (try simp only [Thn, InBlk, ↓reduceIte, Nat.reduceEqDiff])
                obtain rfl := Option.some.inj h
                refine LoopQ.out rfl ?_
                exact Red.selA [0, 1, 4] Red.auto
            · clear hx
              skip
              · try dsimp only [Sum.elim_inl, Sum.elim_inr] at h
                try dsimp only [Sum.elim_inl, Sum.elim_inr]
                (try simp only [Thn, InBlk, ↓reduceIte, Nat.reduceEqDiff])
                (try simp only [Thn, InBlk, ↓reduceIte, Nat.reduceEqDiff])
                (try simp only [Thn, InBlk, ↓reduceIte, Nat.reduceEqDiff])
                refine hK138 _ _ ?_
                clear hK138
                refine awp_reg ftCOk [(2, .sl 2)] [.row false (.trips a0_1), .glob 0 (.ints .u8 tab0), .row true (.ints .i64 t10s_1)] ?_
                refine awp_ret ?_
                (try simp only [Thn, InBlk, ↓reduceIte, Nat.reduceEqDiff])
                obtain rfl := Option.some.inj h
                refine ⟨by simp, _, [0, 1, 2], (by simp only [go_sem, Nat.reduceBEq, Nat.reduceLT, Nat.reduceAdd, Nat.reduceLeDiff, Nat.reduceSub, Nat.reduceEqDiff, Int.reduceToNat, reduceCtorEq, ↓reduceIte]; exact rfl), ?_, ?_, ?_, ?_⟩
                · first | exact trivial | exact ⟨trivial, trivial⟩ | exact ⟨trivial, trivial, trivial⟩ | exact ⟨trivial, trivial, trivial, trivial⟩ | (simp only [allP, and_true, true_and]; done) | (simp only [allP, and_true, true_and]; omega)
                · simp [selOk, pos]
                · simp
                · first | exact ⟨rfl, rfl⟩ | (simp only [go_sem, Nat.reduceBEq, Nat.reduceLT, Nat.reduceAdd, Nat.reduceLeDiff, Nat.reduceSub, Nat.reduceEqDiff, Int.reduceToNat, reduceCtorEq, ↓reduceIte]; done) | (simp [go_sem, Nat.reduceBEq, Nat.reduceLT, Nat.reduceAdd, Nat.reduceLeDiff, Nat.reduceSub, Nat.reduceEqDiff, Int.reduceToNat, reduceCtorEq, ↓reduceIte]; done) | (simp only [go_sem, Nat.reduceBEq, Nat.reduceLT, Nat.reduceAdd, Nat.reduceLeDiff, Nat.reduceSub, Nat.reduceEqDiff, Int.reduceToNat, reduceCtorEq, ↓reduceIte]; exact ⟨rfl, rfl⟩) | (simp_all [go_sem, Nat.reduceBEq, Nat.reduceLT, Nat.reduceAdd, Nat.reduceLeDiff, Nat.reduceSub, Nat.reduceEqDiff, Int.reduceToNat, reduceCtorEq, ↓reduceIte]; done)
theorem k_impl_ForwardOrder (a0_0 : Int) (a0_1 : List (Int × Int × Int)) {r : List Int × Bool} (h : impl_ForwardOrder a0_0 a0_1 = some r) :
    FnA Tryd.prog 24 [.agg [.v (.int .i64 a0_0), .sl 0]] [.row false (.trips a0_1), .glob 0 (.ints .u8 tab0)] [] (fun x H => x = .tup [.sl 2, .v (.bool r.2)] ∧ H = [.row false (.trips a0_1), .glob 0 (.ints .u8 tab0), .row true (.ints .i64 r.1)]) := by
  unfold impl_ForwardOrder at h
  refine FnA.of (N := 16) (pin := [0, 1]) (rs := [.tmp 2, .tmp 3]) Tryd.func24 rfl en24 rfl rfl (by simp) (by simp; try omega) ?_
  refine awp_reg ftCOk [(1, .pp 2 0)] [.row false (.trips a0_1), .glob 0 (.ints .u8 tab0), .box [.v (.int .i64 a0_0), .sl 0]] ?_
  refine awp_freeze 1 (by rfl) (by rfl) (by exact rfl) ?_
  refine awp_seq fun K2 hK2 => ?_
  replace h := bind_some h
  obtain ⟨y, hr0, h⟩ := h
  try dsimp only at h
  refine awp_to [(1, .pp 2 0), (7, .v (.bool (!y)))] [.row false (.trips a0_1), .glob 0 (.ints .u8 tab0), .rbox [.v (.int .i64 a0_0), .sl 0]] ?_ ?_
  · clear h
    intro K hK
    refine awp_region ftCOk ?_
    simp (maxSteps := 4000000) only [go_sem, Nat.reduceBEq, Nat.reduceLT, Nat.reduceAdd, Nat.reduceLeDiff, Nat.reduceSub, Nat.reduceEqDiff, Int.reduceToNat, reduceCtorEq, ↓reduceIte]
    repeat' (first | refine And.intro ?_ ?_ | intro hg)
    all_goals (try simp (disch := omega) only [wrap_fits])
    all_goals first
      | (refine hK _ _ ?_; exact Red.auto)
      | exact trivial
      | assumption
      | omega
      | exact wrap_fits (by omega) (by omega)
      | (refine wpA_callA (k_impl_GraphValid a0_0 a0_1 (h := hr0)) [0] [] ?_
         rintro x Hc' ⟨rfl, rfl⟩ hlen
         refine vcOps_sound ftCOk ?_
         simp (maxSteps := 4000000) only [go_sem, Nat.reduceBEq, Nat.reduceLT, Nat.reduceAdd, Nat.reduceLeDiff, Nat.reduceSub, Nat.reduceEqDiff, Int.reduceToNat, reduceCtorEq, ↓reduceIte]
         repeat' (first | refine And.intro ?_ ?_ | intro hg)
         all_goals (try simp (disch := omega) only [wrap_fits])
         all_goals first
           | (refine hK _ _ ?_; exact Red.auto)
           | exact trivial
           | assumption
           | omega
           | exact wrap_fits (by omega) (by omega)
           | (simp_all; done)
           | (simp_all; omega))
      | (simp_all; done)
      | (simp_all; omega)
  · clear hr0
    refine awp_cond (t := 7) rfl (fun hc3 => ?_) (fun hc3 => ?_)
    · replace h := bite_t h hc3
      refine awp_reg ftCOk [(2, .v (.slice none 0 0)), (3, .v (.bool false))] [.row false (.trips a0_1), .glob 0 (.ints .u8 tab0), .rbox [.v (.int .i64 a0_0), .sl 0]] ?_
      refine awp_red (Red.nil (t := 2) (.ints .i64 []) rfl rfl) ?_
      refine awp_ret ?_
      (try simp only [Thn, InBlk, ↓reduceIte, Nat.reduceEqDiff])
      obtain rfl := Option.some.inj h
      refine ⟨by simp, _, [0, 1, 3], (by simp only [go_sem, Nat.reduceBEq, Nat.reduceLT, Nat.reduceAdd, Nat.reduceLeDiff, Nat.reduceSub, Nat.reduceEqDiff, Int.reduceToNat, reduceCtorEq, ↓reduceIte]; exact rfl), ?_, ?_, ?_, ?_⟩
      · first | exact trivial | exact ⟨trivial, trivial⟩ | exact ⟨trivial, trivial, trivial⟩ | exact ⟨trivial, trivial, trivial, trivial⟩ | (simp only [allP, and_true, true_and]; done) | (simp only [allP, and_true, true_and]; omega)
      · simp [selOk, pos]
      · simp
      · first | exact ⟨rfl, rfl⟩ | (simp only [go_sem, Nat.reduceBEq, Nat.reduceLT, Nat.reduceAdd, Nat.reduceLeDiff, Nat.reduceSub, Nat.reduceEqDiff, Int.reduceToNat, reduceCtorEq, ↓reduceIte]; done) | (simp [go_sem, Nat.reduceBEq, Nat.reduceLT, Nat.reduceAdd, Nat.reduceLeDiff, Nat.reduceSub, Nat.reduceEqDiff, Int.reduceToNat, reduceCtorEq, ↓reduceIte]; done) | (simp only [go_sem, Nat.reduceBEq, Nat.reduceLT, Nat.reduceAdd, Nat.reduceLeDiff, Nat.reduceSub, Nat.reduceEqDiff, Int.reduceToNat, reduceCtorEq, ↓reduceIte]; exact ⟨rfl, rfl⟩) | (simp_all [go_sem, Nat.reduceBEq, Nat.reduceLT, Nat.reduceAdd, Nat.reduceLeDiff, Nat.reduceSub, Nat.reduceEqDiff, Int.reduceToNat, reduceCtorEq, ↓reduceIte]; done)
    · replace h := bite_f h hc3
      refine awp_skip ?_
      (try simp only [Thn, InBlk, ↓reduceIte, Nat.reduceEqDiff])
      refine hK2 _ _ ?_
      clear hK2
      replace h := bind_some h
      obtain ⟨y_1, hr0, h⟩ := h
      try dsimp only at h
      refine awp_to [(1, .pp 2 0), (4, .sl 3)] [.row false (.trips a0_1), .glob 0 (.ints .u8 tab0), .rbox [.v (.int .i64 a0_0), .sl 0], .row true (.ints .i64 y_1)] ?_ ?_
      · clear h
        intro K hK
        refine awp_region ftCOk ?_
        simp (maxSteps := 4000000) only [go_sem, Nat.reduceBEq, Nat.reduceLT, Nat.reduceAdd, Nat.reduceLeDiff, Nat.reduceSub, Nat.reduceEqDiff, Int.reduceToNat, reduceCtorEq, ↓reduceIte]
        repeat' (first | refine And.intro ?_ ?_ | intro hg)
        all_goals (try simp (disch := omega) only [wrap_fits])
        all_goals first
          | (refine hK _ _ ?_; exact Red.auto)
          | exact trivial
          | assumption
          | omega
          | exact wrap_fits (by omega) (by omega)
          | (refine wpA_callA (k_impl_forward a0_0 a0_1 (h := hr0)) [0, 1] [] ?_
             rintro x Hc' ⟨rfl, rfl⟩ hlen
             refine vcOps_sound ftCOk ?_
             simp (maxSteps := 4000000) only [go_sem, Nat.reduceBEq, Nat.reduceLT, Nat.reduceAdd, Nat.reduceLeDiff, Nat.reduceSub, Nat.reduceEqDiff, Int.reduceToNat, reduceCtorEq, ↓reduceIte]
             repeat' (first | refine And.intro ?_ ?_ | intro hg)
             all_goals (try simp (disch := omega) only [wrap_fits])
             all_goals first
               | (refine hK _ _ ?_; exact Red.auto)
               | exact trivial
               | assumption
               | omega
               | exact wrap_fits (by omega) (by omega)
               | (simp_all; done)
               | (simp_all; omega))
          | (simp_all; done)
          | (simp_all; omega)
      · clear hr0
        refine awp_seq fun K5 hK5 => ?_
        refine awp_reg ftCOk [(4, .sl 3), (14, .v (.bool (decide ((y_1.length : Int) < a0_0))))] [.row false (.trips a0_1), .glob 0 (.ints .u8 tab0), .rbox [.v (.int .i64 a0_0), .sl 0], .row true (.ints .i64 y_1)] ?_
        refine awp_cond (t := 14) rfl (fun hc6 => ?_) (fun hc6 => ?_)
        · replace h := bite_t h hc6
          refine awp_reg ftCOk [(2, .v (.slice none 0 0)), (3, .v (.bool false))] [.row false (.trips a0_1), .glob 0 (.ints .u8 tab0), .rbox [.v (.int .i64 a0_0), .sl 0], .row true (.ints .i64 y_1)] ?_
          refine awp_red (Red.nil (t := 2) (.ints .i64 []) rfl rfl) ?_
          refine awp_ret ?_
          (try simp only [Thn, InBlk, ↓reduceIte, Nat.reduceEqDiff])
          obtain rfl := Option.some.inj h
          refine ⟨by simp, _, [0, 1, 4], (by simp only [go_sem, Nat.reduceBEq, Nat.reduceLT, Nat.reduceAdd, Nat.reduceLeDiff, Nat.reduceSub, Nat.reduceEqDiff, Int.reduceToNat, reduceCtorEq, ↓reduceIte]; exact rfl), ?_, ?_, ?_, ?_⟩
          · first | exact trivial | exact ⟨trivial, trivial⟩ | exact ⟨trivial, trivial, trivial⟩ | exact ⟨trivial, trivial, trivial, trivial⟩ | (simp only [allP, and_true, true_and]; done) | (simp only [allP, and_true, true_and]; omega)
          · simp [selOk, pos]
          · simp
          · first | exact ⟨rfl, rfl⟩ | (simp only [go_sem, Nat.reduceBEq, Nat.reduceLT, Nat.reduceAdd, Nat.reduceLeDiff, Nat.reduceSub, Nat.reduceEqDiff, Int.reduceToNat, reduceCtorEq, ↓reduceIte]; done) | (simp [go_sem, Nat.reduceBEq, Nat.reduceLT, Nat.reduceAdd, Nat.reduceLeDiff, Nat.reduceSub, Nat.reduceEqDiff, Int.reduceToNat, reduceCtorEq, ↓reduceIte]; done) | (simp only [go_sem, Nat.reduceBEq, Nat.reduceLT, Nat.reduceAdd, Nat.reduceLeDiff, Nat.reduceSub, Nat.reduceEqDiff, Int.reduceToNat, reduceCtorEq, ↓reduceIte]; exact ⟨rfl, rfl⟩) | (simp_all [go_sem, Nat.reduceBEq, Nat.reduceLT, Nat.reduceAdd, Nat.reduceLeDiff, Nat.reduceSub, Nat.reduceEqDiff, Int.reduceToNat, reduceCtorEq, ↓reduceIte]; done)
        · replace h := bite_f h hc6
          refine awp_skip ?_
          (try simp only [Thn, InBlk, ↓reduceIte, Nat.reduceEqDiff])
          refine hK5 _ _ ?_
          clear hK5
          refine awp_reg ftCOk [(2, .sl 3), (3, .v (.bool true))] [.row false (.trips a0_1), .glob 0 (.ints .u8 tab0), .rbox [.v (.int .i64 a0_0), .sl 0], .row true (.ints .i64 y_1)] ?_
          refine awp_ret ?_
          (try simp only [Thn, InBlk, ↓reduceIte, Nat.reduceEqDiff])
          obtain rfl := Option.some.inj h
          refine ⟨by simp, _, [0, 1, 3], (by simp only [go_sem, Nat.reduceBEq, Nat.reduceLT, Nat.reduceAdd, Nat.reduceLeDiff, Nat.reduceSub, Nat.reduceEqDiff, Int.reduceToNat, reduceCtorEq, ↓reduceIte]; exact rfl), ?_, ?_, ?_, ?_⟩
          · first | exact trivial | exact ⟨trivial, trivial⟩ | exact ⟨trivial, trivial, trivial⟩ | exact ⟨trivial, trivial, trivial, trivial⟩ | (simp only [allP, and_true, true_and]; done) | (simp only [allP, and_true, true_and]; omega)
          · simp [selOk, pos]
          · simp
          · first | exact ⟨rfl, rfl⟩ | (simp only [go_sem, Nat.reduceBEq, Nat.reduceLT, Nat.reduceAdd, Nat.reduceLeDiff, Nat.reduceSub, Nat.reduceEqDiff, Int.reduceToNat, reduceCtorEq, ↓reduceIte]; done) | (simp [go_sem, Nat.reduceBEq, Nat.reduceLT, Nat.reduceAdd, Nat.reduceLeDiff, Nat.reduceSub, Nat.reduceEqDiff, Int.reduceToNat, reduceCtorEq, ↓reduceIte]; done) | (simp only [go_sem, Nat.reduceBEq, Nat.reduceLT, Nat.reduceAdd, Nat.reduceLeDiff, Nat.reduceSub, Nat.reduceEqDiff, Int.reduceToNat, reduceCtorEq, ↓reduceIte]; exact ⟨rfl, rfl⟩) | (simp_all [go_sem, Nat.reduceBEq, Nat.reduceLT, Nat.reduceAdd, Nat.reduceLeDiff, Nat.reduceSub, Nat.reduceEqDiff, Int.reduceToNat, reduceCtorEq, ↓reduceIte]; done)
theorem k_slices_Clone_impl_Edge_impl_Edge (a0 : List (Int × Int × Int)) {r : (List (Int × Int × Int))} (h : slices_Clone_impl_Edge_impl_Edge a0 = some r) :
    FnA Tryd.prog 63 [.sl 0] [.row false (.trips a0)] [] (fun x H => x = .sl 1 ∧ H = [.row false (.trips a0), .row true (.trips r)]) := by
  unfold slices_Clone_impl_Edge_impl_Edge at h
  refine FnA.of (N := 8) (pin := [0]) (rs := [.tmp 2]) Tryd.func63 rfl en63 rfl rfl (by simp) (by simp; try omega) ?_
  refine awp_reg ftCOk [(0, .sl 0)] [.row false (.trips a0)] ?_
  refine awp_seq fun K2 hK2 => ?_
  have hboth := both_some h
  refine awp_isnil (by rfl) (by rfl) Tryd.underlying23 rfl rfl fun b hb => ?_
  replace h := hboth b hb
  clear hboth
  refine awp_cond (t := 4) rfl (fun hc3 => ?_) (fun hc3 => ?_)
  · replace h := bite_t h hc3
    refine awp_reg ftCOk [(2, .v (.slice none 0 0))] [.row false (.trips a0)] ?_
    refine awp_red (Red.nil (t := 2) (.trips []) rfl rfl) ?_
    refine awp_ret ?_
    (try simp only [Thn, InBlk, ↓reduceIte, Nat.reduceEqDiff])
    obtain rfl := Option.some.inj h
    refine ⟨by simp, _, [0, 1], (by simp only [go_sem, Nat.reduceBEq, Nat.reduceLT, Nat.reduceAdd, Nat.reduceLeDiff, Nat.reduceSub, Nat.reduceEqDiff, Int.reduceToNat, reduceCtorEq, ↓reduceIte]; exact rfl), ?_, ?_, ?_, ?_⟩
    · first | exact trivial | exact ⟨trivial, trivial⟩ | exact ⟨trivial, trivial, trivial⟩ | exact ⟨trivial, trivial, trivial, trivial⟩ | (simp only [allP, and_true, true_and]; done) | (simp only [allP, and_true, true_and]; omega)
    · simp [selOk, pos]
    · simp
    · first | exact ⟨rfl, rfl⟩ | (simp only [go_sem, Nat.reduceBEq, Nat.reduceLT, Nat.reduceAdd, Nat.reduceLeDiff, Nat.reduceSub, Nat.reduceEqDiff, Int.reduceToNat, reduceCtorEq, ↓reduceIte]; done) | (simp [go_sem, Nat.reduceBEq, Nat.reduceLT, Nat.reduceAdd, Nat.reduceLeDiff, Nat.reduceSub, Nat.reduceEqDiff, Int.reduceToNat, reduceCtorEq, ↓reduceIte]; done) | (simp only [go_sem, Nat.reduceBEq, Nat.reduceLT, Nat.reduceAdd, Nat.reduceLeDiff, Nat.reduceSub, Nat.reduceEqDiff, Int.reduceToNat, reduceCtorEq, ↓reduceIte]; exact ⟨rfl, rfl⟩) | (simp_all [go_sem, Nat.reduceBEq, Nat.reduceLT, Nat.reduceAdd, Nat.reduceLeDiff, Nat.reduceSub, Nat.reduceEqDiff, Int.reduceToNat, reduceCtorEq, ↓reduceIte]; done)
  · replace h := bite_f h hc3
    refine awp_skip ?_
    (try simp only [Thn, InBlk, ↓reduceIte, Nat.reduceEqDiff])
    refine hK2 _ _ ?_
    clear hK2
    replace h := chk_some h
    obtain ⟨hp0, h⟩ := h
    refine awp_reg ftCOk [(2, .sl 1)] [.row false (.trips a0), .row true (.trips ([] ++ a0))] ?_
    clear hp0
    refine awp_ret ?_
    (try simp only [Thn, InBlk, ↓reduceIte, Nat.reduceEqDiff])
    obtain rfl := Option.some.inj h
    refine ⟨by simp, _, [0, 1], (by simp only [go_sem, Nat.reduceBEq, Nat.reduceLT, Nat.reduceAdd, Nat.reduceLeDiff, Nat.reduceSub, Nat.reduceEqDiff, Int.reduceToNat, reduceCtorEq, ↓reduceIte]; exact rfl), ?_, ?_, ?_, ?_⟩
    · first | exact trivial | exact ⟨trivial, trivial⟩ | exact ⟨trivial, trivial, trivial⟩ | exact ⟨trivial, trivial, trivial, trivial⟩ | (simp only [allP, and_true, true_and]; done) | (simp only [allP, and_true, true_and]; omega)
    · simp [selOk, pos]
    · simp
    · first | exact ⟨rfl, rfl⟩ | (simp only [go_sem, Nat.reduceBEq, Nat.reduceLT, Nat.reduceAdd, Nat.reduceLeDiff, Nat.reduceSub, Nat.reduceEqDiff, Int.reduceToNat, reduceCtorEq, ↓reduceIte]; done) | (simp [go_sem, Nat.reduceBEq, Nat.reduceLT, Nat.reduceAdd, Nat.reduceLeDiff, Nat.reduceSub, Nat.reduceEqDiff, Int.reduceToNat, reduceCtorEq, ↓reduceIte]; done) | (simp only [go_sem, Nat.reduceBEq, Nat.reduceLT, Nat.reduceAdd, Nat.reduceLeDiff, Nat.reduceSub, Nat.reduceEqDiff, Int.reduceToNat, reduceCtorEq, ↓reduceIte]; exact ⟨rfl, rfl⟩) | (simp_all [go_sem, Nat.reduceBEq, Nat.reduceLT, Nat.reduceAdd, Nat.reduceLeDiff, Nat.reduceSub, Nat.reduceEqDiff, Int.reduceToNat, reduceCtorEq, ↓reduceIte]; done)
theorem k_impl_Graph_copied (a0_0 : Int) (a0_1 : List (Int × Int × Int)) {r : Int × (List (Int × Int × Int))} (h : impl_Graph_copied a0_0 a0_1 = some r) :
    FnA Tryd.prog 43 [.agg [.v (.int .i64 a0_0), .sl 0]] [.row false (.trips a0_1)] [] (fun x H => x = .agg [.v (.int .i64 r.1), .sl 1] ∧ H = [.row false (.trips a0_1), .row true (.trips r.2)]) := by
  unfold impl_Graph_copied at h
  refine FnA.of (N := 9) (pin := [0]) (rs := [.cell 2 25]) Tryd.func43 rfl en43 rfl rfl (by simp) (by simp; try omega) ?_
  refine awp_reg ftCOk [(1, .pp 1 0), (2, .pp 2 0)] [.row false (.trips a0_1), .box [.v (.int .i64 a0_0), .sl 0], .box [.v (.int .i64 0), .v (.slice none 0 0)]] ?_
  refine awp_freeze 1 (by rfl) (by rfl) (by exact rfl) ?_
  replace h := bind_some h
  obtain ⟨y, hr0, h⟩ := h
  try dsimp only at h
  refine awp_to [(2, .pp 2 0)] [.row false (.trips a0_1), .rbox [.v (.int .i64 a0_0), .sl 0], .box [.v (.int .i64 a0_0), .sl 3], .row true (.trips y)] ?_ ?_
  · clear h
    intro K hK
    refine awp_drawT mixed ftCOk (.free 0 (.free 2 (.free 1 (.one 3 (.one 4 (.one 5 (.one 6 .fin))))))) (by kernel_rfl) (by simp) ?_
    simp (maxSteps := 4000000) only [go_sem, Nat.reduceBEq, Nat.reduceLT, Nat.reduceAdd, Nat.reduceLeDiff, Nat.reduceSub, Nat.reduceEqDiff, Int.reduceToNat, reduceCtorEq, ↓reduceIte]
    repeat' (first | refine And.intro ?_ ?_ | intro hg)
    all_goals (try simp (disch := omega) only [wrap_fits])
    all_goals first
      | (refine hK _ _ ?_; exact Red.auto)
      | exact trivial
      | assumption
      | omega
      | exact wrap_fits (by omega) (by omega)
      | (refine OpK_callA (k_slices_Clone_impl_Edge_impl_Edge a0_1 (h := hr0)) [0] [] ?_
         rintro x Hc' ⟨rfl, rfl⟩ hlen
         simp (maxSteps := 4000000) only [go_sem, Nat.reduceBEq, Nat.reduceLT, Nat.reduceAdd, Nat.reduceLeDiff, Nat.reduceSub, Nat.reduceEqDiff, Int.reduceToNat, reduceCtorEq, ↓reduceIte]
         repeat' (first | refine And.intro ?_ ?_ | intro hg)
         all_goals (try simp (disch := omega) only [wrap_fits])
         all_goals first
           | (refine hK _ _ ?_; exact Red.auto)
           | exact trivial
           | assumption
           | omega
           | exact wrap_fits (by omega) (by omega)
           | (simp (maxSteps := 4000000) only [go_sem, Nat.reduceBEq, Nat.reduceLT, Nat.reduceAdd, Nat.reduceLeDiff, Nat.reduceSub, Nat.reduceEqDiff, Int.reduceToNat, reduceCtorEq, ↓reduceIte]
              repeat' (first | refine And.intro ?_ ?_ | intro hg)
              all_goals (try simp (disch := omega) only [wrap_fits])
              all_goals first | (refine hK _ _ ?_; exact Red.auto) | exact trivial | assumption | omega | exact wrap_fits (by omega) (by omega))
           | (simp_all; done)
           | (simp_all; omega))
      | (simp_all; done)
      | (simp_all; omega)
  · clear hr0
    refine awp_ret ?_
    (try simp only [Thn, InBlk, ↓reduceIte, Nat.reduceEqDiff])
    obtain rfl := Option.some.inj h
    refine ⟨by simp, _, [0, 3], (by simp only [go_sem, Nat.reduceBEq, Nat.reduceLT, Nat.reduceAdd, Nat.reduceLeDiff, Nat.reduceSub, Nat.reduceEqDiff, Int.reduceToNat, reduceCtorEq, ↓reduceIte]; exact rfl), ?_, ?_, ?_, ?_⟩
    · first | exact trivial | exact ⟨trivial, trivial⟩ | exact ⟨trivial, trivial, trivial⟩ | exact ⟨trivial, trivial, trivial, trivial⟩ | (simp only [allP, and_true, true_and]; done) | (simp only [allP, and_true, true_and]; omega)
    · simp [selOk, pos]
    · simp
    · first | exact ⟨rfl, rfl⟩ | (simp only [go_sem, Nat.reduceBEq, Nat.reduceLT, Nat.reduceAdd, Nat.reduceLeDiff, Nat.reduceSub, Nat.reduceEqDiff, Int.reduceToNat, reduceCtorEq, ↓reduceIte]; done) | (simp [go_sem, Nat.reduceBEq, Nat.reduceLT, Nat.reduceAdd, Nat.reduceLeDiff, Nat.reduceSub, Nat.reduceEqDiff, Int.reduceToNat, reduceCtorEq, ↓reduceIte]; done) | (simp only [go_sem, Nat.reduceBEq, Nat.reduceLT, Nat.reduceAdd, Nat.reduceLeDiff, Nat.reduceSub, Nat.reduceEqDiff, Int.reduceToNat, reduceCtorEq, ↓reduceIte]; exact ⟨rfl, rfl⟩) | (simp_all [go_sem, Nat.reduceBEq, Nat.reduceLT, Nat.reduceAdd, Nat.reduceLeDiff, Nat.reduceSub, Nat.reduceEqDiff, Int.reduceToNat, reduceCtorEq, ↓reduceIte]; done)
theorem k_slices_SortFunc__impl_compareEnds (a0 : List (Int × Int × Int)) {r : List (Int × Int × Int)} (h : slices_SortFunc__impl_compareEnds a0 = some r) :
    FnA Tryd.prog 44 [.sl 0, .v (.func (.func 45) #[] #[])] [.row true (.trips a0)] [] (fun x H => x = .tup [] ∧ H = [.row true (.trips r)]) := by
  unfold slices_SortFunc__impl_compareEnds at h
  obtain ⟨h1, h⟩ := chk_some h
  simp only [Option.some.injEq] at h
  subst h
  exact sortFunc_trips Go.Proofs.sortL Tryd.isAgg51 Tryd.sizeOf51 endsC endsSWO rfl en44 en45 (fun x y W => cmpEndsP.calls [.agg (encT x).toArray, .agg (encT y).toArray] True _ rfl trivial W) a0 h1
theorem k_impl_TurnGraph (a0_0 : Int) (a0_1 : List (Int × Int × Int)) {r : Int × (List (Int × Int × Int))} (h : impl_TurnGraph a0_0 a0_1 = some r) :
    FnA Tryd.prog 14 [.agg [.v (.int .i64 a0_0), .sl 0]] [.row false (.trips a0_1)] [] (fun x H => x = .agg [.v (.int .i64 r.1), .sl 1] ∧ H = [.row false (.trips a0_1), .row true (.trips r.2)]) := by
  unfold impl_TurnGraph at h
  refine FnA.of (N := 36) (pin := [0]) (rs := [.cell 2 25]) Tryd.func14 rfl en14 rfl rfl (by simp) (by simp; try omega) ?_
  refine awp_reg ftCOk [(1, .pp 1 0), (2, .pp 2 0)] [.row false (.trips a0_1), .box [.v (.int .i64 a0_0), .sl 0], .box [.v (.int .i64 0), .v (.slice none 0 0)]] ?_
  refine awp_freeze 1 (by rfl) (by rfl) (by exact rfl) ?_
  refine awp_seq fun K2 hK2 => ?_
  replace h := bind_some h
  obtain ⟨y, hr0, h⟩ := h
  try dsimp only at h
  refine awp_to [(1, .pp 1 0), (2, .pp 2 0), (8, .v (.bool (!y)))] [.row false (.trips a0_1), .rbox [.v (.int .i64 a0_0), .sl 0], .box [.v (.int .i64 0), .v (.slice none 0 0)]] ?_ ?_
  · clear h
    intro K hK
    refine awp_region ftCOk ?_
    simp (maxSteps := 4000000) only [go_sem, Nat.reduceBEq, Nat.reduceLT, Nat.reduceAdd, Nat.reduceLeDiff, Nat.reduceSub, Nat.reduceEqDiff, Int.reduceToNat, reduceCtorEq, ↓reduceIte]
    repeat' (first | refine And.intro ?_ ?_ | intro hg)
    all_goals (try simp (disch := omega) only [wrap_fits])
    all_goals first
      | (refine hK _ _ ?_; exact Red.auto)
      | exact trivial
      | assumption
      | omega
      | exact wrap_fits (by omega) (by omega)
      | (refine wpA_callA (k_impl_GraphValid a0_0 a0_1 (h := hr0)) [0] [] ?_
         rintro x Hc' ⟨rfl, rfl⟩ hlen
         refine vcOps_sound ftCOk ?_
         simp (maxSteps := 4000000) only [go_sem, Nat.reduceBEq, Nat.reduceLT, Nat.reduceAdd, Nat.reduceLeDiff, Nat.reduceSub, Nat.reduceEqDiff, Int.reduceToNat, reduceCtorEq, ↓reduceIte]
         repeat' (first | refine And.intro ?_ ?_ | intro hg)
         all_goals (try simp (disch := omega) only [wrap_fits])
         all_goals first
           | (refine hK _ _ ?_; exact Red.auto)
           | exact trivial
           | assumption
           | omega
           | exact wrap_fits (by omega) (by omega)
           | (simp_all; done)
           | (simp_all; omega))
      | (simp_all; done)
      | (simp_all; omega)
  · clear hr0
    refine awp_cond (t := 8) rfl (fun hc3 => ?_) (fun hc3 => ?_)
    · replace h := bite_t h hc3
      refine awp_reg ftCOk [(2, .pp 2 0)] [.row false (.trips a0_1), .rbox [.v (.int .i64 a0_0), .sl 0], .box [.v (.int .i64 0), .v (.slice none 0 0)]] ?_
      refine awp_red (Red.nilCell (o := 2) (i := 1) (.trips []) rfl rfl rfl) ?_
      refine awp_ret ?_
      (try simp only [Thn, InBlk, ↓reduceIte, Nat.reduceEqDiff])
      obtain rfl := Option.some.inj h
      refine ⟨by simp, _, [0, 3], (by simp only [go_sem, Nat.reduceBEq, Nat.reduceLT, Nat.reduceAdd, Nat.reduceLeDiff, Nat.reduceSub, Nat.reduceEqDiff, Int.reduceToNat, reduceCtorEq, ↓reduceIte]; exact rfl), ?_, ?_, ?_, ?_⟩
      · first | exact trivial | exact ⟨trivial, trivial⟩ | exact ⟨trivial, trivial, trivial⟩ | exact ⟨trivial, trivial, trivial, trivial⟩ | (simp only [allP, and_true, true_and]; done) | (simp only [allP, and_true, true_and]; omega)
      · simp [selOk, pos]
      · simp
      · first | exact ⟨rfl, rfl⟩ | (simp only [go_sem, Nat.reduceBEq, Nat.reduceLT, Nat.reduceAdd, Nat.reduceLeDiff, Nat.reduceSub, Nat.reduceEqDiff, Int.reduceToNat, reduceCtorEq, ↓reduceIte]; done) | (simp [go_sem, Nat.reduceBEq, Nat.reduceLT, Nat.reduceAdd, Nat.reduceLeDiff, Nat.reduceSub, Nat.reduceEqDiff, Int.reduceToNat, reduceCtorEq, ↓reduceIte]; done) | (simp only [go_sem, Nat.reduceBEq, Nat.reduceLT, Nat.reduceAdd, Nat.reduceLeDiff, Nat.reduceSub, Nat.reduceEqDiff, Int.reduceToNat, reduceCtorEq, ↓reduceIte]; exact ⟨rfl, rfl⟩) | (simp_all [go_sem, Nat.reduceBEq, Nat.reduceLT, Nat.reduceAdd, Nat.reduceLeDiff, Nat.reduceSub, Nat.reduceEqDiff, Int.reduceToNat, reduceCtorEq, ↓reduceIte]; done)
    · replace h := bite_f h hc3
      refine awp_skip ?_
      (try simp only [Thn, InBlk, ↓reduceIte, Nat.reduceEqDiff])
      refine hK2 _ _ ?_
      clear hK2
      replace h := bind_some h
      obtain ⟨⟨y_1, y_2⟩, hr0, h⟩ := h
      try dsimp only at h
      refine awp_to [(2, .pp 2 0), (3, .pp 4 0)] [.row false (.trips a0_1), .rbox [.v (.int .i64 a0_0), .sl 0], .box [.v (.int .i64 0), .v (.slice none 0 0)], .row true (.trips y_2), .box [.v (.int .i64 y_1), .sl 3]] ?_ ?_
      · clear h
        intro K hK
        refine awp_region ftCOk ?_
        simp (maxSteps := 4000000) only [go_sem, Nat.reduceBEq, Nat.reduceLT, Nat.reduceAdd, Nat.reduceLeDiff, Nat.reduceSub, Nat.reduceEqDiff, Int.reduceToNat, reduceCtorEq, ↓reduceIte]
        repeat' (first | refine And.intro ?_ ?_ | intro hg)
        all_goals (try simp (disch := omega) only [wrap_fits])
        all_goals first
          | (refine hK _ _ ?_; exact Red.auto)
          | exact trivial
          | assumption
          | omega
          | exact wrap_fits (by omega) (by omega)
          | (refine wpA_callA (k_impl_Graph_copied a0_0 a0_1 (h := hr0)) [0] [] ?_
             rintro x Hc' ⟨rfl, rfl⟩ hlen
             refine vcOps_sound ftCOk ?_
             simp (maxSteps := 4000000) only [go_sem, Nat.reduceBEq, Nat.reduceLT, Nat.reduceAdd, Nat.reduceLeDiff, Nat.reduceSub, Nat.reduceEqDiff, Int.reduceToNat, reduceCtorEq, ↓reduceIte]
             repeat' (first | refine And.intro ?_ ?_ | intro hg)
             all_goals (try simp (disch := omega) only [wrap_fits])
             all_goals first
               | (refine hK _ _ ?_; exact Red.auto)
               | exact trivial
               | assumption
               | omega
               | exact wrap_fits (by omega) (by omega)
               | (simp_all; done)
               | (simp_all; omega))
          | (simp_all; done)
          | (simp_all; omega)
      · clear hr0
        refine awp_seq fun K17 hK17 => ?_
        refine awp_reg ftCOk [(2, .pp 2 0), (3, .pp 4 0), (13, .sl 3), (14, .v (.int .i64 (y_2.length : Int))), (15, .v (.int .i64 0))] [.row false (.trips a0_1), .rbox [.v (.int .i64 a0_0), .sl 0], .box [.v (.int .i64 0), .v (.slice none 0 0)], .row true (.trips y_2), .box [.v (.int .i64 y_1), .sl 3]] ?_
        refine awp_block ?_
        replace h := bind_some h
        obtain ⟨t3_1s_1, hx, h⟩ := h
        refine awp_loopL hx (fun ((t15, t3_1s) : Int × (List (Int × Int × Int))) => [(2, .pp 1 0), (3, .pp 2 0), (13, .sl 3), (14, .v (.int .i64 (y_2.length : Int))), (15, .v (.int .i64 t15))]) (fun ((t15, t3_1s) : Int × (List (Int × Int × Int))) => [.row false (.trips a0_1), .box [.v (.int .i64 0), .v (.slice none 0 0)], .box [.v (.int .i64 y_1), .sl 3], .row true (.trips t3_1s)]) (fun (t3_1s_1 : List (Int × Int × Int)) => Exit.exit 0) (fun (t3_1s_1 : List (Int × Int × Int)) => [(2, .pp 1 0), (3, .pp 2 0)]) (fun (t3_1s_1 : List (Int × Int × Int)) => [.row false (.trips a0_1), .box [.v (.int .i64 0), .v (.slice none 0 0)], .box [.v (.int .i64 y_1), .sl 3], .row true (.trips t3_1s_1)]) ?_ ?_ ?_ ?_
        · rintro t3_1s_1 hy <;> cases hy
        · clear h hx
          exact Red.selA [0, 2, 4, 3] Red.auto
        · clear h hx
          rintro ⟨t15, t3_1s⟩ r h
          unfold impl_TurnGraph_b0 at h
          try dsimp only at h
          try dsimp only
          refine awp_reg ftCOk [(2, .pp 1 0), (3, .pp 2 0), (13, .sl 3), (14, .v (.int .i64 (y_2.length : Int))), (15, .v (.int .i64 t15)), (16, .v (.bool (decide (t15 < (y_2.length : Int)))))] [.row false (.trips a0_1), .box [.v (.int .i64 0), .v (.slice none 0 0)], .box [.v (.int .i64 y_1), .sl 3], .row true (.trips t3_1s)] ?_
          refine awp_seq fun K27 hK27 => ?_
          refine awp_cond (t := 16) rfl (fun hc28 => ?_) (fun hc28 => ?_)
          · replace h := bite_t h hc28
            refine awp_skip ?_
            (try simp only [Thn, InBlk, ↓reduceIte, Nat.reduceEqDiff])
            refine hK27 _ _ ?_
            clear hK27
            refine awp_seq fun K29 hK29 => ?_
            refine awp_block ?_
            replace h := chk_some h
            obtain ⟨hp0, h⟩ := h
            refine awp_reg ftCOk [(2, .pp 1 0), (3, .pp 2 0), (4, .v (.int .i64 t15)), (5, .pp 4 0), (13, .sl 3), (14, .v (.int .i64 (y_2.length : Int))), (15, .v (.int .i64 t15))] [.row false (.trips a0_1), .box [.v (.int .i64 0), .v (.slice none 0 0)], .box [.v (.int .i64 y_1), .sl 3], .row true (.trips t3_1s), .box [.v (.int .i64 ((t3_1s.getD t15.toNat (0, 0, 0)).1)), .v (.int .i64 ((t3_1s.getD t15.toNat (0, 0, 0)).2.1)), .v (.int .i64 ((t3_1s.getD t15.toNat (0, 0, 0)).2.2))]] ?_
            clear hp0
            replace h := chk_some h
            obtain ⟨hp0, h⟩ := h
            refine awp_regE ftCOk [(2, .pp 1 0), (3, .pp 2 0), (13, .sl 3), (14, .v (.int .i64 (y_2.length : Int))), (15, .v (.int .i64 t15))] [.row false (.trips a0_1), .box [.v (.int .i64 0), .v (.slice none 0 0)], .box [.v (.int .i64 y_1), .sl 3], .row true (.trips (t3_1s.set t15.toNat ((t3_1s.getD t15.toNat (0, 0, 0)).2.1, (t3_1s.getD t15.toNat (0, 0, 0)).1, (t3_1s.getD t15.toNat (0, 0, 0)).2.2))), .box [.v (.int .i64 ((t3_1s.getD t15.toNat (0, 0, 0)).1)), .v (.int .i64 ((t3_1s.getD t15.toNat (0, 0, 0)).2.1)), .v (.int .i64 ((t3_1s.getD t15.toNat (0, 0, 0)).2.2))]] ?_
            clear hp0
            (try simp only [Thn, InBlk, ↓reduceIte, Nat.reduceEqDiff])
            (try simp only [Thn, InBlk, ↓reduceIte, Nat.reduceEqDiff])
            refine hK29 _ _ ?_
            clear hK29
            replace h := chk_some h
            obtain ⟨hp0, h⟩ := h
            refine awp_regE ftCOk [(2, .pp 1 0), (3, .pp 2 0), (13, .sl 3), (14, .v (.int .i64 (y_2.length : Int))), (15, .v (.int .i64 (t15 + 1)))] [.row false (.trips a0_1), .box [.v (.int .i64 0), .v (.slice none 0 0)], .box [.v (.int .i64 y_1), .sl 3], .row true (.trips (t3_1s.set t15.toNat ((t3_1s.getD t15.toNat (0, 0, 0)).2.1, (t3_1s.getD t15.toNat (0, 0, 0)).1, (t3_1s.getD t15.toNat (0, 0, 0)).2.2))), .box [.v (.int .i64 ((t3_1s.getD t15.toNat (0, 0, 0)).1)), .v (.int .i64 ((t3_1s.getD t15.toNat (0, 0, 0)).2.1)), .v (.int .i64 ((t3_1s.getD t15.toNat (0, 0, 0)).2.2))]] ?_
            clear hp0
            obtain rfl := Option.some.inj h
            refine LoopQ.next ?_
            exact Red.selA [0, 1, 2, 3] Red.auto
          · replace h := bite_f h hc28
            refine awp_exit ?_
            (try simp only [Thn, InBlk, ↓reduceIte, Nat.reduceEqDiff])
            obtain rfl := Option.some.inj h
            refine LoopQ.out rfl ?_
            exact Red.auto
        · clear hx
          skip
          · try dsimp only [Sum.elim_inl, Sum.elim_inr] at h
            try dsimp only [Sum.elim_inl, Sum.elim_inr]
            (try simp only [Thn, InBlk, ↓reduceIte, Nat.reduceEqDiff])
            (try simp only [Thn, InBlk, ↓reduceIte, Nat.reduceEqDiff])
            (try simp only [Thn, InBlk, ↓reduceIte, Nat.reduceEqDiff])
            refine hK17 _ _ ?_
            clear hK17
            replace h := bind_some h
            obtain ⟨y_3, hr0, h⟩ := h
            try dsimp only at h
            refine awp_to [(2, .pp 1 0), (3, .pp 2 0)] [.row false (.trips a0_1), .box [.v (.int .i64 0), .v (.slice none 0 0)], .box [.v (.int .i64 y_1), .sl 3], .row true (.trips y_3)] ?_ ?_
            · clear h
              intro K hK
              refine awp_region ftCOk ?_
              simp (maxSteps := 4000000) only [go_sem, Nat.reduceBEq, Nat.reduceLT, Nat.reduceAdd, Nat.reduceLeDiff, Nat.reduceSub, Nat.reduceEqDiff, Int.reduceToNat, reduceCtorEq, ↓reduceIte]
              repeat' (first | refine And.intro ?_ ?_ | intro hg)
              all_goals (try simp (disch := omega) only [wrap_fits])
              all_goals first
                | (refine hK _ _ ?_; exact Red.auto)
                | exact trivial
                | assumption
                | omega
                | exact wrap_fits (by omega) (by omega)
                | (refine wpA_callA (k_slices_SortFunc__impl_compareEnds t3_1s_1 (h := hr0)) [3] [] ?_
                   rintro x Hc' ⟨rfl, rfl⟩ hlen
                   refine vcOps_sound ftCOk ?_
                   simp (maxSteps := 4000000) only [go_sem, Nat.reduceBEq, Nat.reduceLT, Nat.reduceAdd, Nat.reduceLeDiff, Nat.reduceSub, Nat.reduceEqDiff, Int.reduceToNat, reduceCtorEq, ↓reduceIte]
                   repeat' (first | refine And.intro ?_ ?_ | intro hg)
                   all_goals (try simp (disch := omega) only [wrap_fits])
                   all_goals first
                     | (refine hK _ _ ?_; exact Red.auto)
                     | exact trivial
                     | assumption
                     | omega
                     | exact wrap_fits (by omega) (by omega)
                     | (simp_all; done)
                     | (simp_all; omega))
                | (simp_all; done)
                | (simp_all; omega)
            · clear hr0
              refine awp_reg ftCOk [(2, .pp 1 0)] [.row false (.trips a0_1), .box [.v (.int .i64 y_1), .sl 3], .box [.v (.int .i64 y_1), .sl 3], .row true (.trips y_3)] ?_
              refine awp_ret ?_
              (try simp only [Thn, InBlk, ↓reduceIte, Nat.reduceEqDiff])
              obtain rfl := Option.some.inj h
              refine ⟨by simp, _, [0, 3], (by simp only [go_sem, Nat.reduceBEq, Nat.reduceLT, Nat.reduceAdd, Nat.reduceLeDiff, Nat.reduceSub, Nat.reduceEqDiff, Int.reduceToNat, reduceCtorEq, ↓reduceIte]; exact rfl), ?_, ?_, ?_, ?_⟩
              · first | exact trivial | exact ⟨trivial, trivial⟩ | exact ⟨trivial, trivial, trivial⟩ | exact ⟨trivial, trivial, trivial, trivial⟩ | (simp only [allP, and_true, true_and]; done) | (simp only [allP, and_true, true_and]; omega)
              · simp [selOk, pos]
              · simp
              · first | exact ⟨rfl, rfl⟩ | (simp only [go_sem, Nat.reduceBEq, Nat.reduceLT, Nat.reduceAdd, Nat.reduceLeDiff, Nat.reduceSub, Nat.reduceEqDiff, Int.reduceToNat, reduceCtorEq, ↓reduceIte]; done) | (simp [go_sem, Nat.reduceBEq, Nat.reduceLT, Nat.reduceAdd, Nat.reduceLeDiff, Nat.reduceSub, Nat.reduceEqDiff, Int.reduceToNat, reduceCtorEq, ↓reduceIte]; done) | (simp only [go_sem, Nat.reduceBEq, Nat.reduceLT, Nat.reduceAdd, Nat.reduceLeDiff, Nat.reduceSub, Nat.reduceEqDiff, Int.reduceToNat, reduceCtorEq, ↓reduceIte]; exact ⟨rfl, rfl⟩) | (simp_all [go_sem, Nat.reduceBEq, Nat.reduceLT, Nat.reduceAdd, Nat.reduceLeDiff, Nat.reduceSub, Nat.reduceEqDiff, Int.reduceToNat, reduceCtorEq, ↓reduceIte]; done)
theorem k_laws_FnOrderForward (a0 : List Int) {r : Bool} (h : laws_FnOrderForward a0 = some r) :
    FnA Tryd.prog 7 [.sl 0] [.row false (.ints .u8 a0), .glob 0 (.ints .u8 tab0)] [] (fun x H => x = .v (.bool r) ∧ H = [.row false (.ints .u8 a0), .glob 0 (.ints .u8 tab0)]) := by
  unfold laws_FnOrderForward at h
  refine FnA.of (N := 67) (pin := [0, 1]) (rs := [.tmp 2]) Tryd.func7 rfl en7 rfl rfl (by simp) (by simp; try omega) ?_
  refine awp_reg ftCOk [(0, .sl 0)] [.row false (.ints .u8 a0), .glob 0 (.ints .u8 tab0)] ?_
  refine awp_seq fun K2 hK2 => ?_
  refine awp_reg ftCOk [(0, .sl 0), (12, .v (.bool (decide (1048576 < (a0.length : Int)))))] [.row false (.ints .u8 a0), .glob 0 (.ints .u8 tab0)] ?_
  refine awp_cond (t := 12) rfl (fun hc3 => ?_) (fun hc3 => ?_)
  · replace h := bite_t h hc3
    refine awp_reg ftCOk [(2, .v (.bool true))] [.row false (.ints .u8 a0), .glob 0 (.ints .u8 tab0)] ?_
    refine awp_ret ?_
    (try simp only [Thn, InBlk, ↓reduceIte, Nat.reduceEqDiff])
    obtain rfl := Option.some.inj h
    refine ⟨by simp, _, [0, 1], (by simp only [go_sem, Nat.reduceBEq, Nat.reduceLT, Nat.reduceAdd, Nat.reduceLeDiff, Nat.reduceSub, Nat.reduceEqDiff, Int.reduceToNat, reduceCtorEq, ↓reduceIte]; exact rfl), ?_, ?_, ?_, ?_⟩
    · first | exact trivial | exact ⟨trivial, trivial⟩ | exact ⟨trivial, trivial, trivial⟩ | exact ⟨trivial, trivial, trivial, trivial⟩ | (simp only [allP, and_true, true_and]; done) | (simp only [allP, and_true, true_and]; omega)
    · simp [selOk, pos]
    · simp
    · first | exact ⟨rfl, rfl⟩ | (simp only [go_sem, Nat.reduceBEq, Nat.reduceLT, Nat.reduceAdd, Nat.reduceLeDiff, Nat.reduceSub, Nat.reduceEqDiff, Int.reduceToNat, reduceCtorEq, ↓reduceIte]; done) | (simp [go_sem, Nat.reduceBEq, Nat.reduceLT, Nat.reduceAdd, Nat.reduceLeDiff, Nat.reduceSub, Nat.reduceEqDiff, Int.reduceToNat, reduceCtorEq, ↓reduceIte]; done) | (simp only [go_sem, Nat.reduceBEq, Nat.reduceLT, Nat.reduceAdd, Nat.reduceLeDiff, Nat.reduceSub, Nat.reduceEqDiff, Int.reduceToNat, reduceCtorEq, ↓reduceIte]; exact ⟨rfl, rfl⟩) | (simp_all [go_sem, Nat.reduceBEq, Nat.reduceLT, Nat.reduceAdd, Nat.reduceLeDiff, Nat.reduceSub, Nat.reduceEqDiff, Int.reduceToNat, reduceCtorEq, ↓reduceIte]; done)
  · replace h := bite_f h hc3
    refine awp_skip ?_
    (try simp only [Thn, InBlk, ↓reduceIte, Nat.reduceEqDiff])
    refine hK2 _ _ ?_
    clear hK2
    replace h := bind_some h
    obtain ⟨⟨y, y_1, y_2⟩, hr0, h⟩ := h
    try dsimp only at h
    refine awp_to [(3, .pp 4 0), (4, .sl 3)] [.row false (.ints .u8 a0), .glob 0 (.ints .u8 tab0), .row true (.trips y_1), .row true (.ints .i64 y_2), .box [.v (.int .i64 y), .sl 2]] ?_ ?_
    · clear h
      intro K hK
      refine awp_region ftCOk ?_
      simp (maxSteps := 4000000) only [go_sem, Nat.reduceBEq, Nat.reduceLT, Nat.reduceAdd, Nat.reduceLeDiff, Nat.reduceSub, Nat.reduceEqDiff, Int.reduceToNat, reduceCtorEq, ↓reduceIte]
      repeat' (first | refine And.intro ?_ ?_ | intro hg)
      all_goals (try simp (disch := omega) only [wrap_fits])
      all_goals first
        | (refine hK _ _ ?_; exact Red.auto)
        | exact trivial
        | assumption
        | omega
        | exact wrap_fits (by omega) (by omega)
        | (refine wpA_callA (k_spec_DrawOrderForward a0 (h := hr0)) [0] [] ?_
           rintro x Hc' ⟨rfl, rfl⟩ hlen
           refine vcOps_sound ftCOk ?_
           simp (maxSteps := 4000000) only [go_sem, Nat.reduceBEq, Nat.reduceLT, Nat.reduceAdd, Nat.reduceLeDiff, Nat.reduceSub, Nat.reduceEqDiff, Int.reduceToNat, reduceCtorEq, ↓reduceIte]
           repeat' (first | refine And.intro ?_ ?_ | intro hg)
           all_goals (try simp (disch := omega) only [wrap_fits])
           all_goals first
             | (refine hK _ _ ?_; exact Red.auto)
             | exact trivial
             | assumption
             | omega
             | exact wrap_fits (by omega) (by omega)
             | (simp_all; done)
             | (simp_all; omega))
        | (simp_all; done)
        | (simp_all; omega)
    · clear hr0
      replace h := bind_some h
      obtain ⟨y_3, hr0, h⟩ := h
      try dsimp only at h
      refine awp_to [(3, .pp 4 0), (4, .sl 3), (5, .v (.bool y_3))] [.row false (.ints .u8 a0), .glob 0 (.ints .u8 tab0), .row true (.trips y_1), .row true (.ints .i64 y_2), .box [.v (.int .i64 y), .sl 2]] ?_ ?_
      · clear h
        intro K hK
        refine awp_region ftCOk ?_
        simp (maxSteps := 4000000) only [go_sem, Nat.reduceBEq, Nat.reduceLT, Nat.reduceAdd, Nat.reduceLeDiff, Nat.reduceSub, Nat.reduceEqDiff, Int.reduceToNat, reduceCtorEq, ↓reduceIte]
        repeat' (first | refine And.intro ?_ ?_ | intro hg)
        all_goals (try simp (disch := omega) only [wrap_fits])
        all_goals first
          | (refine hK _ _ ?_; exact Red.auto)
          | exact trivial
          | assumption
          | omega
          | exact wrap_fits (by omega) (by omega)
          | (refine wpA_callA (k_impl_OrderForward y y_1 y_2 (h := hr0)) [2, 3] [] ?_
             rintro x Hc' ⟨rfl, rfl⟩ hlen
             refine vcOps_sound ftCOk ?_
             simp (maxSteps := 4000000) only [go_sem, Nat.reduceBEq, Nat.reduceLT, Nat.reduceAdd, Nat.reduceLeDiff, Nat.reduceSub, Nat.reduceEqDiff, Int.reduceToNat, reduceCtorEq, ↓reduceIte]
             repeat' (first | refine And.intro ?_ ?_ | intro hg)
             all_goals (try simp (disch := omega) only [wrap_fits])
             all_goals first
               | (refine hK _ _ ?_; exact Red.auto)
               | exact trivial
               | assumption
               | omega
               | exact wrap_fits (by omega) (by omega)
               | (simp_all; done)
               | (simp_all; omega))
          | (simp_all; done)
          | (simp_all; omega)
      · clear hr0
        refine awp_seq fun K5 hK5 => ?_
        replace h := bind_some h
        obtain ⟨y_4, hr0, h⟩ := h
        try dsimp only at h
        refine awp_to [(3, .pp 4 0), (4, .sl 3), (5, .v (.bool y_3)), (25, .v (.bool (!(y_3 == y_4))))] [.row false (.ints .u8 a0), .glob 0 (.ints .u8 tab0), .row true (.trips y_1), .row true (.ints .i64 y_2), .box [.v (.int .i64 y), .sl 2]] ?_ ?_
        · clear h
          intro K hK
          refine awp_region ftCOk ?_
          simp (maxSteps := 4000000) only [go_sem, Nat.reduceBEq, Nat.reduceLT, Nat.reduceAdd, Nat.reduceLeDiff, Nat.reduceSub, Nat.reduceEqDiff, Int.reduceToNat, reduceCtorEq, ↓reduceIte]
          repeat' (first | refine And.intro ?_ ?_ | intro hg)
          all_goals (try simp (disch := omega) only [wrap_fits])
          all_goals first
            | (refine hK _ _ ?_; exact Red.auto)
            | exact trivial
            | assumption
            | omega
            | exact wrap_fits (by omega) (by omega)
            | (refine wpA_callA (k_spec_OrderForward y y_1 y_2 (h := hr0)) [2, 3] [] ?_
               rintro x Hc' ⟨rfl, rfl⟩ hlen
               refine vcOps_sound ftCOk ?_
               simp (maxSteps := 4000000) only [go_sem, Nat.reduceBEq, Nat.reduceLT, Nat.reduceAdd, Nat.reduceLeDiff, Nat.reduceSub, Nat.reduceEqDiff, Int.reduceToNat, reduceCtorEq, ↓reduceIte]
               repeat' (first | refine And.intro ?_ ?_ | intro hg)
               all_goals (try simp (disch := omega) only [wrap_fits])
               all_goals first
                 | (refine hK _ _ ?_; exact Red.auto)
                 | exact trivial
                 | assumption
                 | omega
                 | exact wrap_fits (by omega) (by omega)
                 | (simp_all; done)
                 | (simp_all; omega))
            | (simp_all; done)
            | (simp_all; omega)
        · clear hr0
          refine awp_cond (t := 25) rfl (fun hc6 => ?_) (fun hc6 => ?_)
          · replace h := bite_t h hc6
            refine awp_reg ftCOk [(2, .v (.bool false))] [.row false (.ints .u8 a0), .glob 0 (.ints .u8 tab0), .row true (.trips y_1), .row true (.ints .i64 y_2), .box [.v (.int .i64 y), .sl 2]] ?_
            refine awp_ret ?_
            (try simp only [Thn, InBlk, ↓reduceIte, Nat.reduceEqDiff])
            obtain rfl := Option.some.inj h
            refine ⟨by simp, _, [0, 1], (by simp only [go_sem, Nat.reduceBEq, Nat.reduceLT, Nat.reduceAdd, Nat.reduceLeDiff, Nat.reduceSub, Nat.reduceEqDiff, Int.reduceToNat, reduceCtorEq, ↓reduceIte]; exact rfl), ?_, ?_, ?_, ?_⟩
            · first | exact trivial | exact ⟨trivial, trivial⟩ | exact ⟨trivial, trivial, trivial⟩ | exact ⟨trivial, trivial, trivial, trivial⟩ | (simp only [allP, and_true, true_and]; done) | (simp only [allP, and_true, true_and]; omega)
            · simp [selOk, pos]
            · simp
            · first | exact ⟨rfl, rfl⟩ | (simp only [go_sem, Nat.reduceBEq, Nat.reduceLT, Nat.reduceAdd, Nat.reduceLeDiff, Nat.reduceSub, Nat.reduceEqDiff, Int.reduceToNat, reduceCtorEq, ↓reduceIte]; done) | (simp [go_sem, Nat.reduceBEq, Nat.reduceLT, Nat.reduceAdd, Nat.reduceLeDiff, Nat.reduceSub, Nat.reduceEqDiff, Int.reduceToNat, reduceCtorEq, ↓reduceIte]; done) | (simp only [go_sem, Nat.reduceBEq, Nat.reduceLT, Nat.reduceAdd, Nat.reduceLeDiff, Nat.reduceSub, Nat.reduceEqDiff, Int.reduceToNat, reduceCtorEq, ↓reduceIte]; exact ⟨rfl, rfl⟩) | (simp_all [go_sem, Nat.reduceBEq, Nat.reduceLT, Nat.reduceAdd, Nat.reduceLeDiff, Nat.reduceSub, Nat.reduceEqDiff, Int.reduceToNat, reduceCtorEq, ↓reduceIte]; done)
          · replace h := bite_f h hc6
            refine awp_skip ?_
            (try simp only [Thn, InBlk, ↓reduceIte, Nat.reduceEqDiff])
            refine hK5 _ _ ?_
            clear hK5
            refine awp_reg ftCOk [(3, .pp 4 0), (4, .sl 3), (5, .v (.bool y_3)), (6, .sl 5)] [.row false (.ints .u8 a0), .glob 0 (.ints .u8 tab0), .row true (.trips y_1), .row true (.ints .i64 y_2), .box [.v (.int .i64 y), .sl 2], .row true (.ints .i64 [])] ?_
            refine awp_seq fun K20 hK20 => ?_
            replace h := chk_some h
            obtain ⟨hp0, h⟩ := h
            have hwhp0 := wrap_fits hp0.1 hp0.2
            refine awp_reg ftCOk [(3, .pp 4 0), (4, .sl 3), (5, .v (.bool y_3)), (6, .sl 5), (7, .v (.int .i64 ((y_2.length : Int) - 1)))] [.row false (.ints .u8 a0), .glob 0 (.ints .u8 tab0), .row true (.trips y_1), .row true (.ints .i64 y_2), .box [.v (.int .i64 y), .sl 2], .row true (.ints .i64 [])] ?_
            clear hp0
            refine awp_block ?_
            replace h := bind_some h
            obtain ⟨t6s_1, hx, h⟩ := h
            refine awp_loopL hx (fun ((t7, t6s) : Int × List Int) => [(3, .pp 2 0), (4, .sl 4), (5, .v (.bool y_3)), (6, .sl 5), (7, .v (.int .i64 t7))]) (fun ((t7, t6s) : Int × List Int) => [.row false (.ints .u8 a0), .glob 0 (.ints .u8 tab0), .box [.v (.int .i64 y), .sl 3], .row true (.trips y_1), .row true (.ints .i64 y_2), .row true (.ints .i64 t6s)]) (fun (t6s_1 : List Int) => Exit.exit 0) (fun (t6s_1 : List Int) => [(3, .pp 2 0), (5, .v (.bool y_3)), (6, .sl 4)]) (fun (t6s_1 : List Int) => [.row false (.ints .u8 a0), .glob 0 (.ints .u8 tab0), .box [.v (.int .i64 y), .sl 3], .row true (.trips y_1), .row true (.ints .i64 t6s_1)]) ?_ ?_ ?_ ?_
            · rintro t6s_1 hy <;> cases hy
            · clear h hx
              exact Red.selA [0, 1, 4, 2, 3, 5] Red.auto
            · clear h hx
              rintro ⟨t7, t6s⟩ r h
              unfold laws_FnOrderForward_b0 at h
              try dsimp only at h
              try dsimp only
              refine awp_seq fun K30 hK30 => ?_
              refine awp_reg ftCOk [(3, .pp 2 0), (4, .sl 4), (5, .v (.bool y_3)), (6, .sl 5), (7, .v (.int .i64 t7)), (31, .v (.bool (decide (0 ≤ t7))))] [.row false (.ints .u8 a0), .glob 0 (.ints .u8 tab0), .box [.v (.int .i64 y), .sl 3], .row true (.trips y_1), .row true (.ints .i64 y_2), .row true (.ints .i64 t6s)] ?_
              refine awp_cond (t := 31) rfl (fun hc31 => ?_) (fun hc31 => ?_)
              · replace h := bite_t h hc31
                refine awp_skip ?_
                (try simp only [Thn, InBlk, ↓reduceIte, Nat.reduceEqDiff])
                refine hK30 _ _ ?_
                clear hK30
                refine awp_seq fun K32 hK32 => ?_
                refine awp_block ?_
                replace h := chk_some h
                obtain ⟨hp0, h⟩ := h
                replace h := chk_some h
                obtain ⟨hp1, h⟩ := h
                refine awp_regE ftCOk [(3, .pp 2 0), (4, .sl 4), (5, .v (.bool y_3)), (6, .sl 5), (7, .v (.int .i64 t7))] [.row false (.ints .u8 a0), .glob 0 (.ints .u8 tab0), .box [.v (.int .i64 y), .sl 3], .row true (.trips y_1), .row true (.ints .i64 y_2), .row true (.ints .i64 (t6s ++ [(y_2.getD t7.toNat 0)])), .row true (.ints .i64 [(y_2.getD t7.toNat 0)])] ?_
                clear hp0 hp1
                (try simp only [Thn, InBlk, ↓reduceIte, Nat.reduceEqDiff])
                (try simp only [Thn, InBlk, ↓reduceIte, Nat.reduceEqDiff])
                refine hK32 _ _ ?_
                clear hK32
                replace h := chk_some h
                obtain ⟨hp0, h⟩ := h
                have hwhp0 := wrap_fits hp0.1 hp0.2
                refine awp_regE ftCOk [(3, .pp 2 0), (4, .sl 4), (5, .v (.bool y_3)), (6, .sl 5), (7, .v (.int .i64 (t7 - 1)))] [.row false (.ints .u8 a0), .glob 0 (.ints .u8 tab0), .box [.v (.int .i64 y), .sl 3], .row true (.trips y_1), .row true (.ints .i64 y_2), .row true (.ints .i64 (t6s ++ [(y_2.getD t7.toNat 0)])), .row true (.ints .i64 [(y_2.getD t7.toNat 0)])] ?_
                clear hp0
                obtain rfl := Option.some.inj h
                refine LoopQ.next ?_
                exact Red.selA [0, 1, 2, 3, 4, 5] Red.auto
              · replace h := bite_f h hc31
                refine awp_exit ?_
                (try simp only [Thn, InBlk, ↓reduceIte, Nat.reduceEqDiff])
                obtain rfl := Option.some.inj h
                refine LoopQ.out rfl ?_
                exact Red.selA [0, 1, 2, 3, 5] Red.auto
            · clear hx
              skip
              · try dsimp only [Sum.elim_inl, Sum.elim_inr] at h
                try dsimp only [Sum.elim_inl, Sum.elim_inr]
                (try simp only [Thn, InBlk, ↓reduceIte, Nat.reduceEqDiff])
                (try simp only [Thn, InBlk, ↓reduceIte, Nat.reduceEqDiff])
                (try simp only [Thn, InBlk, ↓reduceIte, Nat.reduceEqDiff])
                refine hK20 _ _ ?_
                clear hK20
                refine awp_seq fun K35 hK35 => ?_
                replace h := bind_some h
                obtain ⟨y_5, hr0, h⟩ := h
                try dsimp only at h
                refine awp_to [(3, .pp 2 0), (5, .v (.bool y_3)), (6, .sl 4), (43, .v (.bool (!y_5)))] [.row false (.ints .u8 a0), .glob 0 (.ints .u8 tab0), .box [.v (.int .i64 y), .sl 3], .row true (.trips y_1), .row true (.ints .i64 t6s_1)] ?_ ?_
                · clear h
                  intro K hK
                  refine awp_region ftCOk ?_
                  simp (maxSteps := 4000000) only [go_sem, Nat.reduceBEq, Nat.reduceLT, Nat.reduceAdd, Nat.reduceLeDiff, Nat.reduceSub, Nat.reduceEqDiff, Int.reduceToNat, reduceCtorEq, ↓reduceIte]
                  repeat' (first | refine And.intro ?_ ?_ | intro hg)
                  all_goals (try simp (disch := omega) only [wrap_fits])
                  all_goals first
                    | (refine hK _ _ ?_; exact Red.auto)
                    | exact trivial
                    | assumption
                    | omega
                    | exact wrap_fits (by omega) (by omega)
                    | (refine wpA_callA (k_impl_GraphValid y y_1 (h := hr0)) [3] [] ?_
                       rintro x Hc' ⟨rfl, rfl⟩ hlen
                       refine vcOps_sound ftCOk ?_
                       simp (maxSteps := 4000000) only [go_sem, Nat.reduceBEq, Nat.reduceLT, Nat.reduceAdd, Nat.reduceLeDiff, Nat.reduceSub, Nat.reduceEqDiff, Int.reduceToNat, reduceCtorEq, ↓reduceIte]
                       repeat' (first | refine And.intro ?_ ?_ | intro hg)
                       all_goals (try simp (disch := omega) only [wrap_fits])
                       all_goals first
                         | (refine hK _ _ ?_; exact Red.auto)
                         | exact trivial
                         | assumption
                         | omega
                         | exact wrap_fits (by omega) (by omega)
                         | (simp_all; done)
                         | (simp_all; omega))
                    | (simp_all; done)
                    | (simp_all; omega)
                · clear hr0
                  refine awp_cond (t := 43) rfl (fun hc36 => ?_) (fun hc36 => ?_)
                  · replace h := bite_t h hc36
                    cases y_3
                    · replace h := bite_f h rfl
                      replace h := bind_some h
                      obtain ⟨y_6, hr0, h⟩ := h
                      try dsimp only at h
                      refine awp_to [(2, .v (.bool y_6))] [.row false (.ints .u8 a0), .glob 0 (.ints .u8 tab0), .box [.v (.int .i64 y), .sl 3], .row true (.trips y_1), .row true (.ints .i64 t6s_1)] ?_ ?_
                      · clear h
                        intro K hK
                        refine awp_region ftCOk ?_
                        simp (maxSteps := 4000000) only [go_sem, Nat.reduceBEq, Nat.reduceLT, Nat.reduceAdd, Nat.reduceLeDiff, Nat.reduceSub, Nat.reduceEqDiff, Int.reduceToNat, reduceCtorEq, ↓reduceIte]
                        repeat' (first | refine And.intro ?_ ?_ | intro hg)
                        all_goals (try simp (disch := omega) only [wrap_fits])
                        all_goals first
                          | (refine hK _ _ ?_; exact Red.auto)
                          | exact trivial
                          | assumption
                          | omega
                          | exact wrap_fits (by omega) (by omega)
                          | (refine wpA_guard rfl rfl ?_
                             refine wpA_callA (k_laws_alive  (h := hr0)) [] [] ?_
                             rintro x Hc' ⟨rfl, rfl⟩ hlen
                             refine vcOps_sound ftCOk ?_
                             simp (maxSteps := 4000000) only [go_sem, Nat.reduceBEq, Nat.reduceLT, Nat.reduceAdd, Nat.reduceLeDiff, Nat.reduceSub, Nat.reduceEqDiff, Int.reduceToNat, reduceCtorEq, ↓reduceIte]
                             repeat' (first | refine And.intro ?_ ?_ | intro hg)
                             all_goals (try simp (disch := omega) only [wrap_fits])
                             all_goals first
                               | (refine hK _ _ ?_; exact Red.auto)
                               | exact trivial
                               | assumption
                               | omega
                               | exact wrap_fits (by omega) (by omega)
                               | (simp_all; done)
                               | (simp_all; omega))
                          | (simp_all; done)
                          | (simp_all; omega)
                      · clear hr0
                        refine awp_ret ?_
                        (try simp only [Thn, InBlk, ↓reduceIte, Nat.reduceEqDiff])
                        obtain rfl := Option.some.inj h
                        refine ⟨by simp, _, [0, 1], (by simp only [go_sem, Nat.reduceBEq, Nat.reduceLT, Nat.reduceAdd, Nat.reduceLeDiff, Nat.reduceSub, Nat.reduceEqDiff, Int.reduceToNat, reduceCtorEq, ↓reduceIte]; exact rfl), ?_, ?_, ?_, ?_⟩
                        · first | exact trivial | exact ⟨trivial, trivial⟩ | exact ⟨trivial, trivial, trivial⟩ | exact ⟨trivial, trivial, trivial, trivial⟩ | (simp only [allP, and_true, true_and]; done) | (simp only [allP, and_true, true_and]; omega)
                        · simp [selOk, pos]
                        · simp
                        · first | exact ⟨rfl, rfl⟩ | (simp only [go_sem, Nat.reduceBEq, Nat.reduceLT, Nat.reduceAdd, Nat.reduceLeDiff, Nat.reduceSub, Nat.reduceEqDiff, Int.reduceToNat, reduceCtorEq, ↓reduceIte]; done) | (simp [go_sem, Nat.reduceBEq, Nat.reduceLT, Nat.reduceAdd, Nat.reduceLeDiff, Nat.reduceSub, Nat.reduceEqDiff, Int.reduceToNat, reduceCtorEq, ↓reduceIte]; done) | (simp only [go_sem, Nat.reduceBEq, Nat.reduceLT, Nat.reduceAdd, Nat.reduceLeDiff, Nat.reduceSub, Nat.reduceEqDiff, Int.reduceToNat, reduceCtorEq, ↓reduceIte]; exact ⟨rfl, rfl⟩) | (simp_all [go_sem, Nat.reduceBEq, Nat.reduceLT, Nat.reduceAdd, Nat.reduceLeDiff, Nat.reduceSub, Nat.reduceEqDiff, Int.reduceToNat, reduceCtorEq, ↓reduceIte]; done)
                    · replace h := bite_t h rfl
                      refine awp_reg ftCOk [(2, .v (.bool false))] [.row false (.ints .u8 a0), .glob 0 (.ints .u8 tab0), .box [.v (.int .i64 y), .sl 3], .row true (.trips y_1), .row true (.ints .i64 t6s_1)] ?_
                      refine awp_ret ?_
                      (try simp only [Thn, InBlk, ↓reduceIte, Nat.reduceEqDiff])
                      obtain rfl := Option.some.inj h
                      refine ⟨by simp, _, [0, 1], (by simp only [go_sem, Nat.reduceBEq, Nat.reduceLT, Nat.reduceAdd, Nat.reduceLeDiff, Nat.reduceSub, Nat.reduceEqDiff, Int.reduceToNat, reduceCtorEq, ↓reduceIte]; exact rfl), ?_, ?_, ?_, ?_⟩
                      · first | exact trivial | exact ⟨trivial, trivial⟩ | exact ⟨trivial, trivial, trivial⟩ | exact ⟨trivial, trivial, trivial, trivial⟩ | (simp only [allP, and_true, true_and]; done) | (simp only [allP, and_true, true_and]; omega)
                      · simp [selOk, pos]
                      · simp
                      · first | exact ⟨rfl, rfl⟩ | (simp only [go_sem, Nat.reduceBEq, Nat.reduceLT, Nat.reduceAdd, Nat.reduceLeDiff, Nat.reduceSub, Nat.reduceEqDiff, Int.reduceToNat, reduceCtorEq, ↓reduceIte]; done) | (simp [go_sem, Nat.reduceBEq, Nat.reduceLT, Nat.reduceAdd, Nat.reduceLeDiff, Nat.reduceSub, Nat.reduceEqDiff, Int.reduceToNat, reduceCtorEq, ↓reduceIte]; done) | (simp only [go_sem, Nat.reduceBEq, Nat.reduceLT, Nat.reduceAdd, Nat.reduceLeDiff, Nat.reduceSub, Nat.reduceEqDiff, Int.reduceToNat, reduceCtorEq, ↓reduceIte]; exact ⟨rfl, rfl⟩) | (simp_all [go_sem, Nat.reduceBEq, Nat.reduceLT, Nat.reduceAdd, Nat.reduceLeDiff, Nat.reduceSub, Nat.reduceEqDiff, Int.reduceToNat, reduceCtorEq, ↓reduceIte]; done)
                  · replace h := bite_f h hc36
                    refine awp_skip ?_
                    (try simp only [Thn, InBlk, ↓reduceIte, Nat.reduceEqDiff])
                    refine hK35 _ _ ?_
                    clear hK35
                    replace h := bind_some h
                    obtain ⟨⟨y_6, y_7⟩, hr0, h⟩ := h
                    try dsimp only at h
                    refine awp_to [(3, .pp 2 0), (5, .v (.bool y_3)), (6, .sl 4), (9, .v (.bool y_7))] [.row false (.ints .u8 a0), .glob 0 (.ints .u8 tab0), .box [.v (.int .i64 y), .sl 3], .row true (.trips y_1), .row true (.ints .i64 t6s_1), .row true (.ints .i64 y_6)] ?_ ?_
                    · clear h
                      intro K hK
                      refine awp_region ftCOk ?_
                      simp (maxSteps := 4000000) only [go_sem, Nat.reduceBEq, Nat.reduceLT, Nat.reduceAdd, Nat.reduceLeDiff, Nat.reduceSub, Nat.reduceEqDiff, Int.reduceToNat, reduceCtorEq, ↓reduceIte]
                      repeat' (first | refine And.intro ?_ ?_ | intro hg)
                      all_goals (try simp (disch := omega) only [wrap_fits])
                      all_goals first
                        | (refine hK _ _ ?_; exact Red.auto)
                        | exact trivial
                        | assumption
                        | omega
                        | exact wrap_fits (by omega) (by omega)
                        | (refine wpA_callA (k_impl_ForwardOrder y y_1 (h := hr0)) [3, 1] [] ?_
                           rintro x Hc' ⟨rfl, rfl⟩ hlen
                           refine vcOps_sound ftCOk ?_
                           simp (maxSteps := 4000000) only [go_sem, Nat.reduceBEq, Nat.reduceLT, Nat.reduceAdd, Nat.reduceLeDiff, Nat.reduceSub, Nat.reduceEqDiff, Int.reduceToNat, reduceCtorEq, ↓reduceIte]
                           repeat' (first | refine And.intro ?_ ?_ | intro hg)
                           all_goals (try simp (disch := omega) only [wrap_fits])
                           all_goals first
                             | (refine hK _ _ ?_; exact Red.auto)
                             | exact trivial
                             | assumption
                             | omega
                             | exact wrap_fits (by omega) (by omega)
                             | (simp_all; done)
                             | (simp_all; omega))
                        | (simp_all; done)
                        | (simp_all; omega)
                    · clear hr0
                      replace h := bind_some h
                      obtain ⟨⟨y_8, y_9⟩, hr0, h⟩ := h
                      try dsimp only at h
                      replace h := bind_some h
                      obtain ⟨y_10, hr1, h⟩ := h
                      try dsimp only at h
                      by_cases hb37 : (y_10 == y_3) = true
                      · replace h := bite_t h hb37
                        have hb37d := hb37
                        try simp only [decide_eq_true_eq, decide_eq_false_iff_not, beq_iff_eq, bne_iff_ne, ne_eq, beq_eq_false_iff_ne, bne_eq_false_iff_eq, Bool.not_eq_true', Bool.not_eq_false', Bool.and_eq_true, Bool.or_eq_true, Bool.and_eq_false_iff, Bool.or_eq_false_iff] at hb37d
                        cases y_3
                        · replace h := bite_f h rfl
                          refine awp_to [(2, .v (.bool true))] [.row false (.ints .u8 a0), .glob 0 (.ints .u8 tab0), .box [.v (.int .i64 y), .sl 3], .row true (.trips y_1), .row true (.ints .i64 t6s_1), .row true (.ints .i64 y_6), .row true (.trips y_9)] ?_ ?_
                          · clear h
                            intro K hK
                            refine awp_region ftCOk ?_
                            simp (maxSteps := 4000000) only [go_sem, Nat.reduceBEq, Nat.reduceLT, Nat.reduceAdd, Nat.reduceLeDiff, Nat.reduceSub, Nat.reduceEqDiff, Int.reduceToNat, reduceCtorEq, ↓reduceIte, hb37]
                            repeat' (first | refine And.intro ?_ ?_ | intro hg)
                            all_goals (try simp (disch := omega) only [wrap_fits])
                            all_goals first
                              | (refine hK _ _ ?_; exact Red.auto)
                              | exact trivial
                              | assumption
                              | omega
                              | exact wrap_fits (by omega) (by omega)
                              | (refine wpA_callA (k_impl_TurnGraph y y_1 (h := hr0)) [3] [] ?_
                                 rintro x Hc' ⟨rfl, rfl⟩ hlen
                                 refine vcOps_sound ftCOk ?_
                                 simp (maxSteps := 4000000) only [go_sem, Nat.reduceBEq, Nat.reduceLT, Nat.reduceAdd, Nat.reduceLeDiff, Nat.reduceSub, Nat.reduceEqDiff, Int.reduceToNat, reduceCtorEq, ↓reduceIte, hb37]
                                 repeat' (first | refine And.intro ?_ ?_ | intro hg)
                                 all_goals (try simp (disch := omega) only [wrap_fits])
                                 all_goals first
                                   | (refine hK _ _ ?_; exact Red.auto)
                                   | exact trivial
                                   | assumption
                                   | omega
                                   | exact wrap_fits (by omega) (by omega)
                                   | (refine wpA_callA (k_impl_OrderForward y_8 y_9 t6s_1 (h := hr1)) [6, 4] [] ?_
                                      rintro x Hc' ⟨rfl, rfl⟩ hlen
                                      refine vcOps_sound ftCOk ?_
                                      simp (maxSteps := 4000000) only [go_sem, Nat.reduceBEq, Nat.reduceLT, Nat.reduceAdd, Nat.reduceLeDiff, Nat.reduceSub, Nat.reduceEqDiff, Int.reduceToNat, reduceCtorEq, ↓reduceIte, hb37]
                                      repeat' (first | refine And.intro ?_ ?_ | intro hg)
                                      all_goals (try simp (disch := omega) only [wrap_fits])
                                      all_goals first
                                        | (refine hK _ _ ?_; exact Red.auto)
                                        | exact trivial
                                        | assumption
                                        | omega
                                        | exact wrap_fits (by omega) (by omega)
                                        | (simp_all; done)
                                        | (simp_all; omega))
                                   | (simp_all; done)
                                   | (simp_all; omega))
                              | (simp_all; done)
                              | (simp_all; omega)
                          · clear hr0 hr1
                            refine awp_ret ?_
                            (try simp only [Thn, InBlk, ↓reduceIte, Nat.reduceEqDiff])
                            obtain rfl := Option.some.inj h
                            refine ⟨by simp, _, [0, 1], (by simp only [go_sem, Nat.reduceBEq, Nat.reduceLT, Nat.reduceAdd, Nat.reduceLeDiff, Nat.reduceSub, Nat.reduceEqDiff, Int.reduceToNat, reduceCtorEq, ↓reduceIte]; exact rfl), ?_, ?_, ?_, ?_⟩
                            · first | exact trivial | exact ⟨trivial, trivial⟩ | exact ⟨trivial, trivial, trivial⟩ | exact ⟨trivial, trivial, trivial, trivial⟩ | (simp only [allP, and_true, true_and]; done) | (simp only [allP, and_true, true_and]; omega)
                            · simp [selOk, pos]
                            · simp
                            · first | exact ⟨rfl, rfl⟩ | (simp only [go_sem, Nat.reduceBEq, Nat.reduceLT, Nat.reduceAdd, Nat.reduceLeDiff, Nat.reduceSub, Nat.reduceEqDiff, Int.reduceToNat, reduceCtorEq, ↓reduceIte]; done) | (simp [go_sem, Nat.reduceBEq, Nat.reduceLT, Nat.reduceAdd, Nat.reduceLeDiff, Nat.reduceSub, Nat.reduceEqDiff, Int.reduceToNat, reduceCtorEq, ↓reduceIte]; done) | (simp only [go_sem, Nat.reduceBEq, Nat.reduceLT, Nat.reduceAdd, Nat.reduceLeDiff, Nat.reduceSub, Nat.reduceEqDiff, Int.reduceToNat, reduceCtorEq, ↓reduceIte]; exact ⟨rfl, rfl⟩) | (simp_all [go_sem, Nat.reduceBEq, Nat.reduceLT, Nat.reduceAdd, Nat.reduceLeDiff, Nat.reduceSub, Nat.reduceEqDiff, Int.reduceToNat, reduceCtorEq, ↓reduceIte]; done)
                        · replace h := bite_t h rfl
                          refine awp_to [(2, .v (.bool y_7))] [.row false (.ints .u8 a0), .glob 0 (.ints .u8 tab0), .box [.v (.int .i64 y), .sl 3], .row true (.trips y_1), .row true (.ints .i64 t6s_1), .row true (.ints .i64 y_6), .row true (.trips y_9)] ?_ ?_
                          · clear h
                            intro K hK
                            refine awp_region ftCOk ?_
                            simp (maxSteps := 4000000) only [go_sem, Nat.reduceBEq, Nat.reduceLT, Nat.reduceAdd, Nat.reduceLeDiff, Nat.reduceSub, Nat.reduceEqDiff, Int.reduceToNat, reduceCtorEq, ↓reduceIte, hb37]
                            repeat' (first | refine And.intro ?_ ?_ | intro hg)
                            all_goals (try simp (disch := omega) only [wrap_fits])
                            all_goals first
                              | (refine hK _ _ ?_; exact Red.auto)
                              | exact trivial
                              | assumption
                              | omega
                              | exact wrap_fits (by omega) (by omega)
                              | (refine wpA_callA (k_impl_TurnGraph y y_1 (h := hr0)) [3] [] ?_
                                 rintro x Hc' ⟨rfl, rfl⟩ hlen
                                 refine vcOps_sound ftCOk ?_
                                 simp (maxSteps := 4000000) only [go_sem, Nat.reduceBEq, Nat.reduceLT, Nat.reduceAdd, Nat.reduceLeDiff, Nat.reduceSub, Nat.reduceEqDiff, Int.reduceToNat, reduceCtorEq, ↓reduceIte, hb37]
                                 repeat' (first | refine And.intro ?_ ?_ | intro hg)
                                 all_goals (try simp (disch := omega) only [wrap_fits])
                                 all_goals first
                                   | (refine hK _ _ ?_; exact Red.auto)
                                   | exact trivial
                                   | assumption
                                   | omega
                                   | exact wrap_fits (by omega) (by omega)
                                   | (refine wpA_callA (k_impl_OrderForward y_8 y_9 t6s_1 (h := hr1)) [6, 4] [] ?_
                                      rintro x Hc' ⟨rfl, rfl⟩ hlen
                                      refine vcOps_sound ftCOk ?_
                                      simp (maxSteps := 4000000) only [go_sem, Nat.reduceBEq, Nat.reduceLT, Nat.reduceAdd, Nat.reduceLeDiff, Nat.reduceSub, Nat.reduceEqDiff, Int.reduceToNat, reduceCtorEq, ↓reduceIte, hb37]
                                      repeat' (first | refine And.intro ?_ ?_ | intro hg)
                                      all_goals (try simp (disch := omega) only [wrap_fits])
                                      all_goals first
                                        | (refine hK _ _ ?_; exact Red.auto)
                                        | exact trivial
                                        | assumption
                                        | omega
                                        | exact wrap_fits (by omega) (by omega)
                                        | (simp_all; done)
                                        | (simp_all; omega))
                                   | (simp_all; done)
                                   | (simp_all; omega))
                              | (simp_all; done)
                              | (simp_all; omega)
                          · clear hr0 hr1
                            refine awp_ret ?_
                            (try simp only [Thn, InBlk, ↓reduceIte, Nat.reduceEqDiff])
                            obtain rfl := Option.some.inj h
                            refine ⟨by simp, _, [0, 1], (by simp only [go_sem, Nat.reduceBEq, Nat.reduceLT, Nat.reduceAdd, Nat.reduceLeDiff, Nat.reduceSub, Nat.reduceEqDiff, Int.reduceToNat, reduceCtorEq, ↓reduceIte]; exact rfl), ?_, ?_, ?_, ?_⟩
                            · first | exact trivial | exact ⟨trivial, trivial⟩ | exact ⟨trivial, trivial, trivial⟩ | exact ⟨trivial, trivial, trivial, trivial⟩ | (simp only [allP, and_true, true_and]; done) | (simp only [allP, and_true, true_and]; omega)
                            · simp [selOk, pos]
                            · simp
                            · first | exact ⟨rfl, rfl⟩ | (simp only [go_sem, Nat.reduceBEq, Nat.reduceLT, Nat.reduceAdd, Nat.reduceLeDiff, Nat.reduceSub, Nat.reduceEqDiff, Int.reduceToNat, reduceCtorEq, ↓reduceIte]; done) | (simp [go_sem, Nat.reduceBEq, Nat.reduceLT, Nat.reduceAdd, Nat.reduceLeDiff, Nat.reduceSub, Nat.reduceEqDiff, Int.reduceToNat, reduceCtorEq, ↓reduceIte]; done) | (simp only [go_sem, Nat.reduceBEq, Nat.reduceLT, Nat.reduceAdd, Nat.reduceLeDiff, Nat.reduceSub, Nat.reduceEqDiff, Int.reduceToNat, reduceCtorEq, ↓reduceIte]; exact ⟨rfl, rfl⟩) | (simp_all [go_sem, Nat.reduceBEq, Nat.reduceLT, Nat.reduceAdd, Nat.reduceLeDiff, Nat.reduceSub, Nat.reduceEqDiff, Int.reduceToNat, reduceCtorEq, ↓reduceIte]; done)
                      · rw [Bool.not_eq_true] at hb37
                        replace h := bite_f h hb37
                        have hb37d := hb37
                        try simp only [decide_eq_true_eq, decide_eq_false_iff_not, beq_iff_eq, bne_iff_ne, ne_eq, beq_eq_false_iff_ne, bne_eq_false_iff_eq, Bool.not_eq_true', Bool.not_eq_false', Bool.and_eq_true, Bool.or_eq_true, Bool.and_eq_false_iff, Bool.or_eq_false_iff] at hb37d
                        refine awp_to [(2, .v (.bool false))] [.row false (.ints .u8 a0), .glob 0 (.ints .u8 tab0), .box [.v (.int .i64 y), .sl 3], .row true (.trips y_1), .row true (.ints .i64 t6s_1), .row true (.ints .i64 y_6), .row true (.trips y_9)] ?_ ?_
                        · clear h
                          intro K hK
                          refine awp_region ftCOk ?_
                          simp (maxSteps := 4000000) only [go_sem, Nat.reduceBEq, Nat.reduceLT, Nat.reduceAdd, Nat.reduceLeDiff, Nat.reduceSub, Nat.reduceEqDiff, Int.reduceToNat, reduceCtorEq, ↓reduceIte, hb37]
                          repeat' (first | refine And.intro ?_ ?_ | intro hg)
                          all_goals (try simp (disch := omega) only [wrap_fits])
                          all_goals first
                            | (refine hK _ _ ?_; exact Red.auto)
                            | exact trivial
                            | assumption
                            | omega
                            | exact wrap_fits (by omega) (by omega)
                            | (refine wpA_callA (k_impl_TurnGraph y y_1 (h := hr0)) [3] [] ?_
                               rintro x Hc' ⟨rfl, rfl⟩ hlen
                               refine vcOps_sound ftCOk ?_
                               simp (maxSteps := 4000000) only [go_sem, Nat.reduceBEq, Nat.reduceLT, Nat.reduceAdd, Nat.reduceLeDiff, Nat.reduceSub, Nat.reduceEqDiff, Int.reduceToNat, reduceCtorEq, ↓reduceIte, hb37]
                               repeat' (first | refine And.intro ?_ ?_ | intro hg)
                               all_goals (try simp (disch := omega) only [wrap_fits])
                               all_goals first
                                 | (refine hK _ _ ?_; exact Red.auto)
                                 | exact trivial
                                 | assumption
                                 | omega
                                 | exact wrap_fits (by omega) (by omega)
                                 | (refine wpA_callA (k_impl_OrderForward y_8 y_9 t6s_1 (h := hr1)) [6, 4] [] ?_
                                    rintro x Hc' ⟨rfl, rfl⟩ hlen
                                    refine vcOps_sound ftCOk ?_
                                    simp (maxSteps := 4000000) only [go_sem, Nat.reduceBEq, Nat.reduceLT, Nat.reduceAdd, Nat.reduceLeDiff, Nat.reduceSub, Nat.reduceEqDiff, Int.reduceToNat, reduceCtorEq, ↓reduceIte, hb37]
                                    repeat' (first | refine And.intro ?_ ?_ | intro hg)
                                    all_goals (try simp (disch := omega) only [wrap_fits])
                                    all_goals first
                                      | (refine hK _ _ ?_; exact Red.auto)
                                      | exact trivial
                                      | assumption
                                      | omega
                                      | exact wrap_fits (by omega) (by omega)
                                      | (simp_all; done)
                                      | (simp_all; omega))
                                 | (simp_all; done)
                                 | (simp_all; omega))
                            | (simp_all; done)
                            | (simp_all; omega)
                        · clear hr0 hr1
                          refine awp_ret ?_
                          (try simp only [Thn, InBlk, ↓reduceIte, Nat.reduceEqDiff])
                          obtain rfl := Option.some.inj h
                          refine ⟨by simp, _, [0, 1], (by simp only [go_sem, Nat.reduceBEq, Nat.reduceLT, Nat.reduceAdd, Nat.reduceLeDiff, Nat.reduceSub, Nat.reduceEqDiff, Int.reduceToNat, reduceCtorEq, ↓reduceIte]; exact rfl), ?_, ?_, ?_, ?_⟩
                          · first | exact trivial | exact ⟨trivial, trivial⟩ | exact ⟨trivial, trivial, trivial⟩ | exact ⟨trivial, trivial, trivial, trivial⟩ | (simp only [allP, and_true, true_and]; done) | (simp only [allP, and_true, true_and]; omega)
                          · simp [selOk, pos]
                          · simp
                          · first | exact ⟨rfl, rfl⟩ | (simp only [go_sem, Nat.reduceBEq, Nat.reduceLT, Nat.reduceAdd, Nat.reduceLeDiff, Nat.reduceSub, Nat.reduceEqDiff, Int.reduceToNat, reduceCtorEq, ↓reduceIte]; done) | (simp [go_sem, Nat.reduceBEq, Nat.reduceLT, Nat.reduceAdd, Nat.reduceLeDiff, Nat.reduceSub, Nat.reduceEqDiff, Int.reduceToNat, reduceCtorEq, ↓reduceIte]; done) | (simp only [go_sem, Nat.reduceBEq, Nat.reduceLT, Nat.reduceAdd, Nat.reduceLeDiff, Nat.reduceSub, Nat.reduceEqDiff, Int.reduceToNat, reduceCtorEq, ↓reduceIte]; exact ⟨rfl, rfl⟩) | (simp_all [go_sem, Nat.reduceBEq, Nat.reduceLT, Nat.reduceAdd, Nat.reduceLeDiff, Nat.reduceSub, Nat.reduceEqDiff, Int.reduceToNat, reduceCtorEq, ↓reduceIte]; done)
end Go.Proofs.YtdjckcedpnabpaaDoor

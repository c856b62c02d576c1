/- The code computes the functions that were taken out of it. -/
import Derived.Test.YtaogppnbeijjmaaDoorLw1
set_option maxRecDepth 100000
set_option maxHeartbeats 4000000
set_option linter.unusedSimpArgs false
set_option linter.unusedVariables false
namespace Go.Proofs.YtaogppnbeijjmaaDoor
open Go Go.Av
attribute [local irreducible] wpA OpK awp
attribute [local go_sem] frs_nil frs_cons pw8_32 pw16_32 pw24_32 pw27_32 eqAgg eqAggV buildQ placesOf buildCells List.toList_toArray vcQg gfind gfree gput un3_agg unI_int unB_bool unK_int guardU skipV resVs resV vcD_nil vcD_cons vcT_fin vcT_free vcT_one vcT_two opS vcD1 roH roOb ftNone ftAdd oneOrTup AV.detup AV.ren AV.ren2 AV.ren1 pos selH AObj.ren fitAll fit fit1 fit1s matchAll matchOb exIds AObj.excl Env.killp pastH setAll upId AObj.past AObj.back AV.killp AV.killp1 AV.killp2 Nat.sub_self Nat.lt_irrefl Bool.or_self vcOps vcOp vcQs vcQ dstOk quiet eff pcall calleeF plain valsOf ev ofConst argEnv List.lookup Nat.add_eq decide_true decide_false Env.put binV wrapTo unV convV loadQ indexQ callQ builtinQ rd rdI globC AObj.globC partAV isAggD isArrayD addrAdd boxE storeE storeCE makeE makeNE buildNE nestZero Cont.child Cont.setChild buildSliceE buildFold appendE appendNE nestApp appendV promoteH sliceE boundAV subObj asCells Value.oneCell' contZero Cont.sets Cont.app Cont.sub Cont.len Cont.esz Cont.cell Cont.cells Cont.flat AV.det AV.det1 guardV AObj.unview AObj.kill Env.kill AV.kill AV.kill1 AV.kill2 fits64 Option.getD_some Option.getD_none Option.map_some Option.map_none Option.bind_some List.map_cons List.map_nil List.getElem?_cons_zero List.getElem?_cons_succ List.getElem?_nil true_and and_true List.getElem?_toArray List.cons_append List.nil_append List.length_cons List.length_nil List.set_cons_zero List.set_cons_succ List.take_succ_cons List.take_zero List.drop_succ_cons List.drop_zero List.drop_nil List.take_nil List.contains_cons List.contains_nil List.elem_cons List.elem_nil Bool.not_true Bool.not_false Bool.false_eq_true Bool.or_false Bool.or_true Bool.and_true Bool.and_false Bool.true_and Bool.false_and List.all_cons List.all_nil List.size_toArray Nat.lt_add_one Nat.zero_lt_succ Nat.one_ne_zero Nat.zero_ne_one and_self List.replicate_succ List.replicate_zero Int.toNat_natCast Int.toNat_zero Value.cells false_implies true_implies forall_const Thn InBlk Nat.zero_add Nat.add_zero Int.zero_add Ele Env.ren Option.some.injEq AV.v.injEq AV.sl.injEq AV.pp.injEq AV.ep.injEq AV.agg.injEq List.cons.injEq Value.int.injEq Value.bool.injEq Value.string.injEq true_or or_true or_false false_or tsz0 tby0 tz0 Tryd.underlying0 tsz1 tby1 tz1 Tryd.underlying1 tsz2 tby2 tz2 Tryd.underlying2 tsz3 tby3 tz3 Tryd.underlying3 tsz4 tby4 tz4 Tryd.underlying4 tsz5 tby5 tz5 Tryd.underlying5 tsz6 tby6 tz6 Tryd.underlying6 tsz7 tby7 tz7 Tryd.underlying7 fo7_0 fo7_1 fo7_2 fo7_3 tsz8 tby8 tz8 Tryd.underlying8 fo8_0 fo8_1 fo8_2 fo8_3 tsz9 tby9 Tryd.underlying9 tsz10 tby10 Tryd.underlying10 tsz12 tby12 tz12 Tryd.underlying12 tsz16 tby16 tz16 Tryd.underlying16 tsz17 tby17 tz17 Tryd.underlying17 tsz20 tby20 tz20 Tryd.underlying20 tsz21 tby21 tz21 Tryd.underlying21 tsz22 tby22 tz22 Tryd.underlying22 tsz23 tby23 tz23 Tryd.underlying23 tsz24 tby24 tz24 Tryd.underlying24 fo24_0 fo24_1 tsz25 tby25 tz25 Tryd.underlying25 fo25_0 fo25_1 tsz26 tby26 tz26 Tryd.underlying26 peq26 fo26_0 fo26_1 fo26_2 tsz27 tby27 tz27 Tryd.underlying27 peq27 fo27_0 fo27_1 fo27_2 tsz28 tby28 tz28 Tryd.underlying28 tsz30 tby30 tz30 Tryd.underlying30 tsz32 tby32 tz32 Tryd.underlying32 tsz34 tby34 tz34 Tryd.underlying34 tsz37 tby37 tz37 Tryd.underlying37 tsz40 tby40 tz40 Tryd.underlying40 tsz44 tby44 tz44 Tryd.underlying44 tsz46 tby46 tz46 Tryd.underlying46 tsz53 tby53 tz53 Tryd.underlying53 tsz55 tby55 tz55 Tryd.underlying55 fo55_0 fo55_1 tsz56 tby56 tz56 Tryd.underlying56 fo56_0 fo56_1 tsz57 tby57 tz57 Tryd.underlying57 tsz66 tby66 tz66 Tryd.underlying66 tsz67 tby67 tz67 Tryd.underlying67 tsz73 tby73 tz73 Tryd.underlying73 tsz77 tby77 tz77 Tryd.underlying77 tsz78 tby78 tz78 Tryd.underlying78 tsz79 tby79 tz79 Tryd.underlying79 tsz80 tby80 tz80 Tryd.underlying80 tsz81 tby81 tz81 Tryd.underlying81 tsz82 tby82 tz82 Tryd.underlying82 tsz83 tby83 tz83 Tryd.underlying83 tsz84 tby84 tz84 Tryd.underlying84 tsz85 tby85 tz85 Tryd.underlying85 tsz86 tby86 tz86 Tryd.underlying86 fo86_0 fo86_1 fo86_2 fo86_3 fo86_4 fo86_5 fo86_6 fo86_7 fo86_8 fo86_9 fo86_10 tsz87 tby87 tz87 Tryd.underlying87 fo87_0 fo87_1 fo87_2 fo87_3 fo87_4 fo87_5 fo87_6 fo87_7 fo87_8 fo87_9 fo87_10 tsz88 tby88 tz88 Tryd.underlying88 l1InG l4BeforeG isNaNG cmpIntG cmpEndsG ftC
theorem k_impl_vertexMask_list (a0 : Int) {r : List Int} (h : impl_vertexMask_list a0 = some r) :
    FnA Tryd.prog 35 [.v (.int .u32 a0)] [.glob 0 (.ints .u8 tab0)] [] (fun x H => x = .sl 1 ∧ H = [.glob 0 (.ints .u8 tab0), .row true (.ints .i64 r)]) := by
  unfold impl_vertexMask_list at h
  refine FnA.of (N := 16) (pin := [0]) (rs := [.tmp 2]) Tryd.func35 rfl en35 rfl rfl (by simp) (by simp; try omega) ?_
  refine awp_reg ftCOk [(0, .v (.int .u32 a0))] [.glob 0 (.ints .u8 tab0)] ?_
  refine awp_reg ftCOk [(0, .v (.int .u32 a0)), (3, .v (.slice none 0 0))] [.glob 0 (.ints .u8 tab0)] ?_
  refine awp_seq fun K18 hK18 => ?_
  refine awp_block ?_
  replace h := bind_some h
  obtain ⟨t3s_1, hx, h⟩ := h
  refine awp_loopL hx (fun ((t0, t3s) : Int × List Int) => [(0, .v (.int .u32 t0)), (3, .sl 1)]) (fun ((t0, t3s) : Int × List Int) => [.glob 0 (.ints .u8 tab0), .row true (.ints .i64 t3s)]) (fun (t3s_1 : List Int) => Exit.exit 0) (fun (t3s_1 : List Int) => [(3, .sl 1)]) (fun (t3s_1 : List Int) => [.glob 0 (.ints .u8 tab0), .row true (.ints .i64 t3s_1)]) ?_ ?_ ?_ ?_
  · rintro t3s_1 hy <;> cases hy
  · clear h hx
    refine Red.trans (Red.nil (t := 3) (.ints .i64 []) rfl rfl) ?_
    exact Red.auto
  · clear h hx
    rintro ⟨t0, t3s⟩ r h
    unfold impl_vertexMask_list_b0 at h
    try dsimp only at h
    try dsimp only
    refine awp_seq fun K32 hK32 => ?_
    refine awp_reg ftCOk [(0, .v (.int .u32 t0)), (3, .sl 1), (5, .v (.bool (t0 != 0)))] [.glob 0 (.ints .u8 tab0), .row true (.ints .i64 t3s)] ?_
    refine awp_cond (t := 5) rfl (fun hc33 => ?_) (fun hc33 => ?_)
    · replace h := bite_t h hc33
      refine awp_skip ?_
      (try simp only [Thn, InBlk, ↓reduceIte, Nat.reduceEqDiff])
      refine hK32 _ _ ?_
      clear hK32
      refine awp_seq fun K34 hK34 => ?_
      refine awp_block ?_
      replace h := bind_some h
      obtain ⟨y, hr0, h⟩ := h
      try dsimp only at h
      replace h := chk_some h
      obtain ⟨hp1, h⟩ := h
      refine awp_end [(0, .v (.int .u32 t0)), (3, .sl 1)] [.glob 0 (.ints .u8 tab0), .row true (.ints .i64 (t3s ++ [y])), .row true (.ints .i64 [y])] ?_ ?_
      · clear h
        intro K hK
        refine awp_region ftCOk ?_
        simp (maxSteps := 4000000) only [go_sem, Nat.reduceBEq, Nat.reduceLT, Nat.reduceAdd, Nat.reduceLeDiff, Nat.reduceSub, Nat.reduceEqDiff, Int.reduceToNat, reduceCtorEq, ↓reduceIte]
        repeat' (first | refine And.intro ?_ ?_ | intro hg)
        all_goals (try simp (disch := omega) only [wrap_fits])
        all_goals first
          | (refine hK _ _ ?_; exact Red.auto)
          | exact trivial
          | assumption
          | omega
          | exact wrap_fits (by omega) (by omega)
          | (refine wpA_callA (k_impl_vertexMask_least t0 (h := hr0)) [0] [] ?_
             rintro x Hc' ⟨rfl, rfl⟩ hlen
             refine vcOps_sound ftCOk ?_
             simp (maxSteps := 4000000) only [go_sem, Nat.reduceBEq, Nat.reduceLT, Nat.reduceAdd, Nat.reduceLeDiff, Nat.reduceSub, Nat.reduceEqDiff, Int.reduceToNat, reduceCtorEq, ↓reduceIte]
             repeat' (first | refine And.intro ?_ ?_ | intro hg)
             all_goals (try simp (disch := omega) only [wrap_fits])
             all_goals first
               | (refine hK _ _ ?_; exact Red.auto)
               | exact trivial
               | assumption
               | omega
               | exact wrap_fits (by omega) (by omega)
               | (simp_all; done)
               | (simp_all; omega))
          | (simp_all; done)
          | (simp_all; omega)
      · clear hr0 hp1
        (try simp only [Thn, InBlk, ↓reduceIte, Nat.reduceEqDiff])
        (try simp only [Thn, InBlk, ↓reduceIte, Nat.reduceEqDiff])
        refine hK34 _ _ ?_
        clear hK34
        refine awp_regE ftCOk [(0, .v (.int .u32 (bitsV .and .u32 t0 (IntKind.u32.wrap (t0 - 1))))), (3, .sl 1)] [.glob 0 (.ints .u8 tab0), .row true (.ints .i64 (t3s ++ [y])), .row true (.ints .i64 [y])] ?_
        obtain rfl := Option.some.inj h
        refine LoopQ.next ?_
        exact Red.selA [0, 1] Red.auto
    · replace h := bite_f h hc33
      refine awp_exit ?_
      (try simp only [Thn, InBlk, ↓reduceIte, Nat.reduceEqDiff])
      obtain rfl := Option.some.inj h
      refine LoopQ.out rfl ?_
      exact Red.auto
  · clear hx
    skip
    · try dsimp only [Sum.elim_inl, Sum.elim_inr] at h
      try dsimp only [Sum.elim_inl, Sum.elim_inr]
      (try simp only [Thn, InBlk, ↓reduceIte, Nat.reduceEqDiff])
      (try simp only [Thn, InBlk, ↓reduceIte, Nat.reduceEqDiff])
      (try simp only [Thn, InBlk, ↓reduceIte, Nat.reduceEqDiff])
      refine hK18 _ _ ?_
      clear hK18
      refine awp_reg ftCOk [(2, .sl 1)] [.glob 0 (.ints .u8 tab0), .row true (.ints .i64 t3s_1)] ?_
      refine awp_ret ?_
      (try simp only [Thn, InBlk, ↓reduceIte, Nat.reduceEqDiff])
      obtain rfl := Option.some.inj h
      refine ⟨by simp, _, [0, 1], (by simp only [go_sem, Nat.reduceBEq, Nat.reduceLT, Nat.reduceAdd, Nat.reduceLeDiff, Nat.reduceSub, Nat.reduceEqDiff, Int.reduceToNat, reduceCtorEq, ↓reduceIte]; exact rfl), ?_, ?_, ?_, ?_⟩
      · first | exact trivial | exact ⟨trivial, trivial⟩ | exact ⟨trivial, trivial, trivial⟩ | exact ⟨trivial, trivial, trivial, trivial⟩ | (simp only [allP, and_true, true_and]; done) | (simp only [allP, and_true, true_and]; omega)
      · simp [selOk, pos]
      · simp
      · first | exact ⟨rfl, rfl⟩ | (simp only [go_sem, Nat.reduceBEq, Nat.reduceLT, Nat.reduceAdd, Nat.reduceLeDiff, Nat.reduceSub, Nat.reduceEqDiff, Int.reduceToNat, reduceCtorEq, ↓reduceIte]; done) | (simp [go_sem, Nat.reduceBEq, Nat.reduceLT, Nat.reduceAdd, Nat.reduceLeDiff, Nat.reduceSub, Nat.reduceEqDiff, Int.reduceToNat, reduceCtorEq, ↓reduceIte]; done) | (simp only [go_sem, Nat.reduceBEq, Nat.reduceLT, Nat.reduceAdd, Nat.reduceLeDiff, Nat.reduceSub, Nat.reduceEqDiff, Int.reduceToNat, reduceCtorEq, ↓reduceIte]; exact ⟨rfl, rfl⟩) | (simp_all [go_sem, Nat.reduceBEq, Nat.reduceLT, Nat.reduceAdd, Nat.reduceLeDiff, Nat.reduceSub, Nat.reduceEqDiff, Int.reduceToNat, reduceCtorEq, ↓reduceIte]; done)
theorem k_impl_stepsOver (a0 : List Int) (a1 : Int) {r : List Int} (h : impl_stepsOver a0 a1 = some r) :
    FnA Tryd.prog 25 [.sl 0, .v (.int .i64 a1)] [.row false (.ints .u32 a0), .glob 0 (.ints .u8 tab0)] [] (fun x H => x = .sl 2 ∧ H = [.row false (.ints .u32 a0), .glob 0 (.ints .u8 tab0), .row true (.ints .i64 r)]) := by
  unfold impl_stepsOver at h
  refine FnA.of (N := 55) (pin := [0, 1]) (rs := [.tmp 4]) Tryd.func25 rfl en25 rfl rfl (by simp) (by simp; try omega) ?_
  refine awp_reg ftCOk [(0, .sl 0), (1, .v (.int .i64 a1))] [.row false (.ints .u32 a0), .glob 0 (.ints .u8 tab0)] ?_
  replace h := bind_some h
  obtain ⟨y, hr0, h⟩ := h
  try dsimp only at h
  refine awp_to [(0, .sl 0), (1, .v (.int .i64 a1)), (5, .sl 2)] [.row false (.ints .u32 a0), .glob 0 (.ints .u8 tab0), .row true (.ints .i64 y)] ?_ ?_
  · clear h
    intro K hK
    refine awp_region ftCOk ?_
    simp (maxSteps := 4000000) only [go_sem, Nat.reduceBEq, Nat.reduceLT, Nat.reduceAdd, Nat.reduceLeDiff, Nat.reduceSub, Nat.reduceEqDiff, Int.reduceToNat, reduceCtorEq, ↓reduceIte]
    repeat' (first | refine And.intro ?_ ?_ | intro hg)
    all_goals (try simp (disch := omega) only [wrap_fits])
    all_goals first
      | (refine hK _ _ ?_; exact Red.auto)
      | exact trivial
      | assumption
      | omega
      | exact wrap_fits (by omega) (by omega)
      | (refine wpA_callA (k_impl_unknowns (a0.length : Int) (h := hr0)) [] [] ?_
         rintro x Hc' ⟨rfl, rfl⟩ hlen
         refine vcOps_sound ftCOk ?_
         simp (maxSteps := 4000000) only [go_sem, Nat.reduceBEq, Nat.reduceLT, Nat.reduceAdd, Nat.reduceLeDiff, Nat.reduceSub, Nat.reduceEqDiff, Int.reduceToNat, reduceCtorEq, ↓reduceIte]
         repeat' (first | refine And.intro ?_ ?_ | intro hg)
         all_goals (try simp (disch := omega) only [wrap_fits])
         all_goals first
           | (refine hK _ _ ?_; exact Red.auto)
           | exact trivial
           | assumption
           | omega
           | exact wrap_fits (by omega) (by omega)
           | (simp_all; done)
           | (simp_all; omega))
      | (simp_all; done)
      | (simp_all; omega)
  · clear hr0
    replace h := chk_some h
    obtain ⟨hp0, h⟩ := h
    refine awp_reg ftCOk [(0, .sl 0), (1, .v (.int .i64 a1)), (5, .sl 2)] [.row false (.ints .u32 a0), .glob 0 (.ints .u8 tab0), .row true (.ints .i64 (y.set a1.toNat 0))] ?_
    clear hp0
    refine awp_reg ftCOk [(0, .sl 0), (5, .sl 2), (6, .sl 3)] [.row false (.ints .u32 a0), .glob 0 (.ints .u8 tab0), .row true (.ints .i64 (y.set a1.toNat 0)), .row true (.ints .i64 [a1])] ?_
    refine awp_seq fun K59 hK59 => ?_
    refine awp_block ?_
    replace h := bind_some h
    obtain ⟨t5s_1, hx, h⟩ := h
    refine awp_loopL hx (fun ((t5s, t6s) : List Int × List Int) => [(0, .sl 0), (5, .sl 2), (6, .sl 3)]) (fun ((t5s, t6s) : List Int × List Int) => [.row false (.ints .u32 a0), .glob 0 (.ints .u8 tab0), .row true (.ints .i64 t5s), .row true (.ints .i64 t6s)]) (fun (t5s_1 : List Int) => Exit.exit 0) (fun (t5s_1 : List Int) => [(5, .sl 2)]) (fun (t5s_1 : List Int) => [.row false (.ints .u32 a0), .glob 0 (.ints .u8 tab0), .row true (.ints .i64 t5s_1)]) ?_ ?_ ?_ ?_
    · rintro t5s_1 hy <;> cases hy
    · clear h hx
      exact Red.auto
    · clear h hx
      rintro ⟨t5s, t6s⟩ r h
      unfold impl_stepsOver_b1 at h
      try dsimp only at h
      try dsimp only
      refine awp_seq fun K99 hK99 => ?_
      refine awp_reg ftCOk [(0, .sl 0), (5, .sl 2), (6, .sl 3), (20, .v (.bool (decide (0 < (t6s.length : Int)))))] [.row false (.ints .u32 a0), .glob 0 (.ints .u8 tab0), .row true (.ints .i64 t5s), .row true (.ints .i64 t6s)] ?_
      refine awp_cond (t := 20) rfl (fun hc100 => ?_) (fun hc100 => ?_)
      · replace h := bite_t h hc100
        refine awp_skip ?_
        (try simp only [Thn, InBlk, ↓reduceIte, Nat.reduceEqDiff])
        refine hK99 _ _ ?_
        clear hK99
        refine awp_block ?_
        replace h := chk_some h
        obtain ⟨hp0, h⟩ := h
        refine awp_reg ftCOk [(0, .sl 0), (5, .sl 2), (6, .sl 3), (7, .v (.int .i64 (t6s.getD 0 0)))] [.row false (.ints .u32 a0), .glob 0 (.ints .u8 tab0), .row true (.ints .i64 t5s), .row true (.ints .i64 t6s)] ?_
        clear hp0
        replace h := chk_some h
        obtain ⟨hp0, h⟩ := h
        refine awp_reg ftCOk [(0, .sl 0), (5, .sl 2), (6, .sl 4), (7, .v (.int .i64 (t6s.getD 0 0)))] [.row false (.ints .u32 a0), .glob 0 (.ints .u8 tab0), .row true (.ints .i64 t5s), .row true (.ints .i64 t6s), .view 3 (.ints .i64 ((t6s.take t6s.length).drop 1))] ?_
        clear hp0
        refine awp_promote 3 4 (by rfl) (by rfl) (by exact rfl) ?_
        replace h := chk_some h
        obtain ⟨hp0, h⟩ := h
        replace h := bind_some h
        obtain ⟨y_1, hr1, h⟩ := h
        try dsimp only at h
        refine awp_to [(0, .sl 0), (5, .sl 2), (6, .sl 4), (7, .v (.int .i64 (t6s.getD 0 0))), (30, .sl 5), (31, .v (.int .i64 (y_1.length : Int))), (32, .v (.int .i64 0))] [.row false (.ints .u32 a0), .glob 0 (.ints .u8 tab0), .row true (.ints .i64 t5s), .dead, .row true (.ints .i64 ((t6s.take t6s.length).drop 1)), .row true (.ints .i64 y_1)] ?_ ?_
        · clear h
          intro K hK
          refine awp_region ftCOk ?_
          simp (maxSteps := 4000000) only [go_sem, Nat.reduceBEq, Nat.reduceLT, Nat.reduceAdd, Nat.reduceLeDiff, Nat.reduceSub, Nat.reduceEqDiff, Int.reduceToNat, reduceCtorEq, ↓reduceIte]
          repeat' (first | refine And.intro ?_ ?_ | intro hg)
          all_goals (try simp (disch := omega) only [wrap_fits])
          all_goals first
            | (refine hK _ _ ?_; exact Red.auto)
            | exact trivial
            | assumption
            | omega
            | exact wrap_fits (by omega) (by omega)
            | (refine wpA_callA (k_impl_vertexMask_list (a0.getD ((t6s.getD 0 0).toNat) 0) (h := hr1)) [1] [] ?_
               rintro x Hc' ⟨rfl, rfl⟩ hlen
               refine vcOps_sound ftCOk ?_
               simp (maxSteps := 4000000) only [go_sem, Nat.reduceBEq, Nat.reduceLT, Nat.reduceAdd, Nat.reduceLeDiff, Nat.reduceSub, Nat.reduceEqDiff, Int.reduceToNat, reduceCtorEq, ↓reduceIte]
               repeat' (first | refine And.intro ?_ ?_ | intro hg)
               all_goals (try simp (disch := omega) only [wrap_fits])
               all_goals first
                 | (refine hK _ _ ?_; exact Red.auto)
                 | exact trivial
                 | assumption
                 | omega
                 | exact wrap_fits (by omega) (by omega)
                 | (simp_all; done)
                 | (simp_all; omega))
            | (simp_all; done)
            | (simp_all; omega)
        · clear hp0 hr1
          refine awp_block ?_
          replace h := bind_some h
          obtain ⟨x116, hx, h⟩ := h
          refine awp_loopL hx (fun ((t32, t5s_2, t6s_1) : Int × List Int × List Int) => [(0, .sl 0), (5, .sl 2), (6, .sl 3), (7, .v (.int .i64 (t6s.getD 0 0))), (30, .sl 4), (31, .v (.int .i64 (y_1.length : Int))), (32, .v (.int .i64 t32))]) (fun ((t32, t5s_2, t6s_1) : Int × List Int × List Int) => [.row false (.ints .u32 a0), .glob 0 (.ints .u8 tab0), .row true (.ints .i64 t5s_2), .row true (.ints .i64 t6s_1), .row true (.ints .i64 y_1)]) (fun ((t5s_3, t6s_2) : List Int × List Int) => Exit.exit 2) (fun ((t5s_3, t6s_2) : List Int × List Int) => [(0, .sl 0), (5, .sl 2), (6, .sl 3)]) (fun ((t5s_3, t6s_2) : List Int × List Int) => [.row false (.ints .u32 a0), .glob 0 (.ints .u8 tab0), .row true (.ints .i64 t5s_3), .row true (.ints .i64 t6s_2)]) ?_ ?_ ?_ ?_
          · rintro ⟨t5s_3, t6s_2⟩ hy <;> cases hy
          · clear h hx
            exact Red.selA [0, 1, 2, 4, 5] Red.auto
          · clear h hx
            rintro ⟨t32, t5s_2, t6s_1⟩ r h
            unfold impl_stepsOver_b0 at h
            try dsimp only at h
            try dsimp only
            refine awp_reg ftCOk [(0, .sl 0), (5, .sl 2), (6, .sl 3), (7, .v (.int .i64 (t6s.getD 0 0))), (30, .sl 4), (31, .v (.int .i64 (y_1.length : Int))), (32, .v (.int .i64 t32)), (33, .v (.bool (decide (t32 < (y_1.length : Int)))))] [.row false (.ints .u32 a0), .glob 0 (.ints .u8 tab0), .row true (.ints .i64 t5s_2), .row true (.ints .i64 t6s_1), .row true (.ints .i64 y_1)] ?_
            refine awp_seq fun K112 hK112 => ?_
            refine awp_cond (t := 33) rfl (fun hc113 => ?_) (fun hc113 => ?_)
            · replace h := bite_t h hc113
              refine awp_skip ?_
              (try simp only [Thn, InBlk, ↓reduceIte, Nat.reduceEqDiff])
              refine hK112 _ _ ?_
              clear hK112
              refine awp_join h (fun ((t5s_4, t6s_3) : List Int × List Int) => [(0, .sl 0), (5, .sl 2), (6, .sl 3), (7, .v (.int .i64 (t6s.getD 0 0))), (30, .sl 4), (31, .v (.int .i64 (y_1.length : Int))), (32, .v (.int .i64 t32))]) (fun ((t5s_4, t6s_3) : List Int × List Int) => [.row false (.ints .u32 a0), .glob 0 (.ints .u8 tab0), .row true (.ints .i64 t5s_4), .row true (.ints .i64 t6s_3), .row true (.ints .i64 y_1)]) ?_ ?_
              · clear h
                intro k h
                try dsimp only at h
                refine awp_block ?_
                replace h := chk_some h
                obtain ⟨hp0, h⟩ := h
                refine awp_reg ftCOk [(0, .sl 0), (5, .sl 2), (6, .sl 3), (7, .v (.int .i64 (t6s.getD 0 0))), (9, .v (.int .i64 (y_1.getD t32.toNat 0))), (30, .sl 4), (31, .v (.int .i64 (y_1.length : Int))), (32, .v (.int .i64 t32))] [.row false (.ints .u32 a0), .glob 0 (.ints .u8 tab0), .row true (.ints .i64 t5s_2), .row true (.ints .i64 t6s_1), .row true (.ints .i64 y_1)] ?_
                clear hp0
                replace h := chk_some h
                obtain ⟨hp0, h⟩ := h
                refine awp_reg ftCOk [(0, .sl 0), (5, .sl 2), (6, .sl 3), (7, .v (.int .i64 (t6s.getD 0 0))), (9, .v (.int .i64 (y_1.getD t32.toNat 0))), (30, .sl 4), (31, .v (.int .i64 (y_1.length : Int))), (32, .v (.int .i64 t32)), (40, .v (.bool ((t5s_2.getD ((y_1.getD t32.toNat 0).toNat) 0) == (-1))))] [.row false (.ints .u32 a0), .glob 0 (.ints .u8 tab0), .row true (.ints .i64 t5s_2), .row true (.ints .i64 t6s_1), .row true (.ints .i64 y_1)] ?_
                clear hp0
                refine awp_cond (t := 40) rfl (fun hc115 => ?_) (fun hc115 => ?_)
                · replace h := bite_t h hc115
                  replace h := chk_some h
                  obtain ⟨hp0, h⟩ := h
                  replace h := chk_some h
                  obtain ⟨hp1, h⟩ := h
                  replace h := chk_some h
                  obtain ⟨hp2, h⟩ := h
                  refine awp_reg ftCOk [(0, .sl 0), (5, .sl 2), (6, .sl 3), (7, .v (.int .i64 (t6s.getD 0 0))), (9, .v (.int .i64 (y_1.getD t32.toNat 0))), (30, .sl 4), (31, .v (.int .i64 (y_1.length : Int))), (32, .v (.int .i64 t32))] [.row false (.ints .u32 a0), .glob 0 (.ints .u8 tab0), .row true (.ints .i64 (t5s_2.set ((y_1.getD t32.toNat 0).toNat) ((t5s_2.getD ((t6s.getD 0 0).toNat) 0) + 1))), .row true (.ints .i64 t6s_1), .row true (.ints .i64 y_1)] ?_
                  clear hp0 hp1 hp2
                  replace h := chk_some h
                  obtain ⟨hp0, h⟩ := h
                  refine awp_regE ftCOk [(0, .sl 0), (5, .sl 2), (6, .sl 3), (7, .v (.int .i64 (t6s.getD 0 0))), (30, .sl 4), (31, .v (.int .i64 (y_1.length : Int))), (32, .v (.int .i64 t32))] [.row false (.ints .u32 a0), .glob 0 (.ints .u8 tab0), .row true (.ints .i64 (t5s_2.set ((y_1.getD t32.toNat 0).toNat) ((t5s_2.getD ((t6s.getD 0 0).toNat) 0) + 1))), .row true (.ints .i64 (t6s_1 ++ [(y_1.getD t32.toNat 0)])), .row true (.ints .i64 y_1), .row true (.ints .i64 [(y_1.getD t32.toNat 0)])] ?_
                  clear hp0
                  (try simp only [Thn, InBlk, ↓reduceIte, Nat.reduceEqDiff])
                  (try simp only [Thn, InBlk, ↓reduceIte, Nat.reduceEqDiff])
                  refine ⟨_, h, ?_⟩
                  exact Red.selA [0, 1, 2, 3, 4] Red.auto
                · replace h := bite_f h hc115
                  refine awp_skip ?_
                  (try simp only [Thn, InBlk, ↓reduceIte, Nat.reduceEqDiff])
                  (try simp only [Thn, InBlk, ↓reduceIte, Nat.reduceEqDiff])
                  refine ⟨_, h, ?_⟩
                  exact Red.auto
              · clear h
                rintro ⟨t5s_4, t6s_3⟩ h
                try dsimp only at h
                try dsimp only
                replace h := chk_some h
                obtain ⟨hp0, h⟩ := h
                refine awp_regE ftCOk [(0, .sl 0), (5, .sl 2), (6, .sl 3), (7, .v (.int .i64 (t6s.getD 0 0))), (30, .sl 4), (31, .v (.int .i64 (y_1.length : Int))), (32, .v (.int .i64 (t32 + 1)))] [.row false (.ints .u32 a0), .glob 0 (.ints .u8 tab0), .row true (.ints .i64 t5s_4), .row true (.ints .i64 t6s_3), .row true (.ints .i64 y_1)] ?_
                clear hp0
                obtain rfl := Option.some.inj h
                refine LoopQ.next ?_
                exact Red.auto
            · replace h := bite_f h hc113
              refine awp_exit ?_
              (try simp only [Thn, InBlk, ↓reduceIte, Nat.reduceEqDiff])
              obtain rfl := Option.some.inj h
              refine LoopQ.out rfl ?_
              exact Red.selA [0, 1, 2, 3] Red.auto
          · clear hx
            rcases x116 with ⟨t5s_3, t6s_2⟩
            · try dsimp only [Sum.elim_inl, Sum.elim_inr] at h
              try dsimp only [Sum.elim_inl, Sum.elim_inr]
              (try simp only [Thn, InBlk, ↓reduceIte, Nat.reduceEqDiff])
              (try simp only [Thn, InBlk, ↓reduceIte, Nat.reduceEqDiff])
              (try simp only [Thn, InBlk, ↓reduceIte, Nat.reduceEqDiff])
              obtain rfl := Option.some.inj h
              refine LoopQ.next ?_
              exact Red.auto
      · replace h := bite_f h hc100
        refine awp_exit ?_
        (try simp only [Thn, InBlk, ↓reduceIte, Nat.reduceEqDiff])
        obtain rfl := Option.some.inj h
        refine LoopQ.out rfl ?_
        exact Red.selA [0, 1, 2] Red.auto
    · clear hx
      skip
      · try dsimp only [Sum.elim_inl, Sum.elim_inr] at h
        try dsimp only [Sum.elim_inl, Sum.elim_inr]
        (try simp only [Thn, InBlk, ↓reduceIte, Nat.reduceEqDiff])
        (try simp only [Thn, InBlk, ↓reduceIte, Nat.reduceEqDiff])
        (try simp only [Thn, InBlk, ↓reduceIte, Nat.reduceEqDiff])
        refine hK59 _ _ ?_
        clear hK59
        refine awp_reg ftCOk [(4, .sl 2)] [.row false (.ints .u32 a0), .glob 0 (.ints .u8 tab0), .row true (.ints .i64 t5s_1)] ?_
        refine awp_ret ?_
        (try simp only [Thn, InBlk, ↓reduceIte, Nat.reduceEqDiff])
        obtain rfl := Option.some.inj h
        refine ⟨by simp, _, [0, 1, 2], (by simp only [go_sem, Nat.reduceBEq, Nat.reduceLT, Nat.reduceAdd, Nat.reduceLeDiff, Nat.reduceSub, Nat.reduceEqDiff, Int.reduceToNat, reduceCtorEq, ↓reduceIte]; exact rfl), ?_, ?_, ?_, ?_⟩
        · first | exact trivial | exact ⟨trivial, trivial⟩ | exact ⟨trivial, trivial, trivial⟩ | exact ⟨trivial, trivial, trivial, trivial⟩ | (simp only [allP, and_true, true_and]; done) | (simp only [allP, and_true, true_and]; omega)
        · simp [selOk, pos]
        · simp
        · first | exact ⟨rfl, rfl⟩ | (simp only [go_sem, Nat.reduceBEq, Nat.reduceLT, Nat.reduceAdd, Nat.reduceLeDiff, Nat.reduceSub, Nat.reduceEqDiff, Int.reduceToNat, reduceCtorEq, ↓reduceIte]; done) | (simp [go_sem, Nat.reduceBEq, Nat.reduceLT, Nat.reduceAdd, Nat.reduceLeDiff, Nat.reduceSub, Nat.reduceEqDiff, Int.reduceToNat, reduceCtorEq, ↓reduceIte]; done) | (simp only [go_sem, Nat.reduceBEq, Nat.reduceLT, Nat.reduceAdd, Nat.reduceLeDiff, Nat.reduceSub, Nat.reduceEqDiff, Int.reduceToNat, reduceCtorEq, ↓reduceIte]; exact ⟨rfl, rfl⟩) | (simp_all [go_sem, Nat.reduceBEq, Nat.reduceLT, Nat.reduceAdd, Nat.reduceLeDiff, Nat.reduceSub, Nat.reduceEqDiff, Int.reduceToNat, reduceCtorEq, ↓reduceIte]; done)
theorem k_impl_HopsFrom (a0_0 : Int) (a0_1 : List (Int × Int × Int)) (a1 : Int) {r : List Int} (h : impl_HopsFrom a0_0 a0_1 a1 = some r) :
    FnA Tryd.prog 9 [.agg [.v (.int .i64 a0_0), .sl 0], .v (.int .i64 a1)] [.row false (.trips a0_1), .glob 0 (.ints .u8 tab0)] [] (fun x H => x = .sl 2 ∧ H = [.row false (.trips a0_1), .glob 0 (.ints .u8 tab0), .row true (.ints .i64 r)]) := by
  unfold impl_HopsFrom at h
  refine FnA.of (N := 18) (pin := [0, 1]) (rs := [.tmp 4]) Tryd.func9 rfl en9 rfl rfl (by simp) (by simp; try omega) ?_
  refine awp_reg ftCOk [(1, .v (.int .i64 a1)), (2, .pp 2 0)] [.row false (.trips a0_1), .glob 0 (.ints .u8 tab0), .box [.v (.int .i64 a0_0), .sl 0]] ?_
  refine awp_freeze 2 (by rfl) (by rfl) (by exact rfl) ?_
  refine awp_seq fun K2 hK2 => ?_
  replace h := bind_some h
  obtain ⟨y, hr0, h⟩ := h
  try dsimp only at h
  replace h := bind_some h
  obtain ⟨y_1, hr1, h⟩ := h
  try dsimp only at h
  refine awp_to [(1, .v (.int .i64 a1)), (2, .pp 2 0), (13, .v (.bool ((!y) || (!y_1))))] [.row false (.trips a0_1), .glob 0 (.ints .u8 tab0), .rbox [.v (.int .i64 a0_0), .sl 0]] ?_ ?_
  · clear h
    intro K hK
    refine awp_region ftCOk ?_
    simp (maxSteps := 4000000) only [go_sem, Nat.reduceBEq, Nat.reduceLT, Nat.reduceAdd, Nat.reduceLeDiff, Nat.reduceSub, Nat.reduceEqDiff, Int.reduceToNat, reduceCtorEq, ↓reduceIte]
    repeat' (first | refine And.intro ?_ ?_ | intro hg)
    all_goals (try simp (disch := omega) only [wrap_fits])
    all_goals first
      | (refine hK _ _ ?_; exact Red.auto)
      | exact trivial
      | assumption
      | omega
      | exact wrap_fits (by omega) (by omega)
      | (refine wpA_callA (k_impl_GraphValid a0_0 a0_1 (h := hr0)) [0] [] ?_
         rintro x Hc' ⟨rfl, rfl⟩ hlen
         refine vcOps_sound ftCOk ?_
         simp (maxSteps := 4000000) only [go_sem, Nat.reduceBEq, Nat.reduceLT, Nat.reduceAdd, Nat.reduceLeDiff, Nat.reduceSub, Nat.reduceEqDiff, Int.reduceToNat, reduceCtorEq, ↓reduceIte]
         repeat' (first | refine And.intro ?_ ?_ | intro hg)
         all_goals (try simp (disch := omega) only [wrap_fits])
         all_goals first
           | (refine hK _ _ ?_; exact Red.auto)
           | exact trivial
           | assumption
           | omega
           | exact wrap_fits (by omega) (by omega)
           | (refine wpA_guard rfl rfl ?_
              refine wpA_callA (k_impl_Graph_has a0_0 a0_1 a1 (h := (bite_t hr1 (by rw [Bool.not_eq_true']; exact (by first | assumption | (simp only [*, Bool.false_or, Bool.true_or, Bool.or_false, Bool.or_true, Bool.false_and, Bool.true_and, Bool.and_false, Bool.and_true, Bool.not_true, Bool.not_false, beq_self_eq_true]; done) | (simp_all; done)))))) [0] [] ?_
              rintro x Hc' ⟨rfl, rfl⟩ hlen
              refine vcOps_sound ftCOk ?_
              simp (maxSteps := 4000000) only [go_sem, Nat.reduceBEq, Nat.reduceLT, Nat.reduceAdd, Nat.reduceLeDiff, Nat.reduceSub, Nat.reduceEqDiff, Int.reduceToNat, reduceCtorEq, ↓reduceIte]
              repeat' (first | refine And.intro ?_ ?_ | intro hg)
              all_goals (try simp (disch := omega) only [wrap_fits])
              all_goals first
                | (refine hK _ _ ?_; exact Red.auto)
                | exact trivial
                | assumption
                | omega
                | exact wrap_fits (by omega) (by omega)
                | (simp_all; done)
                | (simp_all; omega))
           | (simp_all; done)
           | (simp_all; omega))
      | (simp_all; done)
      | (simp_all; omega)
  · clear hr0 hr1
    refine awp_cond (t := 13) rfl (fun hc3 => ?_) (fun hc3 => ?_)
    · replace h := bite_t h hc3
      refine awp_reg ftCOk [(4, .v (.slice none 0 0))] [.row false (.trips a0_1), .glob 0 (.ints .u8 tab0), .rbox [.v (.int .i64 a0_0), .sl 0]] ?_
      refine awp_red (Red.nil (t := 4) (.ints .i64 []) rfl rfl) ?_
      refine awp_ret ?_
      (try simp only [Thn, InBlk, ↓reduceIte, Nat.reduceEqDiff])
      obtain rfl := Option.some.inj h
      refine ⟨by simp, _, [0, 1, 3], (by simp only [go_sem, Nat.reduceBEq, Nat.reduceLT, Nat.reduceAdd, Nat.reduceLeDiff, Nat.reduceSub, Nat.reduceEqDiff, Int.reduceToNat, reduceCtorEq, ↓reduceIte]; exact rfl), ?_, ?_, ?_, ?_⟩
      · first | exact trivial | exact ⟨trivial, trivial⟩ | exact ⟨trivial, trivial, trivial⟩ | exact ⟨trivial, trivial, trivial, trivial⟩ | (simp only [allP, and_true, true_and]; done) | (simp only [allP, and_true, true_and]; omega)
      · simp [selOk, pos]
      · simp
      · first | exact ⟨rfl, rfl⟩ | (simp only [go_sem, Nat.reduceBEq, Nat.reduceLT, Nat.reduceAdd, Nat.reduceLeDiff, Nat.reduceSub, Nat.reduceEqDiff, Int.reduceToNat, reduceCtorEq, ↓reduceIte]; done) | (simp [go_sem, Nat.reduceBEq, Nat.reduceLT, Nat.reduceAdd, Nat.reduceLeDiff, Nat.reduceSub, Nat.reduceEqDiff, Int.reduceToNat, reduceCtorEq, ↓reduceIte]; done) | (simp only [go_sem, Nat.reduceBEq, Nat.reduceLT, Nat.reduceAdd, Nat.reduceLeDiff, Nat.reduceSub, Nat.reduceEqDiff, Int.reduceToNat, reduceCtorEq, ↓reduceIte]; exact ⟨rfl, rfl⟩) | (simp_all [go_sem, Nat.reduceBEq, Nat.reduceLT, Nat.reduceAdd, Nat.reduceLeDiff, Nat.reduceSub, Nat.reduceEqDiff, Int.reduceToNat, reduceCtorEq, ↓reduceIte]; done)
    · replace h := bite_f h hc3
      refine awp_skip ?_
      (try simp only [Thn, InBlk, ↓reduceIte, Nat.reduceEqDiff])
      refine hK2 _ _ ?_
      clear hK2
      replace h := bind_some h
      obtain ⟨y_2, hr0, h⟩ := h
      try dsimp only at h
      replace h := bind_some h
      obtain ⟨y_3, hr1, h⟩ := h
      try dsimp only at h
      refine awp_to [(4, .sl 4)] [.row false (.trips a0_1), .glob 0 (.ints .u8 tab0), .rbox [.v (.int .i64 a0_0), .sl 0], .row true (.ints .u32 y_2), .row true (.ints .i64 y_3)] ?_ ?_
      · clear h
        intro K hK
        refine awp_region ftCOk ?_
        simp (maxSteps := 4000000) only [go_sem, Nat.reduceBEq, Nat.reduceLT, Nat.reduceAdd, Nat.reduceLeDiff, Nat.reduceSub, Nat.reduceEqDiff, Int.reduceToNat, reduceCtorEq, ↓reduceIte]
        repeat' (first | refine And.intro ?_ ?_ | intro hg)
        all_goals (try simp (disch := omega) only [wrap_fits])
        all_goals first
          | (refine hK _ _ ?_; exact Red.auto)
          | exact trivial
          | assumption
          | omega
          | exact wrap_fits (by omega) (by omega)
          | (refine wpA_callA (k_impl_nextMasks a0_0 a0_1 (h := hr0)) [0] [] ?_
             rintro x Hc' ⟨rfl, rfl⟩ hlen
             refine vcOps_sound ftCOk ?_
             simp (maxSteps := 4000000) only [go_sem, Nat.reduceBEq, Nat.reduceLT, Nat.reduceAdd, Nat.reduceLeDiff, Nat.reduceSub, Nat.reduceEqDiff, Int.reduceToNat, reduceCtorEq, ↓reduceIte]
             repeat' (first | refine And.intro ?_ ?_ | intro hg)
             all_goals (try simp (disch := omega) only [wrap_fits])
             all_goals first
               | (refine hK _ _ ?_; exact Red.auto)
               | exact trivial
               | assumption
               | omega
               | exact wrap_fits (by omega) (by omega)
               | (refine wpA_callA (k_impl_stepsOver y_2 a1 (h := hr1)) [3, 1] [] ?_
                  rintro x Hc' ⟨rfl, rfl⟩ hlen
                  refine vcOps_sound ftCOk ?_
                  simp (maxSteps := 4000000) only [go_sem, Nat.reduceBEq, Nat.reduceLT, Nat.reduceAdd, Nat.reduceLeDiff, Nat.reduceSub, Nat.reduceEqDiff, Int.reduceToNat, reduceCtorEq, ↓reduceIte]
                  repeat' (first | refine And.intro ?_ ?_ | intro hg)
                  all_goals (try simp (disch := omega) only [wrap_fits])
                  all_goals first
                    | (refine hK _ _ ?_; exact Red.auto)
                    | exact trivial
                    | assumption
                    | omega
                    | exact wrap_fits (by omega) (by omega)
                    | (simp_all; done)
                    | (simp_all; omega))
               | (simp_all; done)
               | (simp_all; omega))
          | (simp_all; done)
          | (simp_all; omega)
      · clear hr0 hr1
        refine awp_ret ?_
        (try simp only [Thn, InBlk, ↓reduceIte, Nat.reduceEqDiff])
        obtain rfl := Option.some.inj h
        refine ⟨by simp, _, [0, 1, 4], (by simp only [go_sem, Nat.reduceBEq, Nat.reduceLT, Nat.reduceAdd, Nat.reduceLeDiff, Nat.reduceSub, Nat.reduceEqDiff, Int.reduceToNat, reduceCtorEq, ↓reduceIte]; exact rfl), ?_, ?_, ?_, ?_⟩
        · first | exact trivial | exact ⟨trivial, trivial⟩ | exact ⟨trivial, trivial, trivial⟩ | exact ⟨trivial, trivial, trivial, trivial⟩ | (simp only [allP, and_true, true_and]; done) | (simp only [allP, and_true, true_and]; omega)
        · simp [selOk, pos]
        · simp
        · first | exact ⟨rfl, rfl⟩ | (simp only [go_sem, Nat.reduceBEq, Nat.reduceLT, Nat.reduceAdd, Nat.reduceLeDiff, Nat.reduceSub, Nat.reduceEqDiff, Int.reduceToNat, reduceCtorEq, ↓reduceIte]; done) | (simp [go_sem, Nat.reduceBEq, Nat.reduceLT, Nat.reduceAdd, Nat.reduceLeDiff, Nat.reduceSub, Nat.reduceEqDiff, Int.reduceToNat, reduceCtorEq, ↓reduceIte]; done) | (simp only [go_sem, Nat.reduceBEq, Nat.reduceLT, Nat.reduceAdd, Nat.reduceLeDiff, Nat.reduceSub, Nat.reduceEqDiff, Int.reduceToNat, reduceCtorEq, ↓reduceIte]; exact ⟨rfl, rfl⟩) | (simp_all [go_sem, Nat.reduceBEq, Nat.reduceLT, Nat.reduceAdd, Nat.reduceLeDiff, Nat.reduceSub, Nat.reduceEqDiff, Int.reduceToNat, reduceCtorEq, ↓reduceIte]; done)
theorem k_laws_FnEdgeHops (a0 : List Int) {r : Bool} (h : laws_FnEdgeHops a0 = some r) :
    FnA Tryd.prog 3 [.sl 0] [.row false (.ints .u8 a0), .glob 0 (.ints .u8 tab0)] [] (fun x H => x = .v (.bool r) ∧ H = [.row false (.ints .u8 a0), .glob 0 (.ints .u8 tab0)]) := by
  unfold laws_FnEdgeHops at h
  refine FnA.of (N := 88) (pin := [0, 1]) (rs := [.tmp 2]) Tryd.func3 rfl en3 rfl rfl (by simp) (by simp; try omega) ?_
  refine awp_reg ftCOk [(0, .sl 0)] [.row false (.ints .u8 a0), .glob 0 (.ints .u8 tab0)] ?_
  refine awp_seq fun K2 hK2 => ?_
  refine awp_reg ftCOk [(0, .sl 0), (14, .v (.bool (decide (1048576 < (a0.length : Int)))))] [.row false (.ints .u8 a0), .glob 0 (.ints .u8 tab0)] ?_
  refine awp_cond (t := 14) rfl (fun hc3 => ?_) (fun hc3 => ?_)
  · replace h := bite_t h hc3
    refine awp_reg ftCOk [(2, .v (.bool true))] [.row false (.ints .u8 a0), .glob 0 (.ints .u8 tab0)] ?_
    refine awp_ret ?_
    (try simp only [Thn, InBlk, ↓reduceIte, Nat.reduceEqDiff])
    obtain rfl := Option.some.inj h
    refine ⟨by simp, _, [0, 1], (by simp only [go_sem, Nat.reduceBEq, Nat.reduceLT, Nat.reduceAdd, Nat.reduceLeDiff, Nat.reduceSub, Nat.reduceEqDiff, Int.reduceToNat, reduceCtorEq, ↓reduceIte]; exact rfl), ?_, ?_, ?_, ?_⟩
    · first | exact trivial | exact ⟨trivial, trivial⟩ | exact ⟨trivial, trivial, trivial⟩ | exact ⟨trivial, trivial, trivial, trivial⟩ | (simp only [allP, and_true, true_and]; done) | (simp only [allP, and_true, true_and]; omega)
    · simp [selOk, pos]
    · simp
    · first | exact ⟨rfl, rfl⟩ | (simp only [go_sem, Nat.reduceBEq, Nat.reduceLT, Nat.reduceAdd, Nat.reduceLeDiff, Nat.reduceSub, Nat.reduceEqDiff, Int.reduceToNat, reduceCtorEq, ↓reduceIte]; done) | (simp [go_sem, Nat.reduceBEq, Nat.reduceLT, Nat.reduceAdd, Nat.reduceLeDiff, Nat.reduceSub, Nat.reduceEqDiff, Int.reduceToNat, reduceCtorEq, ↓reduceIte]; done) | (simp only [go_sem, Nat.reduceBEq, Nat.reduceLT, Nat.reduceAdd, Nat.reduceLeDiff, Nat.reduceSub, Nat.reduceEqDiff, Int.reduceToNat, reduceCtorEq, ↓reduceIte]; exact ⟨rfl, rfl⟩) | (simp_all [go_sem, Nat.reduceBEq, Nat.reduceLT, Nat.reduceAdd, Nat.reduceLeDiff, Nat.reduceSub, Nat.reduceEqDiff, Int.reduceToNat, reduceCtorEq, ↓reduceIte]; done)
  · replace h := bite_f h hc3
    refine awp_skip ?_
    (try simp only [Thn, InBlk, ↓reduceIte, Nat.reduceEqDiff])
    refine hK2 _ _ ?_
    clear hK2
    replace h := bind_some h
    obtain ⟨⟨y, y_1, y_2, y_3, y_4⟩, hr0, h⟩ := h
    try dsimp only at h
    refine awp_to [(3, .pp 3 0), (4, .pp 4 0)] [.row false (.ints .u8 a0), .glob 0 (.ints .u8 tab0), .row true (.trips y_1), .box [.v (.int .i64 y), .sl 2], .box [.v (.int .i64 y_2), .v (.int .i64 y_3), .v (.int .i64 y_4)]] ?_ ?_
    · clear h
      intro K hK
      refine awp_region ftCOk ?_
      simp (maxSteps := 4000000) only [go_sem, Nat.reduceBEq, Nat.reduceLT, Nat.reduceAdd, Nat.reduceLeDiff, Nat.reduceSub, Nat.reduceEqDiff, Int.reduceToNat, reduceCtorEq, ↓reduceIte]
      repeat' (first | refine And.intro ?_ ?_ | intro hg)
      all_goals (try simp (disch := omega) only [wrap_fits])
      all_goals first
        | (refine hK _ _ ?_; exact Red.auto)
        | exact trivial
        | assumption
        | omega
        | exact wrap_fits (by omega) (by omega)
        | (refine wpA_callA (k_spec_DrawAddEdge a0 (h := hr0)) [0] [] ?_
           rintro x Hc' ⟨rfl, rfl⟩ hlen
           refine vcOps_sound ftCOk ?_
           simp (maxSteps := 4000000) only [go_sem, Nat.reduceBEq, Nat.reduceLT, Nat.reduceAdd, Nat.reduceLeDiff, Nat.reduceSub, Nat.reduceEqDiff, Int.reduceToNat, reduceCtorEq, ↓reduceIte]
           repeat' (first | refine And.intro ?_ ?_ | intro hg)
           all_goals (try simp (disch := omega) only [wrap_fits])
           all_goals first
             | (refine hK _ _ ?_; exact Red.auto)
             | exact trivial
             | assumption
             | omega
             | exact wrap_fits (by omega) (by omega)
             | (simp_all; done)
             | (simp_all; omega))
        | (simp_all; done)
        | (simp_all; omega)
    · clear hr0
      replace h := bind_some h
      obtain ⟨⟨y_5, y_6, y_7⟩, hr0, h⟩ := h
      try dsimp only at h
      refine awp_to [(3, .pp 3 0), (4, .pp 4 0), (5, .pp 6 0), (6, .v (.bool y_7))] [.row false (.ints .u8 a0), .glob 0 (.ints .u8 tab0), .row true (.trips y_1), .box [.v (.int .i64 y), .sl 2], .box [.v (.int .i64 y_2), .v (.int .i64 y_3), .v (.int .i64 y_4)], .row true (.trips y_6), .box [.v (.int .i64 y_5), .sl 5]] ?_ ?_
      · clear h
        intro K hK
        refine awp_region ftCOk ?_
        simp (maxSteps := 4000000) only [go_sem, Nat.reduceBEq, Nat.reduceLT, Nat.reduceAdd, Nat.reduceLeDiff, Nat.reduceSub, Nat.reduceEqDiff, Int.reduceToNat, reduceCtorEq, ↓reduceIte]
        repeat' (first | refine And.intro ?_ ?_ | intro hg)
        all_goals (try simp (disch := omega) only [wrap_fits])
        all_goals first
          | (refine hK _ _ ?_; exact Red.auto)
          | exact trivial
          | assumption
          | omega
          | exact wrap_fits (by omega) (by omega)
          | (refine wpA_callA (k_impl_AddEdge y y_1 y_2 y_3 y_4 (h := hr0)) [2] [] ?_
             rintro x Hc' ⟨rfl, rfl⟩ hlen
             refine vcOps_sound ftCOk ?_
             simp (maxSteps := 4000000) only [go_sem, Nat.reduceBEq, Nat.reduceLT, Nat.reduceAdd, Nat.reduceLeDiff, Nat.reduceSub, Nat.reduceEqDiff, Int.reduceToNat, reduceCtorEq, ↓reduceIte]
             repeat' (first | refine And.intro ?_ ?_ | intro hg)
             all_goals (try simp (disch := omega) only [wrap_fits])
             all_goals first
               | (refine hK _ _ ?_; exact Red.auto)
               | exact trivial
               | assumption
               | omega
               | exact wrap_fits (by omega) (by omega)
               | (simp_all; done)
               | (simp_all; omega))
          | (simp_all; done)
          | (simp_all; omega)
      · clear hr0
        replace h := bind_some h
        obtain ⟨⟨y_8, y_9, y_10⟩, hr0, h⟩ := h
        try dsimp only at h
        refine awp_to [(3, .pp 3 0), (5, .pp 6 0), (6, .v (.bool y_7)), (7, .pp 8 0), (8, .v (.bool y_10))] [.row false (.ints .u8 a0), .glob 0 (.ints .u8 tab0), .row true (.trips y_1), .box [.v (.int .i64 y), .sl 2], .box [.v (.int .i64 y_2), .v (.int .i64 y_3), .v (.int .i64 y_4)], .row true (.trips y_6), .box [.v (.int .i64 y_5), .sl 5], .row true (.trips y_9), .box [.v (.int .i64 y_8), .sl 7]] ?_ ?_
        · clear h
          intro K hK
          refine awp_region ftCOk ?_
          simp (maxSteps := 4000000) only [go_sem, Nat.reduceBEq, Nat.reduceLT, Nat.reduceAdd, Nat.reduceLeDiff, Nat.reduceSub, Nat.reduceEqDiff, Int.reduceToNat, reduceCtorEq, ↓reduceIte]
          repeat' (first | refine And.intro ?_ ?_ | intro hg)
          all_goals (try simp (disch := omega) only [wrap_fits])
          all_goals first
            | (refine hK _ _ ?_; exact Red.auto)
            | exact trivial
            | assumption
            | omega
            | exact wrap_fits (by omega) (by omega)
            | (refine wpA_callA (k_spec_AddEdge y y_1 y_2 y_3 y_4 (h := hr0)) [2] [] ?_
               rintro x Hc' ⟨rfl, rfl⟩ hlen
               refine vcOps_sound ftCOk ?_
               simp (maxSteps := 4000000) only [go_sem, Nat.reduceBEq, Nat.reduceLT, Nat.reduceAdd, Nat.reduceLeDiff, Nat.reduceSub, Nat.reduceEqDiff, Int.reduceToNat, reduceCtorEq, ↓reduceIte]
               repeat' (first | refine And.intro ?_ ?_ | intro hg)
               all_goals (try simp (disch := omega) only [wrap_fits])
               all_goals first
                 | (refine hK _ _ ?_; exact Red.auto)
                 | exact trivial
                 | assumption
                 | omega
                 | exact wrap_fits (by omega) (by omega)
                 | (simp_all; done)
                 | (simp_all; omega))
            | (simp_all; done)
            | (simp_all; omega)
        · clear hr0
          refine awp_seq fun K5 hK5 => ?_
          replace h := bind_some h
          obtain ⟨y_11, hr0, h⟩ := h
          try dsimp only at h
          refine awp_to [(3, .pp 3 0), (5, .pp 6 0), (6, .v (.bool y_7)), (40, .v (.bool ((!y_11) || (!(y_7 == y_10)))))] [.row false (.ints .u8 a0), .glob 0 (.ints .u8 tab0), .row true (.trips y_1), .box [.v (.int .i64 y), .sl 2], .box [.v (.int .i64 y_2), .v (.int .i64 y_3), .v (.int .i64 y_4)], .row true (.trips y_6), .box [.v (.int .i64 y_5), .sl 5], .row true (.trips y_9), .box [.v (.int .i64 y_8), .sl 7]] ?_ ?_
          · clear h
            intro K hK
            refine awp_region ftCOk ?_
            simp (maxSteps := 4000000) only [go_sem, Nat.reduceBEq, Nat.reduceLT, Nat.reduceAdd, Nat.reduceLeDiff, Nat.reduceSub, Nat.reduceEqDiff, Int.reduceToNat, reduceCtorEq, ↓reduceIte]
            repeat' (first | refine And.intro ?_ ?_ | intro hg)
            all_goals (try simp (disch := omega) only [wrap_fits])
            all_goals first
              | (refine hK _ _ ?_; exact Red.auto)
              | exact trivial
              | assumption
              | omega
              | exact wrap_fits (by omega) (by omega)
              | (refine wpA_callA (k_laws_sameGraph y_5 y_6 y_8 y_9 (h := hr0)) [5, 7] [] ?_
                 rintro x Hc' ⟨rfl, rfl⟩ hlen
                 refine vcOps_sound ftCOk ?_
                 simp (maxSteps := 4000000) only [go_sem, Nat.reduceBEq, Nat.reduceLT, Nat.reduceAdd, Nat.reduceLeDiff, Nat.reduceSub, Nat.reduceEqDiff, Int.reduceToNat, reduceCtorEq, ↓reduceIte]
                 repeat' (first | refine And.intro ?_ ?_ | intro hg)
                 all_goals (try simp (disch := omega) only [wrap_fits])
                 all_goals first
                   | (refine hK _ _ ?_; exact Red.auto)
                   | exact trivial
                   | assumption
                   | omega
                   | exact wrap_fits (by omega) (by omega)
                   | (simp_all; done)
                   | (simp_all; omega))
              | (simp_all; done)
              | (simp_all; omega)
          · clear hr0
            refine awp_cond (t := 40) rfl (fun hc6 => ?_) (fun hc6 => ?_)
            · replace h := bite_t h hc6
              refine awp_reg ftCOk [(2, .v (.bool false))] [.row false (.ints .u8 a0), .glob 0 (.ints .u8 tab0), .row true (.trips y_1), .box [.v (.int .i64 y), .sl 2], .box [.v (.int .i64 y_2), .v (.int .i64 y_3), .v (.int .i64 y_4)], .row true (.trips y_6), .box [.v (.int .i64 y_5), .sl 5], .row true (.trips y_9), .box [.v (.int .i64 y_8), .sl 7]] ?_
              refine awp_ret ?_
              (try simp only [Thn, InBlk, ↓reduceIte, Nat.reduceEqDiff])
              obtain rfl := Option.some.inj h
              refine ⟨by simp, _, [0, 1], (by simp only [go_sem, Nat.reduceBEq, Nat.reduceLT, Nat.reduceAdd, Nat.reduceLeDiff, Nat.reduceSub, Nat.reduceEqDiff, Int.reduceToNat, reduceCtorEq, ↓reduceIte]; exact rfl), ?_, ?_, ?_, ?_⟩
              · first | exact trivial | exact ⟨trivial, trivial⟩ | exact ⟨trivial, trivial, trivial⟩ | exact ⟨trivial, trivial, trivial, trivial⟩ | (simp only [allP, and_true, true_and]; done) | (simp only [allP, and_true, true_and]; omega)
              · simp [selOk, pos]
              · simp
              · first | exact ⟨rfl, rfl⟩ | (simp only [go_sem, Nat.reduceBEq, Nat.reduceLT, Nat.reduceAdd, Nat.reduceLeDiff, Nat.reduceSub, Nat.reduceEqDiff, Int.reduceToNat, reduceCtorEq, ↓reduceIte]; done) | (simp [go_sem, Nat.reduceBEq, Nat.reduceLT, Nat.reduceAdd, Nat.reduceLeDiff, Nat.reduceSub, Nat.reduceEqDiff, Int.reduceToNat, reduceCtorEq, ↓reduceIte]; done) | (simp only [go_sem, Nat.reduceBEq, Nat.reduceLT, Nat.reduceAdd, Nat.reduceLeDiff, Nat.reduceSub, Nat.reduceEqDiff, Int.reduceToNat, reduceCtorEq, ↓reduceIte]; exact ⟨rfl, rfl⟩) | (simp_all [go_sem, Nat.reduceBEq, Nat.reduceLT, Nat.reduceAdd, Nat.reduceLeDiff, Nat.reduceSub, Nat.reduceEqDiff, Int.reduceToNat, reduceCtorEq, ↓reduceIte]; done)
            · replace h := bite_f h hc6
              refine awp_skip ?_
              (try simp only [Thn, InBlk, ↓reduceIte, Nat.reduceEqDiff])
              refine hK5 _ _ ?_
              clear hK5
              refine awp_seq fun K8 hK8 => ?_
              refine awp_reg ftCOk [(3, .pp 3 0), (5, .pp 6 0), (42, .v (.bool (!y_7)))] [.row false (.ints .u8 a0), .glob 0 (.ints .u8 tab0), .row true (.trips y_1), .box [.v (.int .i64 y), .sl 2], .box [.v (.int .i64 y_2), .v (.int .i64 y_3), .v (.int .i64 y_4)], .row true (.trips y_6), .box [.v (.int .i64 y_5), .sl 5], .row true (.trips y_9), .box [.v (.int .i64 y_8), .sl 7]] ?_
              refine awp_cond (t := 42) rfl (fun hc9 => ?_) (fun hc9 => ?_)
              · replace h := bite_t h hc9
                replace h := bind_some h
                obtain ⟨y_12, hr0, h⟩ := h
                try dsimp only at h
                refine awp_to [(2, .v (.bool y_12))] [.row false (.ints .u8 a0), .glob 0 (.ints .u8 tab0), .row true (.trips y_1), .box [.v (.int .i64 y), .sl 2], .box [.v (.int .i64 y_2), .v (.int .i64 y_3), .v (.int .i64 y_4)], .row true (.trips y_6), .box [.v (.int .i64 y_5), .sl 5], .row true (.trips y_9), .box [.v (.int .i64 y_8), .sl 7]] ?_ ?_
                · clear h
                  intro K hK
                  refine awp_region ftCOk ?_
                  simp (maxSteps := 4000000) only [go_sem, Nat.reduceBEq, Nat.reduceLT, Nat.reduceAdd, Nat.reduceLeDiff, Nat.reduceSub, Nat.reduceEqDiff, Int.reduceToNat, reduceCtorEq, ↓reduceIte]
                  repeat' (first | refine And.intro ?_ ?_ | intro hg)
                  all_goals (try simp (disch := omega) only [wrap_fits])
                  all_goals first
                    | (refine hK _ _ ?_; exact Red.auto)
                    | exact trivial
                    | assumption
                    | omega
                    | exact wrap_fits (by omega) (by omega)
                    | (refine wpA_callA (k_laws_alive  (h := hr0)) [] [] ?_
                       rintro x Hc' ⟨rfl, rfl⟩ hlen
                       refine vcOps_sound ftCOk ?_
                       simp (maxSteps := 4000000) only [go_sem, Nat.reduceBEq, Nat.reduceLT, Nat.reduceAdd, Nat.reduceLeDiff, Nat.reduceSub, Nat.reduceEqDiff, Int.reduceToNat, reduceCtorEq, ↓reduceIte]
                       repeat' (first | refine And.intro ?_ ?_ | intro hg)
                       all_goals (try simp (disch := omega) only [wrap_fits])
                       all_goals first
                         | (refine hK _ _ ?_; exact Red.auto)
                         | exact trivial
                         | assumption
                         | omega
                         | exact wrap_fits (by omega) (by omega)
                         | (simp_all; done)
                         | (simp_all; omega))
                    | (simp_all; done)
                    | (simp_all; omega)
                · clear hr0
                  refine awp_ret ?_
                  (try simp only [Thn, InBlk, ↓reduceIte, Nat.reduceEqDiff])
                  obtain rfl := Option.some.inj h
                  refine ⟨by simp, _, [0, 1], (by simp only [go_sem, Nat.reduceBEq, Nat.reduceLT, Nat.reduceAdd, Nat.reduceLeDiff, Nat.reduceSub, Nat.reduceEqDiff, Int.reduceToNat, reduceCtorEq, ↓reduceIte]; exact rfl), ?_, ?_, ?_, ?_⟩
                  · first | exact trivial | exact ⟨trivial, trivial⟩ | exact ⟨trivial, trivial, trivial⟩ | exact ⟨trivial, trivial, trivial, trivial⟩ | (simp only [allP, and_true, true_and]; done) | (simp only [allP, and_true, true_and]; omega)
                  · simp [selOk, pos]
                  · simp
                  · first | exact ⟨rfl, rfl⟩ | (simp only [go_sem, Nat.reduceBEq, Nat.reduceLT, Nat.reduceAdd, Nat.reduceLeDiff, Nat.reduceSub, Nat.reduceEqDiff, Int.reduceToNat, reduceCtorEq, ↓reduceIte]; done) | (simp [go_sem, Nat.reduceBEq, Nat.reduceLT, Nat.reduceAdd, Nat.reduceLeDiff, Nat.reduceSub, Nat.reduceEqDiff, Int.reduceToNat, reduceCtorEq, ↓reduceIte]; done) | (simp only [go_sem, Nat.reduceBEq, Nat.reduceLT, Nat.reduceAdd, Nat.reduceLeDiff, Nat.reduceSub, Nat.reduceEqDiff, Int.reduceToNat, reduceCtorEq, ↓reduceIte]; exact ⟨rfl, rfl⟩) | (simp_all [go_sem, Nat.reduceBEq, Nat.reduceLT, Nat.reduceAdd, Nat.reduceLeDiff, Nat.reduceSub, Nat.reduceEqDiff, Int.reduceToNat, reduceCtorEq, ↓reduceIte]; done)
              · replace h := bite_f h hc9
                refine awp_skip ?_
                (try simp only [Thn, InBlk, ↓reduceIte, Nat.reduceEqDiff])
                refine hK8 _ _ ?_
                clear hK8
                replace h := bind_some h
                obtain ⟨y_13, hr0, h⟩ := h
                try dsimp only at h
                refine awp_to [(5, .pp 6 0), (9, .sl 9)] [.row false (.ints .u8 a0), .glob 0 (.ints .u8 tab0), .row true (.trips y_1), .box [.v (.int .i64 y), .sl 2], .box [.v (.int .i64 y_2), .v (.int .i64 y_3), .v (.int .i64 y_4)], .row true (.trips y_6), .box [.v (.int .i64 y_5), .sl 5], .row true (.trips y_9), .box [.v (.int .i64 y_8), .sl 7], .row true (.ints .i64 y_13)] ?_ ?_
                · clear h
                  intro K hK
                  refine awp_region ftCOk ?_
                  simp (maxSteps := 4000000) only [go_sem, Nat.reduceBEq, Nat.reduceLT, Nat.reduceAdd, Nat.reduceLeDiff, Nat.reduceSub, Nat.reduceEqDiff, Int.reduceToNat, reduceCtorEq, ↓reduceIte]
                  repeat' (first | refine And.intro ?_ ?_ | intro hg)
                  all_goals (try simp (disch := omega) only [wrap_fits])
                  all_goals first
                    | (refine hK _ _ ?_; exact Red.auto)
                    | exact trivial
                    | assumption
                    | omega
                    | exact wrap_fits (by omega) (by omega)
                    | (refine wpA_callA (k_impl_HopsFrom y y_1 0 (h := hr0)) [2, 1] [] ?_
                       rintro x Hc' ⟨rfl, rfl⟩ hlen
                       refine vcOps_sound ftCOk ?_
                       simp (maxSteps := 4000000) only [go_sem, Nat.reduceBEq, Nat.reduceLT, Nat.reduceAdd, Nat.reduceLeDiff, Nat.reduceSub, Nat.reduceEqDiff, Int.reduceToNat, reduceCtorEq, ↓reduceIte]
                       repeat' (first | refine And.intro ?_ ?_ | intro hg)
                       all_goals (try simp (disch := omega) only [wrap_fits])
                       all_goals first
                         | (refine hK _ _ ?_; exact Red.auto)
                         | exact trivial
                         | assumption
                         | omega
                         | exact wrap_fits (by omega) (by omega)
                         | (simp_all; done)
                         | (simp_all; omega))
                    | (simp_all; done)
                    | (simp_all; omega)
                · clear hr0
                  replace h := bind_some h
                  obtain ⟨y_14, hr0, h⟩ := h
                  try dsimp only at h
                  refine awp_to [(9, .sl 9), (10, .sl 10)] [.row false (.ints .u8 a0), .glob 0 (.ints .u8 tab0), .row true (.trips y_1), .box [.v (.int .i64 y), .sl 2], .box [.v (.int .i64 y_2), .v (.int .i64 y_3), .v (.int .i64 y_4)], .row true (.trips y_6), .box [.v (.int .i64 y_5), .sl 5], .row true (.trips y_9), .box [.v (.int .i64 y_8), .sl 7], .row true (.ints .i64 y_13), .row true (.ints .i64 y_14)] ?_ ?_
                  · clear h
                    intro K hK
                    refine awp_region ftCOk ?_
                    simp (maxSteps := 4000000) only [go_sem, Nat.reduceBEq, Nat.reduceLT, Nat.reduceAdd, Nat.reduceLeDiff, Nat.reduceSub, Nat.reduceEqDiff, Int.reduceToNat, reduceCtorEq, ↓reduceIte]
                    repeat' (first | refine And.intro ?_ ?_ | intro hg)
                    all_goals (try simp (disch := omega) only [wrap_fits])
                    all_goals first
                      | (refine hK _ _ ?_; exact Red.auto)
                      | exact trivial
                      | assumption
                      | omega
                      | exact wrap_fits (by omega) (by omega)
                      | (refine wpA_callA (k_impl_HopsFrom y_5 y_6 0 (h := hr0)) [5, 1] [] ?_
                         rintro x Hc' ⟨rfl, rfl⟩ hlen
                         refine vcOps_sound ftCOk ?_
                         simp (maxSteps := 4000000) only [go_sem, Nat.reduceBEq, Nat.reduceLT, Nat.reduceAdd, Nat.reduceLeDiff, Nat.reduceSub, Nat.reduceEqDiff, Int.reduceToNat, reduceCtorEq, ↓reduceIte]
                         repeat' (first | refine And.intro ?_ ?_ | intro hg)
                         all_goals (try simp (disch := omega) only [wrap_fits])
                         all_goals first
                           | (refine hK _ _ ?_; exact Red.auto)
                           | exact trivial
                           | assumption
                           | omega
                           | exact wrap_fits (by omega) (by omega)
                           | (simp_all; done)
                           | (simp_all; omega))
                      | (simp_all; done)
                      | (simp_all; omega)
                  · clear hr0
                    refine awp_seq fun K29 hK29 => ?_
                    refine awp_reg ftCOk [(9, .sl 9), (10, .sl 10), (11, .v (.int .i64 0))] [.row false (.ints .u8 a0), .glob 0 (.ints .u8 tab0), .row true (.trips y_1), .box [.v (.int .i64 y), .sl 2], .box [.v (.int .i64 y_2), .v (.int .i64 y_3), .v (.int .i64 y_4)], .row true (.trips y_6), .box [.v (.int .i64 y_5), .sl 5], .row true (.trips y_9), .box [.v (.int .i64 y_8), .sl 7], .row true (.ints .i64 y_13), .row true (.ints .i64 y_14)] ?_
                    refine awp_block ?_
                    replace h := bind_some h
                    obtain ⟨x48, hx, h⟩ := h
                    refine awp_loopL hx (fun (t11 : Int) => [(9, .sl 2), (10, .sl 3), (11, .v (.int .i64 t11))]) (fun (t11 : Int) => [.row false (.ints .u8 a0), .glob 0 (.ints .u8 tab0), .row true (.ints .i64 y_13), .row true (.ints .i64 y_14)]) (Sum.elim (fun (_ : Unit) => Exit.exit 0) (fun (_ : Unit) => Exit.ret)) (Sum.elim (fun (_ : Unit) => [(9, .sl 2), (10, .sl 3)]) (fun (_ : Unit) => [(2, .v (.bool false))])) (Sum.elim (fun (_ : Unit) => [.row false (.ints .u8 a0), .glob 0 (.ints .u8 tab0), .row true (.ints .i64 y_13), .row true (.ints .i64 y_14)]) (fun (_ : Unit) => [.row false (.ints .u8 a0), .glob 0 (.ints .u8 tab0)])) ?_ ?_ ?_ ?_
                    · rintro (⟨⟩ | ⟨⟩) hy <;> cases hy
                    · clear h hx
                      exact Red.selA [0, 1, 9, 10] Red.auto
                    · clear h hx
                      rintro t11 r h
                      unfold laws_FnEdgeHops_b0 at h
                      try dsimp only at h
                      try dsimp only
                      refine awp_seq fun K43 hK43 => ?_
                      refine awp_reg ftCOk [(9, .sl 2), (10, .sl 3), (11, .v (.int .i64 t11)), (51, .v (.bool (decide (t11 < (y_13.length : Int)))))] [.row false (.ints .u8 a0), .glob 0 (.ints .u8 tab0), .row true (.ints .i64 y_13), .row true (.ints .i64 y_14)] ?_
                      refine awp_cond (t := 51) rfl (fun hc44 => ?_) (fun hc44 => ?_)
                      · replace h := bite_t h hc44
                        refine awp_skip ?_
                        (try simp only [Thn, InBlk, ↓reduceIte, Nat.reduceEqDiff])
                        refine hK43 _ _ ?_
                        clear hK43
                        refine awp_seq fun K46 hK46 => ?_
                        refine awp_block ?_
                        replace h := chk_some h
                        obtain ⟨hp0, h⟩ := h
                        replace h := chk_some h
                        obtain ⟨hp1, h⟩ := h
                        replace h := chk_some h
                        obtain ⟨hp2, h⟩ := h
                        replace h := chk_some h
                        obtain ⟨hp3, h⟩ := h
                        refine awp_to [(9, .sl 2), (10, .sl 3), (11, .v (.int .i64 t11)), (82, .v (.bool ((decide ((y_14.length : Int) ≤ t11)) || ((decide (0 ≤ (y_13.getD t11.toNat 0))) && ((decide ((y_14.getD t11.toNat 0) < 0)) || (decide ((y_13.getD t11.toNat 0) < (y_14.getD t11.toNat 0))))))))] [.row false (.ints .u8 a0), .glob 0 (.ints .u8 tab0), .row true (.ints .i64 y_13), .row true (.ints .i64 y_14)] ?_ ?_
                        · clear h
                          intro K hK
                          refine awp_quietg mixed ftCOk (by kernel_rfl) ?_
                          simp (maxSteps := 4000000) only [go_sem, Nat.reduceBEq, Nat.reduceLT, Nat.reduceAdd, Nat.reduceLeDiff, Nat.reduceSub, Nat.reduceEqDiff, Int.reduceToNat, reduceCtorEq, ↓reduceIte]
                          repeat' (first | refine And.intro ?_ ?_ | intro hg)
                          all_goals (try simp (disch := omega) only [wrap_fits])
                          all_goals first
                            | (refine hK _ _ ?_; exact Red.auto)
                            | exact trivial
                            | assumption
                            | omega
                            | exact wrap_fits (by omega) (by omega)
                            | (have hq := hp0 (by first | assumption | (simp only [*, Bool.false_or, Bool.true_or, Bool.or_false, Bool.or_true, Bool.false_and, Bool.true_and, Bool.and_false, Bool.and_true, Bool.not_true, Bool.not_false, beq_self_eq_true]; done) | (simp_all; done)); omega)
                            | (have hq := hp1 (by first | assumption | (simp only [*, Bool.false_or, Bool.true_or, Bool.or_false, Bool.or_true, Bool.false_and, Bool.true_and, Bool.and_false, Bool.and_true, Bool.not_true, Bool.not_false, beq_self_eq_true]; done) | (simp_all; done)) (by first | assumption | (simp only [*, Bool.false_or, Bool.true_or, Bool.or_false, Bool.or_true, Bool.false_and, Bool.true_and, Bool.and_false, Bool.and_true, Bool.not_true, Bool.not_false, beq_self_eq_true]; done) | (simp_all; done)); omega)
                            | (have hq := hp2 (by first | assumption | (simp only [*, Bool.false_or, Bool.true_or, Bool.or_false, Bool.or_true, Bool.false_and, Bool.true_and, Bool.and_false, Bool.and_true, Bool.not_true, Bool.not_false, beq_self_eq_true]; done) | (simp_all; done)) (by first | assumption | (simp only [*, Bool.false_or, Bool.true_or, Bool.or_false, Bool.or_true, Bool.false_and, Bool.true_and, Bool.and_false, Bool.and_true, Bool.not_true, Bool.not_false, beq_self_eq_true]; done) | (simp_all; done)) (by first | assumption | (simp only [*, Bool.false_or, Bool.true_or, Bool.or_false, Bool.or_true, Bool.false_and, Bool.true_and, Bool.and_false, Bool.and_true, Bool.not_true, Bool.not_false, beq_self_eq_true]; done) | (simp_all; done)); omega)
                            | (have hq := hp3 (by first | assumption | (simp only [*, Bool.false_or, Bool.true_or, Bool.or_false, Bool.or_true, Bool.false_and, Bool.true_and, Bool.and_false, Bool.and_true, Bool.not_true, Bool.not_false, beq_self_eq_true]; done) | (simp_all; done)) (by first | assumption | (simp only [*, Bool.false_or, Bool.true_or, Bool.or_false, Bool.or_true, Bool.false_and, Bool.true_and, Bool.and_false, Bool.and_true, Bool.not_true, Bool.not_false, beq_self_eq_true]; done) | (simp_all; done)) (by first | assumption | (simp only [*, Bool.false_or, Bool.true_or, Bool.or_false, Bool.or_true, Bool.false_and, Bool.true_and, Bool.and_false, Bool.and_true, Bool.not_true, Bool.not_false, beq_self_eq_true]; done) | (simp_all; done)); omega)
                            | (simp_all; done)
                            | (simp_all; omega)
                        · clear hp0 hp1 hp2 hp3
                          refine awp_cond (t := 82) rfl (fun hc47 => ?_) (fun hc47 => ?_)
                          · replace h := bite_t h hc47
                            refine awp_reg ftCOk [(2, .v (.bool false))] [.row false (.ints .u8 a0), .glob 0 (.ints .u8 tab0), .row true (.ints .i64 y_13), .row true (.ints .i64 y_14)] ?_
                            refine awp_ret ?_
                            (try simp only [Thn, InBlk, ↓reduceIte, Nat.reduceEqDiff])
                            obtain rfl := Option.some.inj h
                            refine LoopQ.out rfl ?_
                            exact Red.selA [0, 1] Red.auto
                          · replace h := bite_f h hc47
                            refine awp_skip ?_
                            (try simp only [Thn, InBlk, ↓reduceIte, Nat.reduceEqDiff])
                            (try simp only [Thn, InBlk, ↓reduceIte, Nat.reduceEqDiff])
                            refine hK46 _ _ ?_
                            clear hK46
                            replace h := chk_some h
                            obtain ⟨hp0, h⟩ := h
                            refine awp_regE ftCOk [(9, .sl 2), (10, .sl 3), (11, .v (.int .i64 (t11 + 1)))] [.row false (.ints .u8 a0), .glob 0 (.ints .u8 tab0), .row true (.ints .i64 y_13), .row true (.ints .i64 y_14)] ?_
                            clear hp0
                            obtain rfl := Option.some.inj h
                            refine LoopQ.next ?_
                            exact Red.auto
                      · replace h := bite_f h hc44
                        refine awp_exit ?_
                        (try simp only [Thn, InBlk, ↓reduceIte, Nat.reduceEqDiff])
                        obtain rfl := Option.some.inj h
                        refine LoopQ.out rfl ?_
                        exact Red.auto
                    · clear hx
                      rcases x48 with (⟨⟩ | ⟨⟩)
                      · try dsimp only [Sum.elim_inl, Sum.elim_inr] at h
                        try dsimp only [Sum.elim_inl, Sum.elim_inr]
                        (try simp only [Thn, InBlk, ↓reduceIte, Nat.reduceEqDiff])
                        (try simp only [Thn, InBlk, ↓reduceIte, Nat.reduceEqDiff])
                        (try simp only [Thn, InBlk, ↓reduceIte, Nat.reduceEqDiff])
                        refine hK29 _ _ ?_
                        clear hK29
                        refine awp_reg ftCOk [(2, .v (.bool ((y_13.length : Int) == (y_14.length : Int))))] [.row false (.ints .u8 a0), .glob 0 (.ints .u8 tab0), .row true (.ints .i64 y_13), .row true (.ints .i64 y_14)] ?_
                        refine awp_ret ?_
                        (try simp only [Thn, InBlk, ↓reduceIte, Nat.reduceEqDiff])
                        obtain rfl := Option.some.inj h
                        refine ⟨by simp, _, [0, 1], (by simp only [go_sem, Nat.reduceBEq, Nat.reduceLT, Nat.reduceAdd, Nat.reduceLeDiff, Nat.reduceSub, Nat.reduceEqDiff, Int.reduceToNat, reduceCtorEq, ↓reduceIte]; exact rfl), ?_, ?_, ?_, ?_⟩
                        · first | exact trivial | exact ⟨trivial, trivial⟩ | exact ⟨trivial, trivial, trivial⟩ | exact ⟨trivial, trivial, trivial, trivial⟩ | (simp only [allP, and_true, true_and]; done) | (simp only [allP, and_true, true_and]; omega)
                        · simp [selOk, pos]
                        · simp
                        · first | exact ⟨rfl, rfl⟩ | (simp only [go_sem, Nat.reduceBEq, Nat.reduceLT, Nat.reduceAdd, Nat.reduceLeDiff, Nat.reduceSub, Nat.reduceEqDiff, Int.reduceToNat, reduceCtorEq, ↓reduceIte]; done) | (simp [go_sem, Nat.reduceBEq, Nat.reduceLT, Nat.reduceAdd, Nat.reduceLeDiff, Nat.reduceSub, Nat.reduceEqDiff, Int.reduceToNat, reduceCtorEq, ↓reduceIte]; done) | (simp only [go_sem, Nat.reduceBEq, Nat.reduceLT, Nat.reduceAdd, Nat.reduceLeDiff, Nat.reduceSub, Nat.reduceEqDiff, Int.reduceToNat, reduceCtorEq, ↓reduceIte]; exact ⟨rfl, rfl⟩) | (simp_all [go_sem, Nat.reduceBEq, Nat.reduceLT, Nat.reduceAdd, Nat.reduceLeDiff, Nat.reduceSub, Nat.reduceEqDiff, Int.reduceToNat, reduceCtorEq, ↓reduceIte]; done)
                      · try dsimp only [Sum.elim_inl, Sum.elim_inr] at h
                        try dsimp only [Sum.elim_inl, Sum.elim_inr]
                        (try simp only [Thn, InBlk, ↓reduceIte, Nat.reduceEqDiff])
                        obtain rfl := Option.some.inj h
                        refine ⟨by simp, _, [0, 1], (by simp only [go_sem, Nat.reduceBEq, Nat.reduceLT, Nat.reduceAdd, Nat.reduceLeDiff, Nat.reduceSub, Nat.reduceEqDiff, Int.reduceToNat, reduceCtorEq, ↓reduceIte]; exact rfl), ?_, ?_, ?_, ?_⟩
                        · first | exact trivial | exact ⟨trivial, trivial⟩ | exact ⟨trivial, trivial, trivial⟩ | exact ⟨trivial, trivial, trivial, trivial⟩ | (simp only [allP, and_true, true_and]; done) | (simp only [allP, and_true, true_and]; omega)
                        · simp [selOk, pos]
                        · simp
                        · first | exact ⟨rfl, rfl⟩ | (simp only [go_sem, Nat.reduceBEq, Nat.reduceLT, Nat.reduceAdd, Nat.reduceLeDiff, Nat.reduceSub, Nat.reduceEqDiff, Int.reduceToNat, reduceCtorEq, ↓reduceIte]; done) | (simp [go_sem, Nat.reduceBEq, Nat.reduceLT, Nat.reduceAdd, Nat.reduceLeDiff, Nat.reduceSub, Nat.reduceEqDiff, Int.reduceToNat, reduceCtorEq, ↓reduceIte]; done) | (simp only [go_sem, Nat.reduceBEq, Nat.reduceLT, Nat.reduceAdd, Nat.reduceLeDiff, Nat.reduceSub, Nat.reduceEqDiff, Int.reduceToNat, reduceCtorEq, ↓reduceIte]; exact ⟨rfl, rfl⟩) | (simp_all [go_sem, Nat.reduceBEq, Nat.reduceLT, Nat.reduceAdd, Nat.reduceLeDiff, Nat.reduceSub, Nat.reduceEqDiff, Int.reduceToNat, reduceCtorEq, ↓reduceIte]; done)
end Go.Proofs.YtaogppnbeijjmaaDoor

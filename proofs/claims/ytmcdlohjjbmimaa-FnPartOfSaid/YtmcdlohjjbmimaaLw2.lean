/- The code computes the functions that were taken out of it. -/
import Derived.Test.YtmcdlohjjbmimaaLw1
set_option maxRecDepth 100000
set_option maxHeartbeats 4000000
set_option linter.unusedSimpArgs false
set_option linter.unusedVariables false
namespace Go.Proofs.Ytmcdlohjjbmimaa
open Go Go.Av
attribute [local irreducible] wpA OpK awp
attribute [local go_sem] frs_nil frs_cons pw8_32 pw16_32 pw24_32 pw27_32 eqAgg eqAggV buildQ placesOf buildCells List.toList_toArray vcQg gfind gfree gput un3_agg unI_int unB_bool unK_int guardU skipV resVs resV vcD_nil vcD_cons vcT_fin vcT_free vcT_one vcT_two opS vcD1 roH roOb ftNone ftAdd oneOrTup AV.detup AV.ren AV.ren2 AV.ren1 pos selH AObj.ren fitAll fit fit1 fit1s matchAll matchOb exIds AObj.excl Env.killp pastH setAll upId AObj.past AObj.back AV.killp AV.killp1 AV.killp2 Nat.sub_self Nat.lt_irrefl Bool.or_self vcOps vcOp vcQs vcQ dstOk quiet eff pcall calleeF plain valsOf ev ofConst argEnv List.lookup Nat.add_eq decide_true decide_false Env.put binV wrapTo unV convV loadQ indexQ callQ builtinQ rd rdI globC AObj.globC partAV isAggD isArrayD addrAdd boxE storeE storeXE storeCE storeGE storeFE storeAE allocAE aggQ arrD arrL arrL_map arrV makeE makeXE makeNE makeGE buildXE buildNE buildGE nestZero Cont.child Cont.setChild buildSliceE buildFold appendE appendXE appendNE appendGE Cont.setG nestApp appendV promoteH sliceE boundAV subObj asCells Value.oneCell' contZero Cont.sets Cont.app Cont.sub Cont.len Cont.esz Cont.cell Cont.cells Cont.flat AV.det AV.det1 guardV AObj.unview AObj.kill Env.kill AV.kill AV.kill1 AV.kill2 fits64 Option.getD_some Option.getD_none Option.map_some Option.map_none Option.bind_some List.map_cons List.map_nil List.getElem?_cons_zero List.getElem?_cons_succ List.getElem?_nil true_and and_true and_false false_and List.getElem?_toArray List.cons_append List.nil_append List.length_cons List.length_nil List.set_cons_zero List.set_cons_succ List.take_succ_cons List.take_zero List.drop_succ_cons List.drop_zero List.drop_nil List.take_nil List.contains_cons List.contains_nil List.elem_cons List.elem_nil Bool.not_true Bool.not_false Bool.false_eq_true Bool.or_false Bool.or_true Bool.and_true Bool.and_false Bool.true_and Bool.false_and List.all_cons List.all_nil List.size_toArray Nat.lt_add_one Nat.zero_lt_succ Nat.one_ne_zero Nat.zero_ne_one and_self List.replicate_succ List.replicate_zero Int.toNat_natCast Int.toNat_zero Value.cells false_implies true_implies forall_const Thn InBlk Nat.zero_add Nat.add_zero Int.zero_add Ele Env.ren Option.some.injEq AV.v.injEq AV.sl.injEq AV.pp.injEq AV.ep.injEq AV.agg.injEq List.cons.injEq Value.int.injEq Value.bool.injEq Value.string.injEq true_or or_true or_false false_or tsz0 tby0 tz0 Try.underlying0 tsz1 tby1 tz1 Try.underlying1 tsz2 tby2 tz2 Try.underlying2 tsz3 tby3 tz3 Try.underlying3 tsz4 tby4 tz4 Try.underlying4 tsz5 tby5 tz5 Try.underlying5 tsz6 tby6 tz6 Try.underlying6 tsz7 tby7 tz7 Try.underlying7 fo7_0 fo7_1 fo7_2 fo7_3 tsz8 tby8 tz8 Try.underlying8 fo8_0 fo8_1 fo8_2 fo8_3 tsz9 tby9 Try.underlying9 tsz10 tby10 Try.underlying10 tsz12 tby12 tz12 Try.underlying12 tsz16 tby16 tz16 Try.underlying16 tsz17 tby17 tz17 Try.underlying17 tsz20 tby20 tz20 Try.underlying20 tsz21 tby21 tz21 Try.underlying21 tsz22 tby22 tz22 Try.underlying22 tsz23 tby23 tz23 Try.underlying23 tsz24 tby24 tz24 Try.underlying24 fo24_0 fo24_1 tsz25 tby25 tz25 Try.underlying25 fo25_0 fo25_1 tsz26 tby26 tz26 Try.underlying26 tsz32 tby32 tz32 Try.underlying32 tsz34 tby34 tz34 Try.underlying34 peq34 fo34_0 fo34_1 fo34_2 tsz35 tby35 tz35 Try.underlying35 peq35 fo35_0 fo35_1 fo35_2 tsz36 tby36 tz36 Try.underlying36 tsz40 tby40 tz40 Try.underlying40 tsz44 tby44 tz44 Try.underlying44 tsz46 tby46 tz46 Try.underlying46 tsz52 tby52 tz52 Try.underlying52 tsz54 tby54 tz54 Try.underlying54 tsz56 tby56 tz56 Try.underlying56 fo56_0 fo56_1 tsz57 tby57 tz57 Try.underlying57 fo57_0 fo57_1 tsz60 tby60 tz60 Try.underlying60 tsz65 tby65 tz65 Try.underlying65 tsz73 tby73 tz73 Try.underlying73 tsz74 tby74 tz74 Try.underlying74 tsz75 tby75 tz75 Try.underlying75 tsz77 tby77 tz77 Try.underlying77 tsz78 tby78 tz78 Try.underlying78 tsz79 tby79 tz79 Try.underlying79 tsz80 tby80 tz80 Try.underlying80 tsz81 tby81 tz81 Try.underlying81 tsz82 tby82 tz82 Try.underlying82 tsz83 tby83 tz83 Try.underlying83 tsz84 tby84 tz84 Try.underlying84 fo84_0 fo84_1 fo84_2 fo84_3 fo84_4 fo84_5 fo84_6 fo84_7 fo84_8 fo84_9 fo84_10 tsz85 tby85 tz85 Try.underlying85 fo85_0 fo85_1 fo85_2 fo85_3 fo85_4 fo85_5 fo85_6 fo85_7 fo85_8 fo85_9 fo85_10 tsz86 tby86 tz86 Try.underlying86 l1InG l4BeforeG isNaNG cmpIntG cmpEndsG ftC
theorem k_impl_Graph_copied (a0_0 : Int) (a0_1 : List (Int × Int × Int)) {r : Int × (List (Int × Int × Int))} (h : impl_Graph_copied a0_0 a0_1 = some r) :
    FnA Try.prog 36 [.agg [.v (.int .i64 a0_0), .sl 0]] [.row false (.trips a0_1)] [] (fun x H => x = .agg [.v (.int .i64 r.1), .sl 1] ∧ H = [.row false (.trips a0_1), .row true (.trips r.2)]) := by
  unfold impl_Graph_copied at h
  refine FnA.of (N := 9) (pin := [0]) (rs := [.cell 2 25]) Try.func36 rfl en36 rfl rfl (by simp) (by simp; try omega) ?_
  refine awp_reg ftCOk [(1, .pp 1 0), (2, .pp 2 0)] [.row false (.trips a0_1), .box [.v (.int .i64 a0_0), .sl 0], .box [.v (.int .i64 0), .v (.slice none 0 0)]] ?_
  refine awp_freeze 1 (by rfl) (by rfl) (by exact rfl) ?_
  replace h := bind_some h
  obtain ⟨y, hr0, h⟩ := h
  try dsimp only at h
  refine awp_to [(2, .pp 2 0)] [.row false (.trips a0_1), .rbox [.v (.int .i64 a0_0), .sl 0], .box [.v (.int .i64 a0_0), .sl 3], .row true (.trips y)] ?_ ?_
  · clear h
    intro K hK
    refine awp_drawT mixed ftCOk (.free 0 (.free 2 (.free 1 (.one 3 (.one 4 (.one 5 (.one 6 .fin))))))) (by kernel_rfl) (by simp) ?_
    simp (maxSteps := 4000000) only [go_sem, Nat.reduceBEq, Nat.reduceLT, Nat.reduceAdd, Nat.reduceLeDiff, Nat.reduceSub, Nat.reduceEqDiff, Int.reduceToNat, reduceCtorEq, ↓reduceIte]
    repeat' (first | refine And.intro ?_ ?_ | intro hg)
    all_goals (try simp (disch := omega) only [wrap_fits])
    all_goals first
      | (refine hK _ _ ?_; exact Red.auto)
      | exact trivial
      | assumption
      | omega
      | exact wrap_fits (by omega) (by omega)
      | (refine OpK_callA (k_slices_Clone_impl_Edge_impl_Edge a0_1 (h := hr0)) [0] [] ?_
         rintro x Hc' ⟨rfl, rfl⟩ hlen
         simp (maxSteps := 4000000) only [go_sem, Nat.reduceBEq, Nat.reduceLT, Nat.reduceAdd, Nat.reduceLeDiff, Nat.reduceSub, Nat.reduceEqDiff, Int.reduceToNat, reduceCtorEq, ↓reduceIte]
         repeat' (first | refine And.intro ?_ ?_ | intro hg)
         all_goals (try simp (disch := omega) only [wrap_fits])
         all_goals first
           | (refine hK _ _ ?_; exact Red.auto)
           | exact trivial
           | assumption
           | omega
           | exact wrap_fits (by omega) (by omega)
           | (simp (maxSteps := 4000000) only [go_sem, Nat.reduceBEq, Nat.reduceLT, Nat.reduceAdd, Nat.reduceLeDiff, Nat.reduceSub, Nat.reduceEqDiff, Int.reduceToNat, reduceCtorEq, ↓reduceIte]
              repeat' (first | refine And.intro ?_ ?_ | intro hg)
              all_goals (try simp (disch := omega) only [wrap_fits])
              all_goals first | (refine hK _ _ ?_; exact Red.auto) | exact trivial | assumption | omega | exact wrap_fits (by omega) (by omega))
           | (simp_all; done)
           | (simp_all; omega))
      | (simp_all; done)
      | (simp_all; omega)
  · clear hr0
    refine awp_ret ?_
    (try simp only [Thn, InBlk, ↓reduceIte, Nat.reduceEqDiff])
    obtain rfl := Option.some.inj h
    refine ⟨by simp, _, [0, 3], (by simp only [go_sem, Nat.reduceBEq, Nat.reduceLT, Nat.reduceAdd, Nat.reduceLeDiff, Nat.reduceSub, Nat.reduceEqDiff, Int.reduceToNat, reduceCtorEq, ↓reduceIte]; exact rfl), ?_, ?_, ?_, ?_⟩
    · first | exact trivial | exact ⟨trivial, trivial⟩ | exact ⟨trivial, trivial, trivial⟩ | exact ⟨trivial, trivial, trivial, trivial⟩ | (simp only [allP, and_true, true_and]; done) | (simp only [allP, and_true, true_and]; omega)
    · simp [selOk, pos]
    · simp
    · first | exact ⟨rfl, rfl⟩ | (simp only [go_sem, Nat.reduceBEq, Nat.reduceLT, Nat.reduceAdd, Nat.reduceLeDiff, Nat.reduceSub, Nat.reduceEqDiff, Int.reduceToNat, reduceCtorEq, ↓reduceIte]; done) | (simp [go_sem, Nat.reduceBEq, Nat.reduceLT, Nat.reduceAdd, Nat.reduceLeDiff, Nat.reduceSub, Nat.reduceEqDiff, Int.reduceToNat, reduceCtorEq, ↓reduceIte]; done) | (simp only [go_sem, Nat.reduceBEq, Nat.reduceLT, Nat.reduceAdd, Nat.reduceLeDiff, Nat.reduceSub, Nat.reduceEqDiff, Int.reduceToNat, reduceCtorEq, ↓reduceIte]; exact ⟨rfl, rfl⟩) | (simp_all [go_sem, Nat.reduceBEq, Nat.reduceLT, Nat.reduceAdd, Nat.reduceLeDiff, Nat.reduceSub, Nat.reduceEqDiff, Int.reduceToNat, reduceCtorEq, ↓reduceIte]; done)
theorem k_slices_BinarySearchFunc_impl_Edge_impl_Edge_impl_Edge__impl_compareEnds (a0 : List (Int × Int × Int)) (a1_0 : Int) (a1_1 : Int) (a1_2 : Int) {r : Int × Bool} (h : slices_BinarySearchFunc_impl_Edge_impl_Edge_impl_Edge__impl_compareEnds a0 a1_0 a1_1 a1_2 = some r) :
    FnA Try.prog 35 [.sl 0, .agg [.v (.int .i64 a1_0), .v (.int .i64 a1_1), .v (.int .i64 a1_2)], .v (.func (.func 29) #[] #[])] [.row false (.trips a0)] [] (fun x H => x = .tup [.v (.int .i64 r.1), .v (.bool r.2)] ∧ H = [.row false (.trips a0)]) := by
  unfold slices_BinarySearchFunc_impl_Edge_impl_Edge_impl_Edge__impl_compareEnds at h
  refine FnA.of (N := 49) (pin := [0]) (rs := [.tmp 6, .tmp 7]) Try.func35 rfl en35 rfl rfl (by simp) (by simp; try omega) ?_
  refine awp_reg ftCOk [(0, .sl 0), (2, .v (.func (.func 29) #[] #[])), (4, .pp 1 0)] [.row false (.trips a0), .box [.v (.int .i64 a1_0), .v (.int .i64 a1_1), .v (.int .i64 a1_2)]] ?_
  refine awp_freeze 4 (by rfl) (by rfl) (by exact rfl) ?_
  refine awp_reg ftCOk [(0, .sl 0), (2, .v (.func (.func 29) #[] #[])), (4, .pp 1 0), (8, .v (.int .i64 (a0.length : Int)))] [.row false (.trips a0), .rbox [.v (.int .i64 a1_0), .v (.int .i64 a1_1), .v (.int .i64 a1_2)]] ?_
  refine awp_reg ftCOk [(0, .sl 0), (2, .v (.func (.func 29) #[] #[])), (4, .pp 1 0), (8, .v (.int .i64 (a0.length : Int))), (9, .v (.int .i64 0)), (10, .v (.int .i64 (a0.length : Int)))] [.row false (.trips a0), .rbox [.v (.int .i64 a1_0), .v (.int .i64 a1_1), .v (.int .i64 a1_2)]] ?_
  refine awp_seq fun K14 hK14 => ?_
  refine awp_block ?_
  replace h := bind_some h
  obtain ⟨t9_1, hx, h⟩ := h
  refine awp_loopL hx (fun ((t9, t10) : Int × Int) => [(0, .sl 0), (2, .v (.func (.func 29) #[] #[])), (4, .pp 1 0), (8, .v (.int .i64 (a0.length : Int))), (9, .v (.int .i64 t9)), (10, .v (.int .i64 t10))]) (fun ((t9, t10) : Int × Int) => [.row false (.trips a0), .rbox [.v (.int .i64 a1_0), .v (.int .i64 a1_1), .v (.int .i64 a1_2)]]) (fun (t9_1 : Int) => Exit.exit 0) (fun (t9_1 : Int) => [(0, .sl 0), (2, .v (.func (.func 29) #[] #[])), (4, .pp 1 0), (8, .v (.int .i64 (a0.length : Int))), (9, .v (.int .i64 t9_1))]) (fun (t9_1 : Int) => [.row false (.trips a0), .rbox [.v (.int .i64 a1_0), .v (.int .i64 a1_1), .v (.int .i64 a1_2)]]) ?_ ?_ ?_ ?_
  · rintro t9_1 hy <;> cases hy
  · clear h hx
    exact Red.auto
  · clear h hx
    rintro ⟨t9, t10⟩ r h
    unfold slices_BinarySearchFunc_impl_Edge_impl_Edge_impl_Edge__impl_compareEnds_b0 at h
    try dsimp only at h
    try dsimp only
    refine awp_seq fun K24 hK24 => ?_
    refine awp_reg ftCOk [(0, .sl 0), (2, .v (.func (.func 29) #[] #[])), (4, .pp 1 0), (8, .v (.int .i64 (a0.length : Int))), (9, .v (.int .i64 t9)), (10, .v (.int .i64 t10)), (17, .v (.bool (decide (t9 < t10))))] [.row false (.trips a0), .rbox [.v (.int .i64 a1_0), .v (.int .i64 a1_1), .v (.int .i64 a1_2)]] ?_
    refine awp_cond (t := 17) rfl (fun hc25 => ?_) (fun hc25 => ?_)
    · replace h := bite_t h hc25
      refine awp_skip ?_
      (try simp only [Thn, InBlk, ↓reduceIte, Nat.reduceEqDiff])
      refine hK24 _ _ ?_
      clear hK24
      refine awp_block ?_
      replace h := chk_some h
      obtain ⟨hp0, h⟩ := h
      replace h := chk_some h
      obtain ⟨hp1, h⟩ := h
      refine awp_reg ftCOk [(0, .sl 0), (2, .v (.func (.func 29) #[] #[])), (4, .pp 1 0), (8, .v (.int .i64 (a0.length : Int))), (9, .v (.int .i64 t9)), (10, .v (.int .i64 t10)), (11, .v (.int .i64 ((IntKind.u64.wrap (t9 + t10)).fdiv 2)))] [.row false (.trips a0), .rbox [.v (.int .i64 a1_0), .v (.int .i64 a1_1), .v (.int .i64 a1_2)]] ?_
      clear hp0 hp1
      replace h := chk_some h
      obtain ⟨hp0, h⟩ := h
      refine awp_regQ mixed ftCOk [(0, .sl 0), (2, .v (.func (.func 29) #[] #[])), (4, .pp 1 0), (8, .v (.int .i64 (a0.length : Int))), (9, .v (.int .i64 t9)), (10, .v (.int .i64 t10)), (11, .v (.int .i64 ((IntKind.u64.wrap (t9 + t10)).fdiv 2))), (31, .v (.bool (decide ((orF [cmpI (a0.getD (((IntKind.u64.wrap (t9 + t10)).fdiv 2).toNat) (0, 0, 0)).1 a1_0, cmpI (a0.getD (((IntKind.u64.wrap (t9 + t10)).fdiv 2).toNat) (0, 0, 0)).2.1 a1_1]) < 0))))] [.row false (.trips a0), .rbox [.v (.int .i64 a1_0), .v (.int .i64 a1_1), .v (.int .i64 a1_2)]] ?_
      clear hp0
      refine awp_cond (t := 31) rfl (fun hc26 => ?_) (fun hc26 => ?_)
      · replace h := bite_t h hc26
        replace h := chk_some h
        obtain ⟨hp0, h⟩ := h
        refine awp_regE ftCOk [(0, .sl 0), (2, .v (.func (.func 29) #[] #[])), (4, .pp 1 0), (8, .v (.int .i64 (a0.length : Int))), (9, .v (.int .i64 (((IntKind.u64.wrap (t9 + t10)).fdiv 2) + 1))), (10, .v (.int .i64 t10))] [.row false (.trips a0), .rbox [.v (.int .i64 a1_0), .v (.int .i64 a1_1), .v (.int .i64 a1_2)]] ?_
        clear hp0
        (try simp only [Thn, InBlk, ↓reduceIte, Nat.reduceEqDiff])
        obtain rfl := Option.some.inj h
        refine LoopQ.next ?_
        exact Red.auto
      · replace h := bite_f h hc26
        refine awp_regE ftCOk [(0, .sl 0), (2, .v (.func (.func 29) #[] #[])), (4, .pp 1 0), (8, .v (.int .i64 (a0.length : Int))), (9, .v (.int .i64 t9)), (10, .v (.int .i64 ((IntKind.u64.wrap (t9 + t10)).fdiv 2)))] [.row false (.trips a0), .rbox [.v (.int .i64 a1_0), .v (.int .i64 a1_1), .v (.int .i64 a1_2)]] ?_
        (try simp only [Thn, InBlk, ↓reduceIte, Nat.reduceEqDiff])
        obtain rfl := Option.some.inj h
        refine LoopQ.next ?_
        exact Red.auto
    · replace h := bite_f h hc25
      refine awp_exit ?_
      (try simp only [Thn, InBlk, ↓reduceIte, Nat.reduceEqDiff])
      obtain rfl := Option.some.inj h
      refine LoopQ.out rfl ?_
      exact Red.auto
  · clear hx
    skip
    · try dsimp only [Sum.elim_inl, Sum.elim_inr] at h
      try dsimp only [Sum.elim_inl, Sum.elim_inr]
      (try simp only [Thn, InBlk, ↓reduceIte, Nat.reduceEqDiff])
      (try simp only [Thn, InBlk, ↓reduceIte, Nat.reduceEqDiff])
      (try simp only [Thn, InBlk, ↓reduceIte, Nat.reduceEqDiff])
      refine hK14 _ _ ?_
      clear hK14
      replace h := chk_some h
      obtain ⟨hp0, h⟩ := h
      refine awp_to [(6, .v (.int .i64 t9_1)), (7, .v (.bool ((decide (t9_1 < (a0.length : Int))) && ((orF [cmpI (a0.getD t9_1.toNat (0, 0, 0)).1 a1_0, cmpI (a0.getD t9_1.toNat (0, 0, 0)).2.1 a1_1]) == 0))))] [.row false (.trips a0), .rbox [.v (.int .i64 a1_0), .v (.int .i64 a1_1), .v (.int .i64 a1_2)]] ?_ ?_
      · clear h
        intro K hK
        refine awp_quietg mixed ftCOk (by kernel_rfl) ?_
        simp (maxSteps := 4000000) only [go_sem, Nat.reduceBEq, Nat.reduceLT, Nat.reduceAdd, Nat.reduceLeDiff, Nat.reduceSub, Nat.reduceEqDiff, Int.reduceToNat, reduceCtorEq, ↓reduceIte]
        repeat' (first | refine And.intro ?_ ?_ | intro hg)
        all_goals (try simp (disch := omega) only [wrap_fits])
        all_goals first
          | (refine hK _ _ ?_; exact Red.auto)
          | exact trivial
          | assumption
          | omega
          | exact wrap_fits (by omega) (by omega)
          | (have hq := hp0 (by first | assumption | (simp only [*, Bool.false_or, Bool.true_or, Bool.or_false, Bool.or_true, Bool.false_and, Bool.true_and, Bool.and_false, Bool.and_true, Bool.not_true, Bool.not_false, beq_self_eq_true]; done) | (simp_all; done)); omega)
          | (simp_all; done)
          | (simp_all; omega)
      · clear hp0
        refine awp_ret ?_
        (try simp only [Thn, InBlk, ↓reduceIte, Nat.reduceEqDiff])
        obtain rfl := Option.some.inj h
        refine ⟨by simp, _, [0], (by simp only [go_sem, Nat.reduceBEq, Nat.reduceLT, Nat.reduceAdd, Nat.reduceLeDiff, Nat.reduceSub, Nat.reduceEqDiff, Int.reduceToNat, reduceCtorEq, ↓reduceIte]; exact rfl), ?_, ?_, ?_, ?_⟩
        · first | exact trivial | exact ⟨trivial, trivial⟩ | exact ⟨trivial, trivial, trivial⟩ | exact ⟨trivial, trivial, trivial, trivial⟩ | (simp only [allP, and_true, true_and]; done) | (simp only [allP, and_true, true_and]; omega)
        · simp [selOk, pos]
        · simp
        · first | exact ⟨rfl, rfl⟩ | (simp only [go_sem, Nat.reduceBEq, Nat.reduceLT, Nat.reduceAdd, Nat.reduceLeDiff, Nat.reduceSub, Nat.reduceEqDiff, Int.reduceToNat, reduceCtorEq, ↓reduceIte]; done) | (simp [go_sem, Nat.reduceBEq, Nat.reduceLT, Nat.reduceAdd, Nat.reduceLeDiff, Nat.reduceSub, Nat.reduceEqDiff, Int.reduceToNat, reduceCtorEq, ↓reduceIte]; done) | (simp only [go_sem, Nat.reduceBEq, Nat.reduceLT, Nat.reduceAdd, Nat.reduceLeDiff, Nat.reduceSub, Nat.reduceEqDiff, Int.reduceToNat, reduceCtorEq, ↓reduceIte]; exact ⟨rfl, rfl⟩) | (simp_all [go_sem, Nat.reduceBEq, Nat.reduceLT, Nat.reduceAdd, Nat.reduceLeDiff, Nat.reduceSub, Nat.reduceEqDiff, Int.reduceToNat, reduceCtorEq, ↓reduceIte]; done)
theorem k_impl_AddEdge (a0_0 : Int) (a0_1 : List (Int × Int × Int)) (a1_0 : Int) (a1_1 : Int) (a1_2 : Int) {r : Int × (List (Int × Int × Int)) × Bool} (h : impl_AddEdge a0_0 a0_1 a1_0 a1_1 a1_2 = some r) :
    FnA Try.prog 27 [.agg [.v (.int .i64 a0_0), .sl 0], .agg [.v (.int .i64 a1_0), .v (.int .i64 a1_1), .v (.int .i64 a1_2)]] [.row false (.trips a0_1)] [] (fun x H => x = .tup [.agg [.v (.int .i64 r.1), .sl 1], .v (.bool r.2.2)] ∧ H = [.row false (.trips a0_1), .row true (.trips r.2.1)]) := by
  unfold impl_AddEdge at h
  refine FnA.of (N := 41) (pin := [0]) (rs := [.cell 4 25, .tmp 5]) Try.func27 rfl en27 rfl rfl (by simp) (by simp; try omega) ?_
  refine awp_reg ftCOk [(2, .pp 1 0), (3, .pp 2 0), (4, .pp 3 0)] [.row false (.trips a0_1), .box [.v (.int .i64 a0_0), .sl 0], .box [.v (.int .i64 a1_0), .v (.int .i64 a1_1), .v (.int .i64 a1_2)], .box [.v (.int .i64 0), .v (.slice none 0 0)]] ?_
  refine awp_freeze 2 (by rfl) (by rfl) (by exact rfl) ?_
  refine awp_freeze 3 (by rfl) (by rfl) (by exact rfl) ?_
  refine awp_seq fun K2 hK2 => ?_
  replace h := bind_some h
  obtain ⟨y, hr0, h⟩ := h
  try dsimp only at h
  refine awp_to [(2, .pp 1 0), (3, .pp 2 0), (4, .pp 3 0), (11, .v (.bool (!y)))] [.row false (.trips a0_1), .rbox [.v (.int .i64 a0_0), .sl 0], .rbox [.v (.int .i64 a1_0), .v (.int .i64 a1_1), .v (.int .i64 a1_2)], .box [.v (.int .i64 0), .v (.slice none 0 0)]] ?_ ?_
  · clear h
    intro K hK
    refine awp_region ftCOk ?_
    simp (maxSteps := 4000000) only [go_sem, Nat.reduceBEq, Nat.reduceLT, Nat.reduceAdd, Nat.reduceLeDiff, Nat.reduceSub, Nat.reduceEqDiff, Int.reduceToNat, reduceCtorEq, ↓reduceIte]
    repeat' (first | refine And.intro ?_ ?_ | intro hg)
    all_goals (try simp (disch := omega) only [wrap_fits])
    all_goals first
      | (refine hK _ _ ?_; exact Red.auto)
      | exact trivial
      | assumption
      | omega
      | exact wrap_fits (by omega) (by omega)
      | (refine wpA_callA (k_impl_GraphValid a0_0 a0_1 (h := hr0)) [0] [] ?_
         rintro x Hc' ⟨rfl, rfl⟩ hlen
         refine vcOps_sound ftCOk ?_
         simp (maxSteps := 4000000) only [go_sem, Nat.reduceBEq, Nat.reduceLT, Nat.reduceAdd, Nat.reduceLeDiff, Nat.reduceSub, Nat.reduceEqDiff, Int.reduceToNat, reduceCtorEq, ↓reduceIte]
         repeat' (first | refine And.intro ?_ ?_ | intro hg)
         all_goals (try simp (disch := omega) only [wrap_fits])
         all_goals first
           | (refine hK _ _ ?_; exact Red.auto)
           | exact trivial
           | assumption
           | omega
           | exact wrap_fits (by omega) (by omega)
           | (simp_all; done)
           | (simp_all; omega))
      | (simp_all; done)
      | (simp_all; omega)
  · clear hr0
    refine awp_cond (t := 11) rfl (fun hc3 => ?_) (fun hc3 => ?_)
    · replace h := bite_t h hc3
      refine awp_reg ftCOk [(4, .pp 3 0), (5, .v (.bool false))] [.row false (.trips a0_1), .rbox [.v (.int .i64 a0_0), .sl 0], .rbox [.v (.int .i64 a1_0), .v (.int .i64 a1_1), .v (.int .i64 a1_2)], .box [.v (.int .i64 0), .v (.slice none 0 0)]] ?_
      refine awp_red (Red.nilCell (o := 3) (i := 1) (.trips []) rfl rfl rfl) ?_
      refine awp_ret ?_
      (try simp only [Thn, InBlk, ↓reduceIte, Nat.reduceEqDiff])
      obtain rfl := Option.some.inj h
      refine ⟨by simp, _, [0, 4], (by simp only [go_sem, Nat.reduceBEq, Nat.reduceLT, Nat.reduceAdd, Nat.reduceLeDiff, Nat.reduceSub, Nat.reduceEqDiff, Int.reduceToNat, reduceCtorEq, ↓reduceIte]; exact rfl), ?_, ?_, ?_, ?_⟩
      · first | exact trivial | exact ⟨trivial, trivial⟩ | exact ⟨trivial, trivial, trivial⟩ | exact ⟨trivial, trivial, trivial, trivial⟩ | (simp only [allP, and_true, true_and]; done) | (simp only [allP, and_true, true_and]; omega)
      · simp [selOk, pos]
      · simp
      · first | exact ⟨rfl, rfl⟩ | (simp only [go_sem, Nat.reduceBEq, Nat.reduceLT, Nat.reduceAdd, Nat.reduceLeDiff, Nat.reduceSub, Nat.reduceEqDiff, Int.reduceToNat, reduceCtorEq, ↓reduceIte]; done) | (simp [go_sem, Nat.reduceBEq, Nat.reduceLT, Nat.reduceAdd, Nat.reduceLeDiff, Nat.reduceSub, Nat.reduceEqDiff, Int.reduceToNat, reduceCtorEq, ↓reduceIte]; done) | (simp only [go_sem, Nat.reduceBEq, Nat.reduceLT, Nat.reduceAdd, Nat.reduceLeDiff, Nat.reduceSub, Nat.reduceEqDiff, Int.reduceToNat, reduceCtorEq, ↓reduceIte]; exact ⟨rfl, rfl⟩) | (simp_all [go_sem, Nat.reduceBEq, Nat.reduceLT, Nat.reduceAdd, Nat.reduceLeDiff, Nat.reduceSub, Nat.reduceEqDiff, Int.reduceToNat, reduceCtorEq, ↓reduceIte]; done)
    · replace h := bite_f h hc3
      refine awp_skip ?_
      (try simp only [Thn, InBlk, ↓reduceIte, Nat.reduceEqDiff])
      refine hK2 _ _ ?_
      clear hK2
      replace h := bind_some h
      obtain ⟨⟨y_1, y_2⟩, hr0, h⟩ := h
      try dsimp only at h
      refine awp_to [(2, .pp 1 0), (3, .pp 2 0), (4, .pp 3 0), (6, .v (.int .i64 y_1)), (7, .v (.bool y_2))] [.row false (.trips a0_1), .rbox [.v (.int .i64 a0_0), .sl 0], .rbox [.v (.int .i64 a1_0), .v (.int .i64 a1_1), .v (.int .i64 a1_2)], .box [.v (.int .i64 0), .v (.slice none 0 0)]] ?_ ?_
      · clear h
        intro K hK
        refine awp_region ftCOk ?_
        simp (maxSteps := 4000000) only [go_sem, Nat.reduceBEq, Nat.reduceLT, Nat.reduceAdd, Nat.reduceLeDiff, Nat.reduceSub, Nat.reduceEqDiff, Int.reduceToNat, reduceCtorEq, ↓reduceIte]
        repeat' (first | refine And.intro ?_ ?_ | intro hg)
        all_goals (try simp (disch := omega) only [wrap_fits])
        all_goals first
          | (refine hK _ _ ?_; exact Red.auto)
          | exact trivial
          | assumption
          | omega
          | exact wrap_fits (by omega) (by omega)
          | (refine wpA_callA (k_slices_BinarySearchFunc_impl_Edge_impl_Edge_impl_Edge__impl_compareEnds a0_1 a1_0 a1_1 a1_2 (h := hr0)) [0] [] ?_
             rintro x Hc' ⟨rfl, rfl⟩ hlen
             refine vcOps_sound ftCOk ?_
             simp (maxSteps := 4000000) only [go_sem, Nat.reduceBEq, Nat.reduceLT, Nat.reduceAdd, Nat.reduceLeDiff, Nat.reduceSub, Nat.reduceEqDiff, Int.reduceToNat, reduceCtorEq, ↓reduceIte]
             repeat' (first | refine And.intro ?_ ?_ | intro hg)
             all_goals (try simp (disch := omega) only [wrap_fits])
             all_goals first
               | (refine hK _ _ ?_; exact Red.auto)
               | exact trivial
               | assumption
               | omega
               | exact wrap_fits (by omega) (by omega)
               | (simp_all; done)
               | (simp_all; omega))
          | (simp_all; done)
          | (simp_all; omega)
      · clear hr0
        replace h := bind_some h
        obtain ⟨⟨y_3, y_4⟩, hr0, h⟩ := h
        try dsimp only at h
        refine awp_to [(2, .pp 1 0), (3, .pp 2 0), (4, .pp 3 0), (6, .v (.int .i64 y_1)), (7, .v (.bool y_2)), (8, .pp 5 0)] [.row false (.trips a0_1), .rbox [.v (.int .i64 a0_0), .sl 0], .rbox [.v (.int .i64 a1_0), .v (.int .i64 a1_1), .v (.int .i64 a1_2)], .box [.v (.int .i64 0), .v (.slice none 0 0)], .row true (.trips y_4), .box [.v (.int .i64 y_3), .sl 4]] ?_ ?_
        · clear h
          intro K hK
          refine awp_region ftCOk ?_
          simp (maxSteps := 4000000) only [go_sem, Nat.reduceBEq, Nat.reduceLT, Nat.reduceAdd, Nat.reduceLeDiff, Nat.reduceSub, Nat.reduceEqDiff, Int.reduceToNat, reduceCtorEq, ↓reduceIte]
          repeat' (first | refine And.intro ?_ ?_ | intro hg)
          all_goals (try simp (disch := omega) only [wrap_fits])
          all_goals first
            | (refine hK _ _ ?_; exact Red.auto)
            | exact trivial
            | assumption
            | omega
            | exact wrap_fits (by omega) (by omega)
            | (refine wpA_callA (k_impl_Graph_copied a0_0 a0_1 (h := hr0)) [0] [] ?_
               rintro x Hc' ⟨rfl, rfl⟩ hlen
               refine vcOps_sound ftCOk ?_
               simp (maxSteps := 4000000) only [go_sem, Nat.reduceBEq, Nat.reduceLT, Nat.reduceAdd, Nat.reduceLeDiff, Nat.reduceSub, Nat.reduceEqDiff, Int.reduceToNat, reduceCtorEq, ↓reduceIte]
               repeat' (first | refine And.intro ?_ ?_ | intro hg)
               all_goals (try simp (disch := omega) only [wrap_fits])
               all_goals first
                 | (refine hK _ _ ?_; exact Red.auto)
                 | exact trivial
                 | assumption
                 | omega
                 | exact wrap_fits (by omega) (by omega)
                 | (simp_all; done)
                 | (simp_all; omega))
            | (simp_all; done)
            | (simp_all; omega)
        · clear hr0
          refine awp_join h (fun (t8_1s : List (Int × Int × Int)) => [(2, .pp 1 0), (4, .pp 2 0), (8, .pp 3 0)]) (fun (t8_1s : List (Int × Int × Int)) => [.row false (.trips a0_1), .rbox [.v (.int .i64 a0_0), .sl 0], .box [.v (.int .i64 0), .v (.slice none 0 0)], .box [.v (.int .i64 y_3), .sl 4], .row true (.trips t8_1s)]) ?_ ?_
          · clear h
            intro k h
            try dsimp only at h
            refine awp_reg ftCOk [(2, .pp 1 0), (3, .pp 2 0), (4, .pp 3 0), (6, .v (.int .i64 y_1)), (8, .pp 5 0), (22, .v (.bool y_2))] [.row false (.trips a0_1), .rbox [.v (.int .i64 a0_0), .sl 0], .rbox [.v (.int .i64 a1_0), .v (.int .i64 a1_1), .v (.int .i64 a1_2)], .box [.v (.int .i64 0), .v (.slice none 0 0)], .row true (.trips y_4), .box [.v (.int .i64 y_3), .sl 4]] ?_
            refine awp_cond (t := 22) rfl (fun hc5 => ?_) (fun hc5 => ?_)
            · replace h := bite_t h hc5
              replace h := chk_some h
              obtain ⟨hp0, h⟩ := h
              refine awp_regE ftCOk [(2, .pp 1 0), (4, .pp 3 0), (8, .pp 5 0)] [.row false (.trips a0_1), .rbox [.v (.int .i64 a0_0), .sl 0], .rbox [.v (.int .i64 a1_0), .v (.int .i64 a1_1), .v (.int .i64 a1_2)], .box [.v (.int .i64 0), .v (.slice none 0 0)], .row true (.trips (y_4.set y_1.toNat (a1_0, a1_1, a1_2))), .box [.v (.int .i64 y_3), .sl 4]] ?_
              clear hp0
              (try simp only [Thn, InBlk, ↓reduceIte, Nat.reduceEqDiff])
              refine ⟨_, h, ?_⟩
              exact Red.selA [0, 1, 3, 5, 4] Red.auto
            · replace h := bite_f h hc5
              replace h := bind_some h
              obtain ⟨y_5, hr0, h⟩ := h
              try dsimp only at h
              refine awp_end [(2, .pp 1 0), (4, .pp 3 0), (8, .pp 5 0)] [.row false (.trips a0_1), .rbox [.v (.int .i64 a0_0), .sl 0], .rbox [.v (.int .i64 a1_0), .v (.int .i64 a1_1), .v (.int .i64 a1_2)], .box [.v (.int .i64 0), .v (.slice none 0 0)], .dead, .box [.v (.int .i64 y_3), .sl 7], .row true (.trips [(a1_0, a1_1, a1_2)]), .row true (.trips y_5)] ?_ ?_
              · clear h
                intro K hK
                refine awp_region ftCOk ?_
                simp (maxSteps := 4000000) only [go_sem, Nat.reduceBEq, Nat.reduceLT, Nat.reduceAdd, Nat.reduceLeDiff, Nat.reduceSub, Nat.reduceEqDiff, Int.reduceToNat, reduceCtorEq, ↓reduceIte]
                repeat' (first | refine And.intro ?_ ?_ | intro hg)
                all_goals (try simp (disch := omega) only [wrap_fits])
                all_goals first
                  | (refine hK _ _ ?_; exact Red.auto)
                  | exact trivial
                  | assumption
                  | omega
                  | exact wrap_fits (by omega) (by omega)
                  | (refine wpA_callA (k_insF y_4 y_1 [(a1_0, a1_1, a1_2)] (h := hr0)) [4, 6] [] ?_
                     rintro x Hc' ⟨rfl, rfl⟩ hlen
                     refine vcOps_sound ftCOk ?_
                     simp (maxSteps := 4000000) only [go_sem, Nat.reduceBEq, Nat.reduceLT, Nat.reduceAdd, Nat.reduceLeDiff, Nat.reduceSub, Nat.reduceEqDiff, Int.reduceToNat, reduceCtorEq, ↓reduceIte]
                     repeat' (first | refine And.intro ?_ ?_ | intro hg)
                     all_goals (try simp (disch := omega) only [wrap_fits])
                     all_goals first
                       | (refine hK _ _ ?_; exact Red.auto)
                       | exact trivial
                       | assumption
                       | omega
                       | exact wrap_fits (by omega) (by omega)
                       | (simp_all; done)
                       | (simp_all; omega))
                  | (simp_all; done)
                  | (simp_all; omega)
              · clear hr0
                (try simp only [Thn, InBlk, ↓reduceIte, Nat.reduceEqDiff])
                refine ⟨_, h, ?_⟩
                exact Red.selA [0, 1, 3, 5, 7] Red.auto
          · clear h
            rintro t8_1s h
            try dsimp only at h
            try dsimp only
            refine awp_seq fun K7 hK7 => ?_
            replace h := bind_some h
            obtain ⟨y_6, hr0, h⟩ := h
            try dsimp only at h
            refine awp_to [(2, .pp 1 0), (4, .pp 2 0), (8, .pp 3 0), (37, .v (.bool (!y_6)))] [.row false (.trips a0_1), .rbox [.v (.int .i64 a0_0), .sl 0], .box [.v (.int .i64 0), .v (.slice none 0 0)], .box [.v (.int .i64 y_3), .sl 4], .row true (.trips t8_1s)] ?_ ?_
            · clear h
              intro K hK
              refine awp_region ftCOk ?_
              simp (maxSteps := 4000000) only [go_sem, Nat.reduceBEq, Nat.reduceLT, Nat.reduceAdd, Nat.reduceLeDiff, Nat.reduceSub, Nat.reduceEqDiff, Int.reduceToNat, reduceCtorEq, ↓reduceIte]
              repeat' (first | refine And.intro ?_ ?_ | intro hg)
              all_goals (try simp (disch := omega) only [wrap_fits])
              all_goals first
                | (refine hK _ _ ?_; exact Red.auto)
                | exact trivial
                | assumption
                | omega
                | exact wrap_fits (by omega) (by omega)
                | (refine wpA_callA (k_impl_GraphValid y_3 t8_1s (h := hr0)) [4] [] ?_
                   rintro x Hc' ⟨rfl, rfl⟩ hlen
                   refine vcOps_sound ftCOk ?_
                   simp (maxSteps := 4000000) only [go_sem, Nat.reduceBEq, Nat.reduceLT, Nat.reduceAdd, Nat.reduceLeDiff, Nat.reduceSub, Nat.reduceEqDiff, Int.reduceToNat, reduceCtorEq, ↓reduceIte]
                   repeat' (first | refine And.intro ?_ ?_ | intro hg)
                   all_goals (try simp (disch := omega) only [wrap_fits])
                   all_goals first
                     | (refine hK _ _ ?_; exact Red.auto)
                     | exact trivial
                     | assumption
                     | omega
                     | exact wrap_fits (by omega) (by omega)
                     | (simp_all; done)
                     | (simp_all; omega))
                | (simp_all; done)
                | (simp_all; omega)
            · clear hr0
              refine awp_cond (t := 37) rfl (fun hc8 => ?_) (fun hc8 => ?_)
              · replace h := bite_t h hc8
                replace h := bind_some h
                obtain ⟨⟨y_7, y_8⟩, hr0, h⟩ := h
                try dsimp only at h
                refine awp_to [(4, .pp 2 0), (5, .v (.bool false))] [.row false (.trips a0_1), .rbox [.v (.int .i64 a0_0), .sl 0], .box [.v (.int .i64 y_7), .sl 5], .box [.v (.int .i64 y_3), .sl 4], .row true (.trips t8_1s), .row true (.trips y_8)] ?_ ?_
                · clear h
                  intro K hK
                  refine awp_region ftCOk ?_
                  simp (maxSteps := 4000000) only [go_sem, Nat.reduceBEq, Nat.reduceLT, Nat.reduceAdd, Nat.reduceLeDiff, Nat.reduceSub, Nat.reduceEqDiff, Int.reduceToNat, reduceCtorEq, ↓reduceIte]
                  repeat' (first | refine And.intro ?_ ?_ | intro hg)
                  all_goals (try simp (disch := omega) only [wrap_fits])
                  all_goals first
                    | (refine hK _ _ ?_; exact Red.auto)
                    | exact trivial
                    | assumption
                    | omega
                    | exact wrap_fits (by omega) (by omega)
                    | (refine wpA_callA (k_impl_Graph_copied a0_0 a0_1 (h := hr0)) [0] [] ?_
                       rintro x Hc' ⟨rfl, rfl⟩ hlen
                       refine vcOps_sound ftCOk ?_
                       simp (maxSteps := 4000000) only [go_sem, Nat.reduceBEq, Nat.reduceLT, Nat.reduceAdd, Nat.reduceLeDiff, Nat.reduceSub, Nat.reduceEqDiff, Int.reduceToNat, reduceCtorEq, ↓reduceIte]
                       repeat' (first | refine And.intro ?_ ?_ | intro hg)
                       all_goals (try simp (disch := omega) only [wrap_fits])
                       all_goals first
                         | (refine hK _ _ ?_; exact Red.auto)
                         | exact trivial
                         | assumption
                         | omega
                         | exact wrap_fits (by omega) (by omega)
                         | (simp_all; done)
                         | (simp_all; omega))
                    | (simp_all; done)
                    | (simp_all; omega)
                · clear hr0
                  refine awp_ret ?_
                  (try simp only [Thn, InBlk, ↓reduceIte, Nat.reduceEqDiff])
                  obtain rfl := Option.some.inj h
                  refine ⟨by simp, _, [0, 5], (by simp only [go_sem, Nat.reduceBEq, Nat.reduceLT, Nat.reduceAdd, Nat.reduceLeDiff, Nat.reduceSub, Nat.reduceEqDiff, Int.reduceToNat, reduceCtorEq, ↓reduceIte]; exact rfl), ?_, ?_, ?_, ?_⟩
                  · first | exact trivial | exact ⟨trivial, trivial⟩ | exact ⟨trivial, trivial, trivial⟩ | exact ⟨trivial, trivial, trivial, trivial⟩ | (simp only [allP, and_true, true_and]; done) | (simp only [allP, and_true, true_and]; omega)
                  · simp [selOk, pos]
                  · simp
                  · first | exact ⟨rfl, rfl⟩ | (simp only [go_sem, Nat.reduceBEq, Nat.reduceLT, Nat.reduceAdd, Nat.reduceLeDiff, Nat.reduceSub, Nat.reduceEqDiff, Int.reduceToNat, reduceCtorEq, ↓reduceIte]; done) | (simp [go_sem, Nat.reduceBEq, Nat.reduceLT, Nat.reduceAdd, Nat.reduceLeDiff, Nat.reduceSub, Nat.reduceEqDiff, Int.reduceToNat, reduceCtorEq, ↓reduceIte]; done) | (simp only [go_sem, Nat.reduceBEq, Nat.reduceLT, Nat.reduceAdd, Nat.reduceLeDiff, Nat.reduceSub, Nat.reduceEqDiff, Int.reduceToNat, reduceCtorEq, ↓reduceIte]; exact ⟨rfl, rfl⟩) | (simp_all [go_sem, Nat.reduceBEq, Nat.reduceLT, Nat.reduceAdd, Nat.reduceLeDiff, Nat.reduceSub, Nat.reduceEqDiff, Int.reduceToNat, reduceCtorEq, ↓reduceIte]; done)
              · replace h := bite_f h hc8
                refine awp_skip ?_
                (try simp only [Thn, InBlk, ↓reduceIte, Nat.reduceEqDiff])
                refine hK7 _ _ ?_
                clear hK7
                refine awp_reg ftCOk [(4, .pp 2 0), (5, .v (.bool true))] [.row false (.trips a0_1), .rbox [.v (.int .i64 a0_0), .sl 0], .box [.v (.int .i64 y_3), .sl 4], .box [.v (.int .i64 y_3), .sl 4], .row true (.trips t8_1s)] ?_
                refine awp_ret ?_
                (try simp only [Thn, InBlk, ↓reduceIte, Nat.reduceEqDiff])
                obtain rfl := Option.some.inj h
                refine ⟨by simp, _, [0, 4], (by simp only [go_sem, Nat.reduceBEq, Nat.reduceLT, Nat.reduceAdd, Nat.reduceLeDiff, Nat.reduceSub, Nat.reduceEqDiff, Int.reduceToNat, reduceCtorEq, ↓reduceIte]; exact rfl), ?_, ?_, ?_, ?_⟩
                · first | exact trivial | exact ⟨trivial, trivial⟩ | exact ⟨trivial, trivial, trivial⟩ | exact ⟨trivial, trivial, trivial, trivial⟩ | (simp only [allP, and_true, true_and]; done) | (simp only [allP, and_true, true_and]; omega)
                · simp [selOk, pos]
                · simp
                · first | exact ⟨rfl, rfl⟩ | (simp only [go_sem, Nat.reduceBEq, Nat.reduceLT, Nat.reduceAdd, Nat.reduceLeDiff, Nat.reduceSub, Nat.reduceEqDiff, Int.reduceToNat, reduceCtorEq, ↓reduceIte]; done) | (simp [go_sem, Nat.reduceBEq, Nat.reduceLT, Nat.reduceAdd, Nat.reduceLeDiff, Nat.reduceSub, Nat.reduceEqDiff, Int.reduceToNat, reduceCtorEq, ↓reduceIte]; done) | (simp only [go_sem, Nat.reduceBEq, Nat.reduceLT, Nat.reduceAdd, Nat.reduceLeDiff, Nat.reduceSub, Nat.reduceEqDiff, Int.reduceToNat, reduceCtorEq, ↓reduceIte]; exact ⟨rfl, rfl⟩) | (simp_all [go_sem, Nat.reduceBEq, Nat.reduceLT, Nat.reduceAdd, Nat.reduceLeDiff, Nat.reduceSub, Nat.reduceEqDiff, Int.reduceToNat, reduceCtorEq, ↓reduceIte]; done)
theorem k_impl_JoinParts (a0 : List (Int × List (Int × Int × Int))) {r : Int × (List (Int × Int × Int)) × Bool} (h : impl_JoinParts a0 = some r) :
    FnA Try.prog 12 [.sl 0] [.row false (.graphs a0)] [] (fun x H => x = .tup [.agg [.v (.int .i64 r.1), .sl 1], .v (.bool r.2.2)] ∧ H = [.row false (.graphs a0), .row true (.trips r.2.1)]) := by
  unfold impl_JoinParts at h
  refine FnA.of (N := 80) (pin := [0]) (rs := [.cell 2 25, .tmp 3]) Try.func12 rfl en12 rfl rfl (by simp) (by simp; try omega) ?_
  refine awp_reg ftCOk [(0, .sl 0), (2, .pp 1 0)] [.row false (.graphs a0), .box [.v (.int .i64 0), .v (.slice none 0 0)]] ?_
  refine awp_seq fun K2 hK2 => ?_
  replace h := bind_some h
  obtain ⟨y, hr0, h⟩ := h
  try dsimp only at h
  refine awp_to [(0, .sl 0), (2, .pp 1 0), (17, .v (.bool (!y)))] [.row false (.graphs a0), .box [.v (.int .i64 0), .v (.slice none 0 0)]] ?_ ?_
  · clear h
    intro K hK
    refine awp_region ftCOk ?_
    simp (maxSteps := 4000000) only [go_sem, Nat.reduceBEq, Nat.reduceLT, Nat.reduceAdd, Nat.reduceLeDiff, Nat.reduceSub, Nat.reduceEqDiff, Int.reduceToNat, reduceCtorEq, ↓reduceIte]
    repeat' (first | refine And.intro ?_ ?_ | intro hg)
    all_goals (try simp (disch := omega) only [wrap_fits])
    all_goals first
      | (refine hK _ _ ?_; exact Red.auto)
      | exact trivial
      | assumption
      | omega
      | exact wrap_fits (by omega) (by omega)
      | (refine wpA_callA (k_impl_workersFit (a0.length : Int) (h := hr0)) [] [] ?_
         rintro x Hc' ⟨rfl, rfl⟩ hlen
         refine vcOps_sound ftCOk ?_
         simp (maxSteps := 4000000) only [go_sem, Nat.reduceBEq, Nat.reduceLT, Nat.reduceAdd, Nat.reduceLeDiff, Nat.reduceSub, Nat.reduceEqDiff, Int.reduceToNat, reduceCtorEq, ↓reduceIte]
         repeat' (first | refine And.intro ?_ ?_ | intro hg)
         all_goals (try simp (disch := omega) only [wrap_fits])
         all_goals first
           | (refine hK _ _ ?_; exact Red.auto)
           | exact trivial
           | assumption
           | omega
           | exact wrap_fits (by omega) (by omega)
           | (simp_all; done)
           | (simp_all; omega))
      | (simp_all; done)
      | (simp_all; omega)
  · clear hr0
    refine awp_cond (t := 17) rfl (fun hc3 => ?_) (fun hc3 => ?_)
    · replace h := bite_t h hc3
      refine awp_reg ftCOk [(2, .pp 1 0), (3, .v (.bool false))] [.row false (.graphs a0), .box [.v (.int .i64 0), .v (.slice none 0 0)]] ?_
      refine awp_red (Red.nilCell (o := 1) (i := 1) (.trips []) rfl rfl rfl) ?_
      refine awp_ret ?_
      (try simp only [Thn, InBlk, ↓reduceIte, Nat.reduceEqDiff])
      obtain rfl := Option.some.inj h
      refine ⟨by simp, _, [0, 2], (by simp only [go_sem, Nat.reduceBEq, Nat.reduceLT, Nat.reduceAdd, Nat.reduceLeDiff, Nat.reduceSub, Nat.reduceEqDiff, Int.reduceToNat, reduceCtorEq, ↓reduceIte]; exact rfl), ?_, ?_, ?_, ?_⟩
      · first | exact trivial | exact ⟨trivial, trivial⟩ | exact ⟨trivial, trivial, trivial⟩ | exact ⟨trivial, trivial, trivial, trivial⟩ | (simp only [allP, and_true, true_and]; done) | (simp only [allP, and_true, true_and]; omega)
      · simp [selOk, pos]
      · simp
      · first | exact ⟨rfl, rfl⟩ | (simp only [go_sem, Nat.reduceBEq, Nat.reduceLT, Nat.reduceAdd, Nat.reduceLeDiff, Nat.reduceSub, Nat.reduceEqDiff, Int.reduceToNat, reduceCtorEq, ↓reduceIte]; done) | (simp [go_sem, Nat.reduceBEq, Nat.reduceLT, Nat.reduceAdd, Nat.reduceLeDiff, Nat.reduceSub, Nat.reduceEqDiff, Int.reduceToNat, reduceCtorEq, ↓reduceIte]; done) | (simp only [go_sem, Nat.reduceBEq, Nat.reduceLT, Nat.reduceAdd, Nat.reduceLeDiff, Nat.reduceSub, Nat.reduceEqDiff, Int.reduceToNat, reduceCtorEq, ↓reduceIte]; exact ⟨rfl, rfl⟩) | (simp_all [go_sem, Nat.reduceBEq, Nat.reduceLT, Nat.reduceAdd, Nat.reduceLeDiff, Nat.reduceSub, Nat.reduceEqDiff, Int.reduceToNat, reduceCtorEq, ↓reduceIte]; done)
    · replace h := bite_f h hc3
      refine awp_skip ?_
      (try simp only [Thn, InBlk, ↓reduceIte, Nat.reduceEqDiff])
      refine hK2 _ _ ?_
      clear hK2
      refine awp_seq fun K29 hK29 => ?_
      refine awp_reg ftCOk [(0, .sl 0), (2, .pp 1 0), (19, .sl 0), (20, .v (.int .i64 (a0.length : Int))), (21, .v (.int .i64 0))] [.row false (.graphs a0), .box [.v (.int .i64 0), .v (.slice none 0 0)]] ?_
      refine awp_block ?_
      replace h := bind_some h
      obtain ⟨x54, hx, h⟩ := h
      refine awp_loopL hx (fun (t21 : Int) => [(0, .sl 0), (2, .pp 1 0), (19, .sl 0), (20, .v (.int .i64 (a0.length : Int))), (21, .v (.int .i64 t21))]) (fun (t21 : Int) => [.row false (.graphs a0), .box [.v (.int .i64 0), .v (.slice none 0 0)]]) (Sum.elim (fun (_ : Unit) => Exit.exit 0) (fun (_ : Unit) => Exit.ret)) (Sum.elim (fun (_ : Unit) => [(0, .sl 0), (2, .pp 1 0)]) (fun (_ : Unit) => [(2, .pp 1 0), (3, .v (.bool false))])) (Sum.elim (fun (_ : Unit) => [.row false (.graphs a0), .box [.v (.int .i64 0), .v (.slice none 0 0)]]) (fun (_ : Unit) => [.row false (.graphs a0), .box [.v (.int .i64 0), .sl 2], .row true (.trips [])])) ?_ ?_ ?_ ?_
      · rintro (⟨⟩ | ⟨⟩) hy <;> cases hy
      · clear h hx
        exact Red.auto
      · clear h hx
        rintro t21 r h
        unfold impl_JoinParts_b0 at h
        try dsimp only at h
        try dsimp only
        refine awp_reg ftCOk [(0, .sl 0), (2, .pp 1 0), (19, .sl 0), (20, .v (.int .i64 (a0.length : Int))), (21, .v (.int .i64 t21)), (22, .v (.bool (decide (t21 < (a0.length : Int)))))] [.row false (.graphs a0), .box [.v (.int .i64 0), .v (.slice none 0 0)]] ?_
        refine awp_seq fun K47 hK47 => ?_
        refine awp_cond (t := 22) rfl (fun hc48 => ?_) (fun hc48 => ?_)
        · replace h := bite_t h hc48
          refine awp_skip ?_
          (try simp only [Thn, InBlk, ↓reduceIte, Nat.reduceEqDiff])
          refine hK47 _ _ ?_
          clear hK47
          refine awp_seq fun K51 hK51 => ?_
          refine awp_block ?_
          replace h := chk_some h
          obtain ⟨hpt53, h⟩ := h
          refine awp_take 0 t21.toNat 1 (by rfl) (by exact hpt53) (by rfl) (by exact rfl) ?_
          clear hpt53
          replace h := chk_some h
          obtain ⟨hp0, h⟩ := h
          refine awp_reg ftCOk [(0, .sl 0), (2, .pp 1 0), (5, .pp 3 0), (19, .sl 0), (20, .v (.int .i64 (a0.length : Int))), (21, .v (.int .i64 t21))] [.tak false (.graphs a0) t21.toNat 1 (some 2), .box [.v (.int .i64 0), .v (.slice none 0 0)], .row false (.trips ((a0.getD t21.toNat (0, [])).2)), .box [.v (.int .i64 ((a0.getD t21.toNat (0, [])).1)), .sl 2]] ?_
          clear hp0
          refine awp_put 0 2 (by rfl) (by rfl) (Cont.setChild_self (by rfl)) (by exact rfl) ?_
          replace h := bind_some h
          obtain ⟨y_1, hr0, h⟩ := h
          try dsimp only at h
          replace h := chk_some h
          obtain ⟨hp1, h⟩ := h
          refine awp_to [(0, .sl 0), (2, .pp 1 0), (19, .sl 0), (20, .v (.int .i64 (a0.length : Int))), (21, .v (.int .i64 t21)), (36, .v (.bool ((!y_1) || ((a0.getD t21.toNat (0, [])).1 != (a0.getD 0 (0, [])).1))))] [.row false (.graphs a0), .box [.v (.int .i64 0), .v (.slice none 0 0)], .row false (.trips ((a0.getD t21.toNat (0, [])).2)), .box [.v (.int .i64 ((a0.getD t21.toNat (0, [])).1)), .sl 2]] ?_ ?_
          · clear h
            intro K hK
            refine awp_drawT mixed ftCOk (.one 0 (.one 1 (.one 2 (.one 3 (.free 4 (.free 6 (.free 7 (.free 8 (.free 9 (.one 5 (.one 10 (.one 11 .fin)))))))))))) (by kernel_rfl) (by simp) ?_
            simp (maxSteps := 4000000) only [go_sem, Nat.reduceBEq, Nat.reduceLT, Nat.reduceAdd, Nat.reduceLeDiff, Nat.reduceSub, Nat.reduceEqDiff, Int.reduceToNat, reduceCtorEq, ↓reduceIte]
            repeat' (first | refine And.intro ?_ ?_ | intro hg)
            all_goals (try simp (disch := omega) only [wrap_fits])
            all_goals first
              | (refine hK _ _ ?_; exact Red.auto)
              | exact trivial
              | assumption
              | omega
              | exact wrap_fits (by omega) (by omega)
              | (have hq := hp1 (by first | assumption | (simp only [*, Bool.false_or, Bool.true_or, Bool.or_false, Bool.or_true, Bool.false_and, Bool.true_and, Bool.and_false, Bool.and_true, Bool.not_true, Bool.not_false, beq_self_eq_true]; done) | (simp_all; done)); omega)
              | (refine OpK_callA (k_impl_GraphValid ((a0.getD t21.toNat (0, [])).1) ((a0.getD t21.toNat (0, [])).2) (h := hr0)) [2] [] ?_
                 rintro x Hc' ⟨rfl, rfl⟩ hlen
                 simp (maxSteps := 4000000) only [go_sem, Nat.reduceBEq, Nat.reduceLT, Nat.reduceAdd, Nat.reduceLeDiff, Nat.reduceSub, Nat.reduceEqDiff, Int.reduceToNat, reduceCtorEq, ↓reduceIte]
                 repeat' (first | refine And.intro ?_ ?_ | intro hg)
                 all_goals (try simp (disch := omega) only [wrap_fits])
                 all_goals first
                   | (refine hK _ _ ?_; exact Red.auto)
                   | exact trivial
                   | assumption
                   | omega
                   | exact wrap_fits (by omega) (by omega)
                   | (have hq := hp1 (by first | assumption | (simp only [*, Bool.false_or, Bool.true_or, Bool.or_false, Bool.or_true, Bool.false_and, Bool.true_and, Bool.and_false, Bool.and_true, Bool.not_true, Bool.not_false, beq_self_eq_true]; done) | (simp_all; done)); omega)
                   | (simp (maxSteps := 4000000) only [go_sem, Nat.reduceBEq, Nat.reduceLT, Nat.reduceAdd, Nat.reduceLeDiff, Nat.reduceSub, Nat.reduceEqDiff, Int.reduceToNat, reduceCtorEq, ↓reduceIte]
                      repeat' (first | refine And.intro ?_ ?_ | intro hg)
                      all_goals (try simp (disch := omega) only [wrap_fits])
                      all_goals first | (refine hK _ _ ?_; exact Red.auto) | exact trivial | assumption | omega | exact wrap_fits (by omega) (by omega) | (have hq := hp1 (by first | assumption | (simp only [*, Bool.false_or, Bool.true_or, Bool.or_false, Bool.or_true, Bool.false_and, Bool.true_and, Bool.and_false, Bool.and_true, Bool.not_true, Bool.not_false, beq_self_eq_true]; done) | (simp_all; done)); omega))
                   | (simp_all; done)
                   | (simp_all; omega))
              | (simp_all; done)
              | (simp_all; omega)
          · clear hr0 hp1
            refine awp_cond (t := 36) rfl (fun hc52 => ?_) (fun hc52 => ?_)
            · replace h := bite_t h hc52
              refine awp_reg ftCOk [(2, .pp 1 0), (3, .v (.bool false))] [.row false (.graphs a0), .box [.v (.int .i64 0), .v (.slice none 0 0)], .row false (.trips ((a0.getD t21.toNat (0, [])).2)), .box [.v (.int .i64 ((a0.getD t21.toNat (0, [])).1)), .sl 2]] ?_
              refine awp_ret ?_
              (try simp only [Thn, InBlk, ↓reduceIte, Nat.reduceEqDiff])
              obtain rfl := Option.some.inj h
              refine LoopQ.out rfl ?_
              refine Red.trans (Red.nilCell (o := 1) (i := 1) (.trips []) rfl rfl rfl) ?_
              exact Red.selA [0, 1, 4] Red.auto
            · replace h := bite_f h hc52
              refine awp_skip ?_
              (try simp only [Thn, InBlk, ↓reduceIte, Nat.reduceEqDiff])
              (try simp only [Thn, InBlk, ↓reduceIte, Nat.reduceEqDiff])
              refine hK51 _ _ ?_
              clear hK51
              replace h := chk_some h
              obtain ⟨hp0, h⟩ := h
              refine awp_regE ftCOk [(0, .sl 0), (2, .pp 1 0), (19, .sl 0), (20, .v (.int .i64 (a0.length : Int))), (21, .v (.int .i64 (t21 + 1)))] [.row false (.graphs a0), .box [.v (.int .i64 0), .v (.slice none 0 0)], .row false (.trips ((a0.getD t21.toNat (0, [])).2)), .box [.v (.int .i64 ((a0.getD t21.toNat (0, [])).1)), .sl 2]] ?_
              clear hp0
              obtain rfl := Option.some.inj h
              refine LoopQ.next ?_
              exact Red.selA [0, 1] Red.auto
        · replace h := bite_f h hc48
          refine awp_exit ?_
          (try simp only [Thn, InBlk, ↓reduceIte, Nat.reduceEqDiff])
          obtain rfl := Option.some.inj h
          refine LoopQ.out rfl ?_
          exact Red.auto
      · clear hx
        rcases x54 with (⟨⟩ | ⟨⟩)
        · try dsimp only [Sum.elim_inl, Sum.elim_inr] at h
          try dsimp only [Sum.elim_inl, Sum.elim_inr]
          (try simp only [Thn, InBlk, ↓reduceIte, Nat.reduceEqDiff])
          (try simp only [Thn, InBlk, ↓reduceIte, Nat.reduceEqDiff])
          (try simp only [Thn, InBlk, ↓reduceIte, Nat.reduceEqDiff])
          refine hK29 _ _ ?_
          clear hK29
          replace h := chk_some h
          obtain ⟨hp0, h⟩ := h
          refine awp_reg ftCOk [(0, .sl 0), (2, .pp 1 0), (6, .pp 2 0)] [.row false (.graphs a0), .box [.v (.int .i64 0), .v (.slice none 0 0)], .box [.v (.int .i64 ((a0.getD 0 (0, [])).1)), .v (.slice none 0 0)]] ?_
          clear hp0
          refine awp_seq fun K348 hK348 => ?_
          refine awp_reg ftCOk [(2, .pp 1 0), (6, .pp 2 0), (44, .sl 0), (45, .v (.int .i64 (a0.length : Int))), (46, .v (.int .i64 0))] [.row false (.graphs a0), .box [.v (.int .i64 0), .v (.slice none 0 0)], .box [.v (.int .i64 ((a0.getD 0 (0, [])).1)), .v (.slice none 0 0)]] ?_
          refine awp_block ?_
          replace h := bind_some h
          obtain ⟨x641, hx, h⟩ := h
          refine awp_loopL hx (fun ((t46, t6_0, t6_1s) : Int × Int × (List (Int × Int × Int))) => [(2, .pp 1 0), (6, .pp 3 0), (44, .sl 0), (45, .v (.int .i64 (a0.length : Int))), (46, .v (.int .i64 t46))]) (fun ((t46, t6_0, t6_1s) : Int × Int × (List (Int × Int × Int))) => [.row false (.graphs a0), .box [.v (.int .i64 0), .sl 2], .row true (.trips []), .box [.v (.int .i64 t6_0), .sl 4], .row true (.trips t6_1s)]) (Sum.elim (fun ((t6_0_1, t6_1s_1) : Int × (List (Int × Int × Int))) => Exit.exit 2) (fun (_ : Unit) => Exit.ret)) (Sum.elim (fun ((t6_0_1, t6_1s_1) : Int × (List (Int × Int × Int))) => [(2, .pp 1 0), (6, .pp 3 0)]) (fun (_ : Unit) => [(2, .pp 1 0), (3, .v (.bool false))])) (Sum.elim (fun ((t6_0_1, t6_1s_1) : Int × (List (Int × Int × Int))) => [.row false (.graphs a0), .box [.v (.int .i64 0), .sl 2], .row true (.trips []), .box [.v (.int .i64 t6_0_1), .sl 4], .row true (.trips t6_1s_1)]) (fun (_ : Unit) => [.row false (.graphs a0), .box [.v (.int .i64 0), .sl 2], .row true (.trips [])])) ?_ ?_ ?_ ?_
          · rintro (⟨t6_0_1, t6_1s_1⟩ | ⟨⟩) hy <;> cases hy
          · clear h hx
            refine Red.trans (Red.nilCell (o := 1) (i := 1) (.trips []) rfl rfl rfl) ?_
            refine Red.trans (Red.nilCell (o := 2) (i := 1) (.trips []) rfl rfl rfl) ?_
            exact Red.selA [0, 1, 3, 2, 4] Red.auto
          · clear h hx
            rintro ⟨t46, t6_0, t6_1s⟩ r h
            unfold impl_JoinParts_b2 at h
            try dsimp only at h
            try dsimp only
            refine awp_reg ftCOk [(2, .pp 1 0), (6, .pp 3 0), (44, .sl 0), (45, .v (.int .i64 (a0.length : Int))), (46, .v (.int .i64 t46)), (47, .v (.bool (decide (t46 < (a0.length : Int)))))] [.row false (.graphs a0), .box [.v (.int .i64 0), .sl 2], .row true (.trips []), .box [.v (.int .i64 t6_0), .sl 4], .row true (.trips t6_1s)] ?_
            refine awp_seq fun K574 hK574 => ?_
            refine awp_cond (t := 47) rfl (fun hc575 => ?_) (fun hc575 => ?_)
            · replace h := bite_t h hc575
              refine awp_skip ?_
              (try simp only [Thn, InBlk, ↓reduceIte, Nat.reduceEqDiff])
              refine hK574 _ _ ?_
              clear hK574
              refine awp_seq fun K608 hK608 => ?_
              refine awp_block ?_
              replace h := chk_some h
              obtain ⟨hpt640, h⟩ := h
              refine awp_take 0 t46.toNat 1 (by rfl) (by exact hpt640) (by rfl) (by exact rfl) ?_
              clear hpt640
              replace h := chk_some h
              obtain ⟨hp0, h⟩ := h
              refine awp_reg ftCOk [(2, .pp 1 0), (6, .pp 3 0), (8, .pp 6 0), (44, .sl 0), (45, .v (.int .i64 (a0.length : Int))), (46, .v (.int .i64 t46))] [.tak false (.graphs a0) t46.toNat 1 (some 5), .box [.v (.int .i64 0), .sl 2], .row true (.trips []), .box [.v (.int .i64 t6_0), .sl 4], .row true (.trips t6_1s), .row false (.trips ((a0.getD t46.toNat (0, [])).2)), .box [.v (.int .i64 ((a0.getD t46.toNat (0, [])).1)), .sl 5]] ?_
              clear hp0
              refine awp_put 0 5 (by rfl) (by rfl) (Cont.setChild_self (by rfl)) (by exact rfl) ?_
              refine awp_reg ftCOk [(2, .pp 1 0), (6, .pp 3 0), (44, .sl 0), (45, .v (.int .i64 (a0.length : Int))), (46, .v (.int .i64 t46)), (51, .sl 5), (52, .v (.int .i64 (((a0.getD t46.toNat (0, [])).2).length : Int))), (53, .v (.int .i64 0))] [.row false (.graphs a0), .box [.v (.int .i64 0), .sl 2], .row true (.trips []), .box [.v (.int .i64 t6_0), .sl 4], .row true (.trips t6_1s), .row false (.trips ((a0.getD t46.toNat (0, [])).2)), .box [.v (.int .i64 ((a0.getD t46.toNat (0, [])).1)), .sl 5]] ?_
              refine awp_block ?_
              replace h := bind_some h
              obtain ⟨x639, hx, h⟩ := h
              refine awp_loopL hx (fun ((t53, t6_0_2, t6_1s_2) : Int × Int × (List (Int × Int × Int))) => [(2, .pp 1 0), (6, .pp 3 0), (44, .sl 0), (45, .v (.int .i64 (a0.length : Int))), (46, .v (.int .i64 t46)), (51, .sl 5), (52, .v (.int .i64 (((a0.getD t46.toNat (0, [])).2).length : Int))), (53, .v (.int .i64 t53))]) (fun ((t53, t6_0_2, t6_1s_2) : Int × Int × (List (Int × Int × Int))) => [.row false (.graphs a0), .box [.v (.int .i64 0), .sl 2], .row true (.trips []), .box [.v (.int .i64 t6_0_2), .sl 4], .row true (.trips t6_1s_2), .row false (.trips ((a0.getD t46.toNat (0, [])).2))]) (Sum.elim (fun ((t6_0_3, t6_1s_3) : Int × (List (Int × Int × Int))) => Exit.exit 4) (fun (_ : Unit) => Exit.ret)) (Sum.elim (fun ((t6_0_3, t6_1s_3) : Int × (List (Int × Int × Int))) => [(2, .pp 1 0), (6, .pp 3 0), (44, .sl 0), (45, .v (.int .i64 (a0.length : Int))), (46, .v (.int .i64 t46))]) (fun (_ : Unit) => [(2, .pp 1 0), (3, .v (.bool false))])) (Sum.elim (fun ((t6_0_3, t6_1s_3) : Int × (List (Int × Int × Int))) => [.row false (.graphs a0), .box [.v (.int .i64 0), .sl 2], .row true (.trips []), .box [.v (.int .i64 t6_0_3), .sl 4], .row true (.trips t6_1s_3)]) (fun (_ : Unit) => [.row false (.graphs a0), .box [.v (.int .i64 0), .sl 2], .row true (.trips [])])) ?_ ?_ ?_ ?_
              · rintro (⟨t6_0_3, t6_1s_3⟩ | ⟨⟩) hy <;> cases hy
              · clear h hx
                exact Red.selA [0, 1, 2, 3, 4, 5] Red.auto
              · clear h hx
                rintro ⟨t53, t6_0_2, t6_1s_2⟩ r h
                unfold impl_JoinParts_b1 at h
                try dsimp only at h
                try dsimp only
                refine awp_reg ftCOk [(2, .pp 1 0), (6, .pp 3 0), (44, .sl 0), (45, .v (.int .i64 (a0.length : Int))), (46, .v (.int .i64 t46)), (51, .sl 5), (52, .v (.int .i64 (((a0.getD t46.toNat (0, [])).2).length : Int))), (53, .v (.int .i64 t53)), (54, .v (.bool (decide (t53 < (((a0.getD t46.toNat (0, [])).2).length : Int)))))] [.row false (.graphs a0), .box [.v (.int .i64 0), .sl 2], .row true (.trips []), .box [.v (.int .i64 t6_0_2), .sl 4], .row true (.trips t6_1s_2), .row false (.trips ((a0.getD t46.toNat (0, [])).2))] ?_
                refine awp_seq fun K630 hK630 => ?_
                refine awp_cond (t := 54) rfl (fun hc631 => ?_) (fun hc631 => ?_)
                · replace h := bite_t h hc631
                  refine awp_skip ?_
                  (try simp only [Thn, InBlk, ↓reduceIte, Nat.reduceEqDiff])
                  refine hK630 _ _ ?_
                  clear hK630
                  refine awp_seq fun K635 hK635 => ?_
                  refine awp_block ?_
                  replace h := chk_some h
                  obtain ⟨hp0, h⟩ := h
                  refine awp_reg ftCOk [(2, .pp 1 0), (6, .pp 3 0), (10, .pp 6 0), (44, .sl 0), (45, .v (.int .i64 (a0.length : Int))), (46, .v (.int .i64 t46)), (51, .sl 5), (52, .v (.int .i64 (((a0.getD t46.toNat (0, [])).2).length : Int))), (53, .v (.int .i64 t53))] [.row false (.graphs a0), .box [.v (.int .i64 0), .sl 2], .row true (.trips []), .box [.v (.int .i64 t6_0_2), .sl 4], .row true (.trips t6_1s_2), .row false (.trips ((a0.getD t46.toNat (0, [])).2)), .box [.v (.int .i64 ((((a0.getD t46.toNat (0, [])).2).getD t53.toNat (0, 0, 0)).1)), .v (.int .i64 ((((a0.getD t46.toNat (0, [])).2).getD t53.toNat (0, 0, 0)).2.1)), .v (.int .i64 ((((a0.getD t46.toNat (0, [])).2).getD t53.toNat (0, 0, 0)).2.2))]] ?_
                  clear hp0
                  refine awp_reg ftCOk [(2, .pp 1 0), (6, .pp 3 0), (10, .pp 6 0), (11, .v (.int .i64 (t6_1s_2.length : Int))), (44, .sl 0), (45, .v (.int .i64 (a0.length : Int))), (46, .v (.int .i64 t46)), (51, .sl 5), (52, .v (.int .i64 (((a0.getD t46.toNat (0, [])).2).length : Int))), (53, .v (.int .i64 t53))] [.row false (.graphs a0), .box [.v (.int .i64 0), .sl 2], .row true (.trips []), .box [.v (.int .i64 t6_0_2), .sl 4], .row true (.trips t6_1s_2), .row false (.trips ((a0.getD t46.toNat (0, [])).2)), .box [.v (.int .i64 ((((a0.getD t46.toNat (0, [])).2).getD t53.toNat (0, 0, 0)).1)), .v (.int .i64 ((((a0.getD t46.toNat (0, [])).2).getD t53.toNat (0, 0, 0)).2.1)), .v (.int .i64 ((((a0.getD t46.toNat (0, [])).2).getD t53.toNat (0, 0, 0)).2.2))]] ?_
                  replace h := bind_some h
                  obtain ⟨⟨y_2, y_3, y_4⟩, hr0, h⟩ := h
                  try dsimp only at h
                  refine awp_to [(2, .pp 1 0), (6, .pp 3 0), (11, .v (.int .i64 (t6_1s_2.length : Int))), (12, .pp 8 0), (13, .v (.bool y_4)), (44, .sl 0), (45, .v (.int .i64 (a0.length : Int))), (46, .v (.int .i64 t46)), (51, .sl 5), (52, .v (.int .i64 (((a0.getD t46.toNat (0, [])).2).length : Int))), (53, .v (.int .i64 t53))] [.row false (.graphs a0), .box [.v (.int .i64 0), .sl 2], .row true (.trips []), .box [.v (.int .i64 t6_0_2), .sl 4], .row true (.trips t6_1s_2), .row false (.trips ((a0.getD t46.toNat (0, [])).2)), .box [.v (.int .i64 ((((a0.getD t46.toNat (0, [])).2).getD t53.toNat (0, 0, 0)).1)), .v (.int .i64 ((((a0.getD t46.toNat (0, [])).2).getD t53.toNat (0, 0, 0)).2.1)), .v (.int .i64 ((((a0.getD t46.toNat (0, [])).2).getD t53.toNat (0, 0, 0)).2.2))], .row true (.trips y_3), .box [.v (.int .i64 y_2), .sl 7]] ?_ ?_
                  · clear h
                    intro K hK
                    refine awp_region ftCOk ?_
                    simp (maxSteps := 4000000) only [go_sem, Nat.reduceBEq, Nat.reduceLT, Nat.reduceAdd, Nat.reduceLeDiff, Nat.reduceSub, Nat.reduceEqDiff, Int.reduceToNat, reduceCtorEq, ↓reduceIte]
                    repeat' (first | refine And.intro ?_ ?_ | intro hg)
                    all_goals (try simp (disch := omega) only [wrap_fits])
                    all_goals first
                      | (refine hK _ _ ?_; exact Red.auto)
                      | exact trivial
                      | assumption
                      | omega
                      | exact wrap_fits (by omega) (by omega)
                      | (refine wpA_callA (k_impl_AddEdge t6_0_2 t6_1s_2 ((((a0.getD t46.toNat (0, [])).2).getD t53.toNat (0, 0, 0)).1) ((((a0.getD t46.toNat (0, [])).2).getD t53.toNat (0, 0, 0)).2.1) ((((a0.getD t46.toNat (0, [])).2).getD t53.toNat (0, 0, 0)).2.2) (h := hr0)) [4] [] ?_
                         rintro x Hc' ⟨rfl, rfl⟩ hlen
                         refine vcOps_sound ftCOk ?_
                         simp (maxSteps := 4000000) only [go_sem, Nat.reduceBEq, Nat.reduceLT, Nat.reduceAdd, Nat.reduceLeDiff, Nat.reduceSub, Nat.reduceEqDiff, Int.reduceToNat, reduceCtorEq, ↓reduceIte]
                         repeat' (first | refine And.intro ?_ ?_ | intro hg)
                         all_goals (try simp (disch := omega) only [wrap_fits])
                         all_goals first
                           | (refine hK _ _ ?_; exact Red.auto)
                           | exact trivial
                           | assumption
                           | omega
                           | exact wrap_fits (by omega) (by omega)
                           | (simp_all; done)
                           | (simp_all; omega))
                      | (simp_all; done)
                      | (simp_all; omega)
                  · clear hr0
                    refine awp_seq fun K637 hK637 => ?_
                    refine awp_reg ftCOk [(2, .pp 1 0), (6, .pp 3 0), (12, .pp 8 0), (44, .sl 0), (45, .v (.int .i64 (a0.length : Int))), (46, .v (.int .i64 t46)), (51, .sl 5), (52, .v (.int .i64 (((a0.getD t46.toNat (0, [])).2).length : Int))), (53, .v (.int .i64 t53)), (74, .v (.bool ((!y_4) || ((y_3.length : Int) == (t6_1s_2.length : Int)))))] [.row false (.graphs a0), .box [.v (.int .i64 0), .sl 2], .row true (.trips []), .box [.v (.int .i64 t6_0_2), .sl 4], .row true (.trips t6_1s_2), .row false (.trips ((a0.getD t46.toNat (0, [])).2)), .box [.v (.int .i64 ((((a0.getD t46.toNat (0, [])).2).getD t53.toNat (0, 0, 0)).1)), .v (.int .i64 ((((a0.getD t46.toNat (0, [])).2).getD t53.toNat (0, 0, 0)).2.1)), .v (.int .i64 ((((a0.getD t46.toNat (0, [])).2).getD t53.toNat (0, 0, 0)).2.2))], .row true (.trips y_3), .box [.v (.int .i64 y_2), .sl 7]] ?_
                    refine awp_cond (t := 74) rfl (fun hc638 => ?_) (fun hc638 => ?_)
                    · replace h := bite_t h hc638
                      refine awp_reg ftCOk [(2, .pp 1 0), (3, .v (.bool false))] [.row false (.graphs a0), .box [.v (.int .i64 0), .v (.slice none 0 0)], .row true (.trips []), .box [.v (.int .i64 t6_0_2), .sl 4], .row true (.trips t6_1s_2), .row false (.trips ((a0.getD t46.toNat (0, [])).2)), .box [.v (.int .i64 ((((a0.getD t46.toNat (0, [])).2).getD t53.toNat (0, 0, 0)).1)), .v (.int .i64 ((((a0.getD t46.toNat (0, [])).2).getD t53.toNat (0, 0, 0)).2.1)), .v (.int .i64 ((((a0.getD t46.toNat (0, [])).2).getD t53.toNat (0, 0, 0)).2.2))], .row true (.trips y_3), .box [.v (.int .i64 y_2), .sl 7]] ?_
                      refine awp_ret ?_
                      (try simp only [Thn, InBlk, ↓reduceIte, Nat.reduceEqDiff])
                      obtain rfl := Option.some.inj h
                      refine LoopQ.out rfl ?_
                      refine Red.trans (Red.nilCell (o := 1) (i := 1) (.trips []) rfl rfl rfl) ?_
                      exact Red.selA [0, 1, 9] Red.auto
                    · replace h := bite_f h hc638
                      refine awp_skip ?_
                      (try simp only [Thn, InBlk, ↓reduceIte, Nat.reduceEqDiff])
                      refine hK637 _ _ ?_
                      clear hK637
                      refine awp_regE ftCOk [(2, .pp 1 0), (6, .pp 3 0), (44, .sl 0), (45, .v (.int .i64 (a0.length : Int))), (46, .v (.int .i64 t46)), (51, .sl 5), (52, .v (.int .i64 (((a0.getD t46.toNat (0, [])).2).length : Int))), (53, .v (.int .i64 t53))] [.row false (.graphs a0), .box [.v (.int .i64 0), .sl 2], .row true (.trips []), .box [.v (.int .i64 y_2), .sl 7], .row true (.trips t6_1s_2), .row false (.trips ((a0.getD t46.toNat (0, [])).2)), .box [.v (.int .i64 ((((a0.getD t46.toNat (0, [])).2).getD t53.toNat (0, 0, 0)).1)), .v (.int .i64 ((((a0.getD t46.toNat (0, [])).2).getD t53.toNat (0, 0, 0)).2.1)), .v (.int .i64 ((((a0.getD t46.toNat (0, [])).2).getD t53.toNat (0, 0, 0)).2.2))], .row true (.trips y_3), .box [.v (.int .i64 y_2), .sl 7]] ?_
                      (try simp only [Thn, InBlk, ↓reduceIte, Nat.reduceEqDiff])
                      (try simp only [Thn, InBlk, ↓reduceIte, Nat.reduceEqDiff])
                      refine hK635 _ _ ?_
                      clear hK635
                      replace h := chk_some h
                      obtain ⟨hp0, h⟩ := h
                      refine awp_regE ftCOk [(2, .pp 1 0), (6, .pp 3 0), (44, .sl 0), (45, .v (.int .i64 (a0.length : Int))), (46, .v (.int .i64 t46)), (51, .sl 5), (52, .v (.int .i64 (((a0.getD t46.toNat (0, [])).2).length : Int))), (53, .v (.int .i64 (t53 + 1)))] [.row false (.graphs a0), .box [.v (.int .i64 0), .sl 2], .row true (.trips []), .box [.v (.int .i64 y_2), .sl 7], .row true (.trips t6_1s_2), .row false (.trips ((a0.getD t46.toNat (0, [])).2)), .box [.v (.int .i64 ((((a0.getD t46.toNat (0, [])).2).getD t53.toNat (0, 0, 0)).1)), .v (.int .i64 ((((a0.getD t46.toNat (0, [])).2).getD t53.toNat (0, 0, 0)).2.1)), .v (.int .i64 ((((a0.getD t46.toNat (0, [])).2).getD t53.toNat (0, 0, 0)).2.2))], .row true (.trips y_3), .box [.v (.int .i64 y_2), .sl 7]] ?_
                      clear hp0
                      obtain rfl := Option.some.inj h
                      refine LoopQ.next ?_
                      exact Red.selA [0, 1, 2, 3, 7, 5] Red.auto
                · replace h := bite_f h hc631
                  refine awp_exit ?_
                  (try simp only [Thn, InBlk, ↓reduceIte, Nat.reduceEqDiff])
                  obtain rfl := Option.some.inj h
                  refine LoopQ.out rfl ?_
                  exact Red.selA [0, 1, 2, 3, 4] Red.auto
              · clear hx
                rcases x639 with (⟨t6_0_3, t6_1s_3⟩ | ⟨⟩)
                · try dsimp only [Sum.elim_inl, Sum.elim_inr] at h
                  try dsimp only [Sum.elim_inl, Sum.elim_inr]
                  (try simp only [Thn, InBlk, ↓reduceIte, Nat.reduceEqDiff])
                  (try simp only [Thn, InBlk, ↓reduceIte, Nat.reduceEqDiff])
                  (try simp only [Thn, InBlk, ↓reduceIte, Nat.reduceEqDiff])
                  (try simp only [Thn, InBlk, ↓reduceIte, Nat.reduceEqDiff])
                  refine hK608 _ _ ?_
                  clear hK608
                  replace h := chk_some h
                  obtain ⟨hp0, h⟩ := h
                  refine awp_regE ftCOk [(2, .pp 1 0), (6, .pp 3 0), (44, .sl 0), (45, .v (.int .i64 (a0.length : Int))), (46, .v (.int .i64 (t46 + 1)))] [.row false (.graphs a0), .box [.v (.int .i64 0), .sl 2], .row true (.trips []), .box [.v (.int .i64 t6_0_3), .sl 4], .row true (.trips t6_1s_3)] ?_
                  clear hp0
                  obtain rfl := Option.some.inj h
                  refine LoopQ.next ?_
                  exact Red.auto
                · try dsimp only [Sum.elim_inl, Sum.elim_inr] at h
                  try dsimp only [Sum.elim_inl, Sum.elim_inr]
                  (try simp only [Thn, InBlk, ↓reduceIte, Nat.reduceEqDiff])
                  obtain rfl := Option.some.inj h
                  refine LoopQ.out rfl ?_
                  exact Red.auto
            · replace h := bite_f h hc575
              refine awp_exit ?_
              (try simp only [Thn, InBlk, ↓reduceIte, Nat.reduceEqDiff])
              obtain rfl := Option.some.inj h
              refine LoopQ.out rfl ?_
              exact Red.auto
          · clear hx
            rcases x641 with (⟨t6_0_1, t6_1s_1⟩ | ⟨⟩)
            · try dsimp only [Sum.elim_inl, Sum.elim_inr] at h
              try dsimp only [Sum.elim_inl, Sum.elim_inr]
              (try simp only [Thn, InBlk, ↓reduceIte, Nat.reduceEqDiff])
              (try simp only [Thn, InBlk, ↓reduceIte, Nat.reduceEqDiff])
              (try simp only [Thn, InBlk, ↓reduceIte, Nat.reduceEqDiff])
              refine hK348 _ _ ?_
              clear hK348
              refine awp_reg ftCOk [(2, .pp 1 0), (3, .v (.bool true))] [.row false (.graphs a0), .box [.v (.int .i64 t6_0_1), .sl 4], .row true (.trips []), .box [.v (.int .i64 t6_0_1), .sl 4], .row true (.trips t6_1s_1)] ?_
              refine awp_ret ?_
              (try simp only [Thn, InBlk, ↓reduceIte, Nat.reduceEqDiff])
              obtain rfl := Option.some.inj h
              refine ⟨by simp, _, [0, 4], (by simp only [go_sem, Nat.reduceBEq, Nat.reduceLT, Nat.reduceAdd, Nat.reduceLeDiff, Nat.reduceSub, Nat.reduceEqDiff, Int.reduceToNat, reduceCtorEq, ↓reduceIte]; exact rfl), ?_, ?_, ?_, ?_⟩
              · first | exact trivial | exact ⟨trivial, trivial⟩ | exact ⟨trivial, trivial, trivial⟩ | exact ⟨trivial, trivial, trivial, trivial⟩ | (simp only [allP, and_true, true_and]; done) | (simp only [allP, and_true, true_and]; omega)
              · simp [selOk, pos]
              · simp
              · first | exact ⟨rfl, rfl⟩ | (simp only [go_sem, Nat.reduceBEq, Nat.reduceLT, Nat.reduceAdd, Nat.reduceLeDiff, Nat.reduceSub, Nat.reduceEqDiff, Int.reduceToNat, reduceCtorEq, ↓reduceIte]; done) | (simp [go_sem, Nat.reduceBEq, Nat.reduceLT, Nat.reduceAdd, Nat.reduceLeDiff, Nat.reduceSub, Nat.reduceEqDiff, Int.reduceToNat, reduceCtorEq, ↓reduceIte]; done) | (simp only [go_sem, Nat.reduceBEq, Nat.reduceLT, Nat.reduceAdd, Nat.reduceLeDiff, Nat.reduceSub, Nat.reduceEqDiff, Int.reduceToNat, reduceCtorEq, ↓reduceIte]; exact ⟨rfl, rfl⟩) | (simp_all [go_sem, Nat.reduceBEq, Nat.reduceLT, Nat.reduceAdd, Nat.reduceLeDiff, Nat.reduceSub, Nat.reduceEqDiff, Int.reduceToNat, reduceCtorEq, ↓reduceIte]; done)
            · try dsimp only [Sum.elim_inl, Sum.elim_inr] at h
              try dsimp only [Sum.elim_inl, Sum.elim_inr]
              (try simp only [Thn, InBlk, ↓reduceIte, Nat.reduceEqDiff])
              obtain rfl := Option.some.inj h
              refine ⟨by simp, _, [0, 2], (by simp only [go_sem, Nat.reduceBEq, Nat.reduceLT, Nat.reduceAdd, Nat.reduceLeDiff, Nat.reduceSub, Nat.reduceEqDiff, Int.reduceToNat, reduceCtorEq, ↓reduceIte]; exact rfl), ?_, ?_, ?_, ?_⟩
              · first | exact trivial | exact ⟨trivial, trivial⟩ | exact ⟨trivial, trivial, trivial⟩ | exact ⟨trivial, trivial, trivial, trivial⟩ | (simp only [allP, and_true, true_and]; done) | (simp only [allP, and_true, true_and]; omega)
              · simp [selOk, pos]
              · simp
              · first | exact ⟨rfl, rfl⟩ | (simp only [go_sem, Nat.reduceBEq, Nat.reduceLT, Nat.reduceAdd, Nat.reduceLeDiff, Nat.reduceSub, Nat.reduceEqDiff, Int.reduceToNat, reduceCtorEq, ↓reduceIte]; done) | (simp [go_sem, Nat.reduceBEq, Nat.reduceLT, Nat.reduceAdd, Nat.reduceLeDiff, Nat.reduceSub, Nat.reduceEqDiff, Int.reduceToNat, reduceCtorEq, ↓reduceIte]; done) | (simp only [go_sem, Nat.reduceBEq, Nat.reduceLT, Nat.reduceAdd, Nat.reduceLeDiff, Nat.reduceSub, Nat.reduceEqDiff, Int.reduceToNat, reduceCtorEq, ↓reduceIte]; exact ⟨rfl, rfl⟩) | (simp_all [go_sem, Nat.reduceBEq, Nat.reduceLT, Nat.reduceAdd, Nat.reduceLeDiff, Nat.reduceSub, Nat.reduceEqDiff, Int.reduceToNat, reduceCtorEq, ↓reduceIte]; done)
        · try dsimp only [Sum.elim_inl, Sum.elim_inr] at h
          try dsimp only [Sum.elim_inl, Sum.elim_inr]
          (try simp only [Thn, InBlk, ↓reduceIte, Nat.reduceEqDiff])
          obtain rfl := Option.some.inj h
          refine ⟨by simp, _, [0, 2], (by simp only [go_sem, Nat.reduceBEq, Nat.reduceLT, Nat.reduceAdd, Nat.reduceLeDiff, Nat.reduceSub, Nat.reduceEqDiff, Int.reduceToNat, reduceCtorEq, ↓reduceIte]; exact rfl), ?_, ?_, ?_, ?_⟩
          · first | exact trivial | exact ⟨trivial, trivial⟩ | exact ⟨trivial, trivial, trivial⟩ | exact ⟨trivial, trivial, trivial, trivial⟩ | (simp only [allP, and_true, true_and]; done) | (simp only [allP, and_true, true_and]; omega)
          · simp [selOk, pos]
          · simp
          · first | exact ⟨rfl, rfl⟩ | (simp only [go_sem, Nat.reduceBEq, Nat.reduceLT, Nat.reduceAdd, Nat.reduceLeDiff, Nat.reduceSub, Nat.reduceEqDiff, Int.reduceToNat, reduceCtorEq, ↓reduceIte]; done) | (simp [go_sem, Nat.reduceBEq, Nat.reduceLT, Nat.reduceAdd, Nat.reduceLeDiff, Nat.reduceSub, Nat.reduceEqDiff, Int.reduceToNat, reduceCtorEq, ↓reduceIte]; done) | (simp only [go_sem, Nat.reduceBEq, Nat.reduceLT, Nat.reduceAdd, Nat.reduceLeDiff, Nat.reduceSub, Nat.reduceEqDiff, Int.reduceToNat, reduceCtorEq, ↓reduceIte]; exact ⟨rfl, rfl⟩) | (simp_all [go_sem, Nat.reduceBEq, Nat.reduceLT, Nat.reduceAdd, Nat.reduceLeDiff, Nat.reduceSub, Nat.reduceEqDiff, Int.reduceToNat, reduceCtorEq, ↓reduceIte]; done)
theorem k_laws_FnPartOf (a0 : List Int) {r : Bool} (h : laws_FnPartOf a0 = some r) :
    FnA Try.prog 3 [.sl 0] [.row false (.ints .u8 a0)] [] (fun x H => x = .v (.bool r) ∧ H = [.row false (.ints .u8 a0)]) := by
  unfold laws_FnPartOf at h
  refine FnA.of (N := 109) (pin := [0]) (rs := [.tmp 2]) Try.func3 rfl en3 rfl rfl (by simp) (by simp; try omega) ?_
  refine awp_reg ftCOk [(0, .sl 0)] [.row false (.ints .u8 a0)] ?_
  refine awp_seq fun K2 hK2 => ?_
  refine awp_reg ftCOk [(0, .sl 0), (14, .v (.bool (decide (1048576 < (a0.length : Int)))))] [.row false (.ints .u8 a0)] ?_
  refine awp_cond (t := 14) rfl (fun hc3 => ?_) (fun hc3 => ?_)
  · replace h := bite_t h hc3
    refine awp_reg ftCOk [(2, .v (.bool true))] [.row false (.ints .u8 a0)] ?_
    refine awp_ret ?_
    (try simp only [Thn, InBlk, ↓reduceIte, Nat.reduceEqDiff])
    obtain rfl := Option.some.inj h
    refine ⟨by simp, _, [0], (by simp only [go_sem, Nat.reduceBEq, Nat.reduceLT, Nat.reduceAdd, Nat.reduceLeDiff, Nat.reduceSub, Nat.reduceEqDiff, Int.reduceToNat, reduceCtorEq, ↓reduceIte]; exact rfl), ?_, ?_, ?_, ?_⟩
    · first | exact trivial | exact ⟨trivial, trivial⟩ | exact ⟨trivial, trivial, trivial⟩ | exact ⟨trivial, trivial, trivial, trivial⟩ | (simp only [allP, and_true, true_and]; done) | (simp only [allP, and_true, true_and]; omega)
    · simp [selOk, pos]
    · simp
    · first | exact ⟨rfl, rfl⟩ | (simp only [go_sem, Nat.reduceBEq, Nat.reduceLT, Nat.reduceAdd, Nat.reduceLeDiff, Nat.reduceSub, Nat.reduceEqDiff, Int.reduceToNat, reduceCtorEq, ↓reduceIte]; done) | (simp [go_sem, Nat.reduceBEq, Nat.reduceLT, Nat.reduceAdd, Nat.reduceLeDiff, Nat.reduceSub, Nat.reduceEqDiff, Int.reduceToNat, reduceCtorEq, ↓reduceIte]; done) | (simp only [go_sem, Nat.reduceBEq, Nat.reduceLT, Nat.reduceAdd, Nat.reduceLeDiff, Nat.reduceSub, Nat.reduceEqDiff, Int.reduceToNat, reduceCtorEq, ↓reduceIte]; exact ⟨rfl, rfl⟩) | (simp_all [go_sem, Nat.reduceBEq, Nat.reduceLT, Nat.reduceAdd, Nat.reduceLeDiff, Nat.reduceSub, Nat.reduceEqDiff, Int.reduceToNat, reduceCtorEq, ↓reduceIte]; done)
  · replace h := bite_f h hc3
    refine awp_skip ?_
    (try simp only [Thn, InBlk, ↓reduceIte, Nat.reduceEqDiff])
    refine hK2 _ _ ?_
    clear hK2
    replace h := bind_some h
    obtain ⟨⟨y, y_1, y_2, y_3⟩, hr0, h⟩ := h
    try dsimp only at h
    refine awp_to [(3, .pp 2 0), (4, .v (.int .i64 y_2)), (5, .v (.int .i64 y_3))] [.row false (.ints .u8 a0), .row true (.trips y_1), .box [.v (.int .i64 y), .sl 1]] ?_ ?_
    · clear h
      intro K hK
      refine awp_region ftCOk ?_
      simp (maxSteps := 4000000) only [go_sem, Nat.reduceBEq, Nat.reduceLT, Nat.reduceAdd, Nat.reduceLeDiff, Nat.reduceSub, Nat.reduceEqDiff, Int.reduceToNat, reduceCtorEq, ↓reduceIte]
      repeat' (first | refine And.intro ?_ ?_ | intro hg)
      all_goals (try simp (disch := omega) only [wrap_fits])
      all_goals first
        | (refine hK _ _ ?_; exact Red.auto)
        | exact trivial
        | assumption
        | omega
        | exact wrap_fits (by omega) (by omega)
        | (refine wpA_callA (k_spec_DrawPartOf a0 (h := hr0)) [0] [] ?_
           rintro x Hc' ⟨rfl, rfl⟩ hlen
           refine vcOps_sound ftCOk ?_
           simp (maxSteps := 4000000) only [go_sem, Nat.reduceBEq, Nat.reduceLT, Nat.reduceAdd, Nat.reduceLeDiff, Nat.reduceSub, Nat.reduceEqDiff, Int.reduceToNat, reduceCtorEq, ↓reduceIte]
           repeat' (first | refine And.intro ?_ ?_ | intro hg)
           all_goals (try simp (disch := omega) only [wrap_fits])
           all_goals first
             | (refine hK _ _ ?_; exact Red.auto)
             | exact trivial
             | assumption
             | omega
             | exact wrap_fits (by omega) (by omega)
             | (simp_all; done)
             | (simp_all; omega))
        | (simp_all; done)
        | (simp_all; omega)
    · clear hr0
      replace h := bind_some h
      obtain ⟨⟨y_4, y_5⟩, hr0, h⟩ := h
      try dsimp only at h
      refine awp_to [(3, .pp 2 0), (4, .v (.int .i64 y_2)), (5, .v (.int .i64 y_3)), (6, .pp 4 0)] [.row false (.ints .u8 a0), .row true (.trips y_1), .box [.v (.int .i64 y), .sl 1], .row true (.trips y_5), .box [.v (.int .i64 y_4), .sl 3]] ?_ ?_
      · clear h
        intro K hK
        refine awp_region ftCOk ?_
        simp (maxSteps := 4000000) only [go_sem, Nat.reduceBEq, Nat.reduceLT, Nat.reduceAdd, Nat.reduceLeDiff, Nat.reduceSub, Nat.reduceEqDiff, Int.reduceToNat, reduceCtorEq, ↓reduceIte]
        repeat' (first | refine And.intro ?_ ?_ | intro hg)
        all_goals (try simp (disch := omega) only [wrap_fits])
        all_goals first
          | (refine hK _ _ ?_; exact Red.auto)
          | exact trivial
          | assumption
          | omega
          | exact wrap_fits (by omega) (by omega)
          | (refine wpA_callA (k_impl_PartOf y y_1 y_2 y_3 (h := hr0)) [1] [] ?_
             rintro x Hc' ⟨rfl, rfl⟩ hlen
             refine vcOps_sound ftCOk ?_
             simp (maxSteps := 4000000) only [go_sem, Nat.reduceBEq, Nat.reduceLT, Nat.reduceAdd, Nat.reduceLeDiff, Nat.reduceSub, Nat.reduceEqDiff, Int.reduceToNat, reduceCtorEq, ↓reduceIte]
             repeat' (first | refine And.intro ?_ ?_ | intro hg)
             all_goals (try simp (disch := omega) only [wrap_fits])
             all_goals first
               | (refine hK _ _ ?_; exact Red.auto)
               | exact trivial
               | assumption
               | omega
               | exact wrap_fits (by omega) (by omega)
               | (simp_all; done)
               | (simp_all; omega))
          | (simp_all; done)
          | (simp_all; omega)
      · clear hr0
        refine awp_seq fun K5 hK5 => ?_
        replace h := bind_some h
        obtain ⟨⟨y_6, y_7⟩, hr0, h⟩ := h
        try dsimp only at h
        replace h := bind_some h
        obtain ⟨y_8, hr1, h⟩ := h
        try dsimp only at h
        refine awp_to [(3, .pp 2 0), (4, .v (.int .i64 y_2)), (5, .v (.int .i64 y_3)), (6, .pp 4 0), (31, .v (.bool (!y_8)))] [.row false (.ints .u8 a0), .row true (.trips y_1), .box [.v (.int .i64 y), .sl 1], .row true (.trips y_5), .box [.v (.int .i64 y_4), .sl 3], .row true (.trips y_7)] ?_ ?_
        · clear h
          intro K hK
          refine awp_drawT mixed ftCOk (.free 2 (.free 3 (.two 0 1 (.one 1 (.one 4 (.one 5 (.one 6 .fin)))) (.two 0 4 (.one 4 (.one 5 (.one 6 .fin))) (.one 0 (.one 5 (.one 6 .fin))))))) (by kernel_rfl) (by simp) ?_
          simp (maxSteps := 4000000) only [go_sem, Nat.reduceBEq, Nat.reduceLT, Nat.reduceAdd, Nat.reduceLeDiff, Nat.reduceSub, Nat.reduceEqDiff, Int.reduceToNat, reduceCtorEq, ↓reduceIte]
          repeat' (first | refine And.intro ?_ ?_ | intro hg)
          all_goals (try simp (disch := omega) only [wrap_fits])
          all_goals first
            | (refine hK _ _ ?_; exact Red.auto)
            | exact trivial
            | assumption
            | omega
            | exact wrap_fits (by omega) (by omega)
            | (refine OpK_callA (k_spec_PartOf y y_1 y_2 y_3 (h := hr0)) [1] [] ?_
               rintro x Hc' ⟨rfl, rfl⟩ hlen
               simp (maxSteps := 4000000) only [go_sem, Nat.reduceBEq, Nat.reduceLT, Nat.reduceAdd, Nat.reduceLeDiff, Nat.reduceSub, Nat.reduceEqDiff, Int.reduceToNat, reduceCtorEq, ↓reduceIte]
               repeat' (first | refine And.intro ?_ ?_ | intro hg)
               all_goals (try simp (disch := omega) only [wrap_fits])
               all_goals first
                 | (refine hK _ _ ?_; exact Red.auto)
                 | exact trivial
                 | assumption
                 | omega
                 | exact wrap_fits (by omega) (by omega)
                 | (refine OpK_callA (k_laws_sameGraph y_4 y_5 y_6 y_7 (h := hr1)) [3, 5] [] ?_
                    rintro x Hc' ⟨rfl, rfl⟩ hlen
                    simp (maxSteps := 4000000) only [go_sem, Nat.reduceBEq, Nat.reduceLT, Nat.reduceAdd, Nat.reduceLeDiff, Nat.reduceSub, Nat.reduceEqDiff, Int.reduceToNat, reduceCtorEq, ↓reduceIte]
                    repeat' (first | refine And.intro ?_ ?_ | intro hg)
                    all_goals (try simp (disch := omega) only [wrap_fits])
                    all_goals first
                      | (refine hK _ _ ?_; exact Red.auto)
                      | exact trivial
                      | assumption
                      | omega
                      | exact wrap_fits (by omega) (by omega)
                      | (simp (maxSteps := 4000000) only [go_sem, Nat.reduceBEq, Nat.reduceLT, Nat.reduceAdd, Nat.reduceLeDiff, Nat.reduceSub, Nat.reduceEqDiff, Int.reduceToNat, reduceCtorEq, ↓reduceIte]
                         repeat' (first | refine And.intro ?_ ?_ | intro hg)
                         all_goals (try simp (disch := omega) only [wrap_fits])
                         all_goals first | (refine hK _ _ ?_; exact Red.auto) | exact trivial | assumption | omega | exact wrap_fits (by omega) (by omega))
                      | (simp_all; done)
                      | (simp_all; omega))
                 | (simp_all; done)
                 | (simp_all; omega))
            | (simp_all; done)
            | (simp_all; omega)
        · clear hr0 hr1
          refine awp_cond (t := 31) rfl (fun hc6 => ?_) (fun hc6 => ?_)
          · replace h := bite_t h hc6
            refine awp_reg ftCOk [(2, .v (.bool false))] [.row false (.ints .u8 a0), .row true (.trips y_1), .box [.v (.int .i64 y), .sl 1], .row true (.trips y_5), .box [.v (.int .i64 y_4), .sl 3], .row true (.trips y_7)] ?_
            refine awp_ret ?_
            (try simp only [Thn, InBlk, ↓reduceIte, Nat.reduceEqDiff])
            obtain rfl := Option.some.inj h
            refine ⟨by simp, _, [0], (by simp only [go_sem, Nat.reduceBEq, Nat.reduceLT, Nat.reduceAdd, Nat.reduceLeDiff, Nat.reduceSub, Nat.reduceEqDiff, Int.reduceToNat, reduceCtorEq, ↓reduceIte]; exact rfl), ?_, ?_, ?_, ?_⟩
            · first | exact trivial | exact ⟨trivial, trivial⟩ | exact ⟨trivial, trivial, trivial⟩ | exact ⟨trivial, trivial, trivial, trivial⟩ | (simp only [allP, and_true, true_and]; done) | (simp only [allP, and_true, true_and]; omega)
            · simp [selOk, pos]
            · simp
            · first | exact ⟨rfl, rfl⟩ | (simp only [go_sem, Nat.reduceBEq, Nat.reduceLT, Nat.reduceAdd, Nat.reduceLeDiff, Nat.reduceSub, Nat.reduceEqDiff, Int.reduceToNat, reduceCtorEq, ↓reduceIte]; done) | (simp [go_sem, Nat.reduceBEq, Nat.reduceLT, Nat.reduceAdd, Nat.reduceLeDiff, Nat.reduceSub, Nat.reduceEqDiff, Int.reduceToNat, reduceCtorEq, ↓reduceIte]; done) | (simp only [go_sem, Nat.reduceBEq, Nat.reduceLT, Nat.reduceAdd, Nat.reduceLeDiff, Nat.reduceSub, Nat.reduceEqDiff, Int.reduceToNat, reduceCtorEq, ↓reduceIte]; exact ⟨rfl, rfl⟩) | (simp_all [go_sem, Nat.reduceBEq, Nat.reduceLT, Nat.reduceAdd, Nat.reduceLeDiff, Nat.reduceSub, Nat.reduceEqDiff, Int.reduceToNat, reduceCtorEq, ↓reduceIte]; done)
          · replace h := bite_f h hc6
            refine awp_skip ?_
            (try simp only [Thn, InBlk, ↓reduceIte, Nat.reduceEqDiff])
            refine hK5 _ _ ?_
            clear hK5
            refine awp_seq fun K8 hK8 => ?_
            replace h := bind_some h
            obtain ⟨y_9, hr0, h⟩ := h
            try dsimp only at h
            refine awp_to [(3, .pp 2 0), (4, .v (.int .i64 y_2)), (5, .v (.int .i64 y_3)), (6, .pp 4 0), (51, .v (.bool (((((!y_9) || (decide (y_2 < 1))) || (decide (6 < y_2))) || (decide (y_3 < 0))) || (decide (y_2 ≤ y_3)))))] [.row false (.ints .u8 a0), .row true (.trips y_1), .box [.v (.int .i64 y), .sl 1], .row true (.trips y_5), .box [.v (.int .i64 y_4), .sl 3], .row true (.trips y_7)] ?_ ?_
            · clear h
              intro K hK
              refine awp_regionA ?_
              refine wpA_cutAt 7 [(3, .pp 2 0), (4, .v (.int .i64 y_2)), (5, .v (.int .i64 y_3)), (6, .pp 4 0), (38, .v (.bool ((!y_9) || (decide (y_2 < 1)))))] [.row false (.ints .u8 a0), .row true (.trips y_1), .box [.v (.int .i64 y), .sl 1], .row true (.trips y_5), .box [.v (.int .i64 y_4), .sl 3], .row true (.trips y_7)] ?_ ?_
              · clear hK K
                intro K hK
                refine vcOps_sound ftCOk ?_
                simp (maxSteps := 4000000) only [go_sem, Nat.reduceBEq, Nat.reduceLT, Nat.reduceAdd, Nat.reduceLeDiff, Nat.reduceSub, Nat.reduceEqDiff, Int.reduceToNat, reduceCtorEq, ↓reduceIte]
                repeat' (first | refine And.intro ?_ ?_ | intro hg)
                all_goals (try simp (disch := omega) only [wrap_fits])
                all_goals first
                  | (refine hK _ _ ?_; exact Red.auto)
                  | exact trivial
                  | assumption
                  | omega
                  | exact wrap_fits (by omega) (by omega)
                  | (refine wpA_callA (k_spec_GraphValid y y_1 (h := hr0)) [1] [] ?_
                     rintro x Hc' ⟨rfl, rfl⟩ hlen
                     refine vcOps_sound ftCOk ?_
                     simp (maxSteps := 4000000) only [go_sem, Nat.reduceBEq, Nat.reduceLT, Nat.reduceAdd, Nat.reduceLeDiff, Nat.reduceSub, Nat.reduceEqDiff, Int.reduceToNat, reduceCtorEq, ↓reduceIte]
                     repeat' (first | refine And.intro ?_ ?_ | intro hg)
                     all_goals (try simp (disch := omega) only [wrap_fits])
                     all_goals first
                       | (refine hK _ _ ?_; exact Red.auto)
                       | exact trivial
                       | assumption
                       | omega
                       | exact wrap_fits (by omega) (by omega)
                       | (simp_all; done)
                       | (simp_all; omega))
                  | (simp_all; done)
                  | (simp_all; omega)
              refine wpA_cutAt 4 [(3, .pp 2 0), (4, .v (.int .i64 y_2)), (5, .v (.int .i64 y_3)), (6, .pp 4 0), (42, .v (.bool (((!y_9) || (decide (y_2 < 1))) || (decide (6 < y_2)))))] [.row false (.ints .u8 a0), .row true (.trips y_1), .box [.v (.int .i64 y), .sl 1], .row true (.trips y_5), .box [.v (.int .i64 y_4), .sl 3], .row true (.trips y_7)] ?_ ?_
              · clear hK K
                intro K hK
                refine vcOps_sound ftCOk ?_
                simp (maxSteps := 4000000) only [go_sem, Nat.reduceBEq, Nat.reduceLT, Nat.reduceAdd, Nat.reduceLeDiff, Nat.reduceSub, Nat.reduceEqDiff, Int.reduceToNat, reduceCtorEq, ↓reduceIte]
                repeat' (first | refine And.intro ?_ ?_ | intro hg)
                all_goals (try simp (disch := omega) only [wrap_fits])
                all_goals first
                  | (refine hK _ _ ?_; exact Red.auto)
                  | exact trivial
                  | assumption
                  | omega
                  | exact wrap_fits (by omega) (by omega)
                  | (simp_all; done)
                  | (simp_all; omega)
              refine wpA_cutAt 4 [(3, .pp 2 0), (4, .v (.int .i64 y_2)), (5, .v (.int .i64 y_3)), (6, .pp 4 0), (46, .v (.bool ((((!y_9) || (decide (y_2 < 1))) || (decide (6 < y_2))) || (decide (y_3 < 0)))))] [.row false (.ints .u8 a0), .row true (.trips y_1), .box [.v (.int .i64 y), .sl 1], .row true (.trips y_5), .box [.v (.int .i64 y_4), .sl 3], .row true (.trips y_7)] ?_ ?_
              · clear hK K
                intro K hK
                refine vcOps_sound ftCOk ?_
                simp (maxSteps := 4000000) only [go_sem, Nat.reduceBEq, Nat.reduceLT, Nat.reduceAdd, Nat.reduceLeDiff, Nat.reduceSub, Nat.reduceEqDiff, Int.reduceToNat, reduceCtorEq, ↓reduceIte]
                repeat' (first | refine And.intro ?_ ?_ | intro hg)
                all_goals (try simp (disch := omega) only [wrap_fits])
                all_goals first
                  | (refine hK _ _ ?_; exact Red.auto)
                  | exact trivial
                  | assumption
                  | omega
                  | exact wrap_fits (by omega) (by omega)
                  | (simp_all; done)
                  | (simp_all; omega)
              refine vcOps_sound ftCOk ?_
              simp (maxSteps := 4000000) only [go_sem, Nat.reduceBEq, Nat.reduceLT, Nat.reduceAdd, Nat.reduceLeDiff, Nat.reduceSub, Nat.reduceEqDiff, Int.reduceToNat, reduceCtorEq, ↓reduceIte]
              repeat' (first | refine And.intro ?_ ?_ | intro hg)
              all_goals (try simp (disch := omega) only [wrap_fits])
              all_goals first
                | (refine hK _ _ ?_; exact Red.auto)
                | exact trivial
                | assumption
                | omega
                | exact wrap_fits (by omega) (by omega)
                | (simp_all; done)
                | (simp_all; omega)
            · clear hr0
              refine awp_cond (t := 51) rfl (fun hc9 => ?_) (fun hc9 => ?_)
              · replace h := bite_t h hc9
                replace h := bind_some h
                obtain ⟨y_10, hr0, h⟩ := h
                try dsimp only at h
                refine awp_to [(2, .v (.bool (((y_4 == 0) && ((y_5.length : Int) == 0)) && y_10)))] [.row false (.ints .u8 a0), .row true (.trips y_1), .box [.v (.int .i64 y), .sl 1], .row true (.trips y_5), .box [.v (.int .i64 y_4), .sl 3], .row true (.trips y_7)] ?_ ?_
                · clear h
                  intro K hK
                  refine awp_regionA ?_
                  refine wpA_cutAt 9 [(60, .v (.bool ((y_4 == 0) && ((y_5.length : Int) == 0))))] [.row false (.ints .u8 a0), .row true (.trips y_1), .box [.v (.int .i64 y), .sl 1], .row true (.trips y_5), .box [.v (.int .i64 y_4), .sl 3], .row true (.trips y_7)] ?_ ?_
                  · clear hK K
                    intro K hK
                    refine vcOps_sound ftCOk ?_
                    simp (maxSteps := 4000000) only [go_sem, Nat.reduceBEq, Nat.reduceLT, Nat.reduceAdd, Nat.reduceLeDiff, Nat.reduceSub, Nat.reduceEqDiff, Int.reduceToNat, reduceCtorEq, ↓reduceIte]
                    repeat' (first | refine And.intro ?_ ?_ | intro hg)
                    all_goals (try simp (disch := omega) only [wrap_fits])
                    all_goals first
                      | (refine hK _ _ ?_; exact Red.auto)
                      | exact trivial
                      | assumption
                      | omega
                      | exact wrap_fits (by omega) (by omega)
                      | (simp_all; done)
                      | (simp_all; omega)
                  refine vcOps_sound ftCOk ?_
                  simp (maxSteps := 4000000) only [go_sem, Nat.reduceBEq, Nat.reduceLT, Nat.reduceAdd, Nat.reduceLeDiff, Nat.reduceSub, Nat.reduceEqDiff, Int.reduceToNat, reduceCtorEq, ↓reduceIte]
                  repeat' (first | refine And.intro ?_ ?_ | intro hg)
                  all_goals (try simp (disch := omega) only [wrap_fits])
                  all_goals first
                    | (refine hK _ _ ?_; exact Red.auto)
                    | exact trivial
                    | assumption
                    | omega
                    | exact wrap_fits (by omega) (by omega)
                    | (refine wpA_guard rfl rfl ?_
                       refine wpA_callA (k_laws_alive  (h := (bite_t hr0 (by first | assumption | (simp only [*, Bool.false_or, Bool.true_or, Bool.or_false, Bool.or_true, Bool.false_and, Bool.true_and, Bool.and_false, Bool.and_true, Bool.not_true, Bool.not_false, beq_self_eq_true]; done) | (simp_all; done))))) [] [] ?_
                       rintro x Hc' ⟨rfl, rfl⟩ hlen
                       refine vcOps_sound ftCOk ?_
                       simp (maxSteps := 4000000) only [go_sem, Nat.reduceBEq, Nat.reduceLT, Nat.reduceAdd, Nat.reduceLeDiff, Nat.reduceSub, Nat.reduceEqDiff, Int.reduceToNat, reduceCtorEq, ↓reduceIte]
                       repeat' (first | refine And.intro ?_ ?_ | intro hg)
                       all_goals (try simp (disch := omega) only [wrap_fits])
                       all_goals first
                         | (refine hK _ _ ?_; exact Red.auto)
                         | exact trivial
                         | assumption
                         | omega
                         | exact wrap_fits (by omega) (by omega)
                         | (simp_all; done)
                         | (simp_all; omega))
                    | (simp_all; done)
                    | (simp_all; omega)
                · clear hr0
                  refine awp_ret ?_
                  (try simp only [Thn, InBlk, ↓reduceIte, Nat.reduceEqDiff])
                  obtain rfl := Option.some.inj h
                  refine ⟨by simp, _, [0], (by simp only [go_sem, Nat.reduceBEq, Nat.reduceLT, Nat.reduceAdd, Nat.reduceLeDiff, Nat.reduceSub, Nat.reduceEqDiff, Int.reduceToNat, reduceCtorEq, ↓reduceIte]; exact rfl), ?_, ?_, ?_, ?_⟩
                  · first | exact trivial | exact ⟨trivial, trivial⟩ | exact ⟨trivial, trivial, trivial⟩ | exact ⟨trivial, trivial, trivial, trivial⟩ | (simp only [allP, and_true, true_and]; done) | (simp only [allP, and_true, true_and]; omega)
                  · simp [selOk, pos]
                  · simp
                  · first | exact ⟨rfl, rfl⟩ | (simp only [go_sem, Nat.reduceBEq, Nat.reduceLT, Nat.reduceAdd, Nat.reduceLeDiff, Nat.reduceSub, Nat.reduceEqDiff, Int.reduceToNat, reduceCtorEq, ↓reduceIte]; done) | (simp [go_sem, Nat.reduceBEq, Nat.reduceLT, Nat.reduceAdd, Nat.reduceLeDiff, Nat.reduceSub, Nat.reduceEqDiff, Int.reduceToNat, reduceCtorEq, ↓reduceIte]; done) | (simp only [go_sem, Nat.reduceBEq, Nat.reduceLT, Nat.reduceAdd, Nat.reduceLeDiff, Nat.reduceSub, Nat.reduceEqDiff, Int.reduceToNat, reduceCtorEq, ↓reduceIte]; exact ⟨rfl, rfl⟩) | (simp_all [go_sem, Nat.reduceBEq, Nat.reduceLT, Nat.reduceAdd, Nat.reduceLeDiff, Nat.reduceSub, Nat.reduceEqDiff, Int.reduceToNat, reduceCtorEq, ↓reduceIte]; done)
              · replace h := bite_f h hc9
                refine awp_skip ?_
                (try simp only [Thn, InBlk, ↓reduceIte, Nat.reduceEqDiff])
                refine hK8 _ _ ?_
                clear hK8
                refine awp_reg ftCOk [(3, .pp 2 0), (4, .v (.int .i64 y_2)), (5, .v (.int .i64 y_3)), (6, .pp 4 0), (7, .sl 6)] [.row false (.ints .u8 a0), .row true (.trips y_1), .box [.v (.int .i64 y), .sl 1], .row true (.trips y_5), .box [.v (.int .i64 y_4), .sl 3], .row true (.trips y_7), .row true (.graphs [])] ?_
                refine awp_seq fun K23 hK23 => ?_
                refine awp_reg ftCOk [(3, .pp 2 0), (4, .v (.int .i64 y_2)), (5, .v (.int .i64 y_3)), (6, .pp 4 0), (7, .sl 6), (8, .v (.int .i64 0))] [.row false (.ints .u8 a0), .row true (.trips y_1), .box [.v (.int .i64 y), .sl 1], .row true (.trips y_5), .box [.v (.int .i64 y_4), .sl 3], .row true (.trips y_7), .row true (.graphs [])] ?_
                refine awp_block ?_
                replace h := bind_some h
                obtain ⟨t7s_1, hx, h⟩ := h
                refine awp_loopL hx (fun ((t8, t7s) : Int × (List (Int × List (Int × Int × Int)))) => [(3, .pp 1 0), (4, .v (.int .i64 y_2)), (5, .v (.int .i64 y_3)), (6, .pp 3 0), (7, .sl 5), (8, .v (.int .i64 t8))]) (fun ((t8, t7s) : Int × (List (Int × List (Int × Int × Int)))) => [.row false (.ints .u8 a0), .box [.v (.int .i64 y), .sl 2], .row true (.trips y_1), .box [.v (.int .i64 y_4), .sl 4], .row true (.trips y_5), .row true (.graphs t7s)]) (fun (t7s_1 : List (Int × List (Int × Int × Int))) => Exit.exit 0) (fun (t7s_1 : List (Int × List (Int × Int × Int))) => [(3, .pp 1 0), (4, .v (.int .i64 y_2)), (5, .v (.int .i64 y_3)), (6, .pp 3 0), (7, .sl 5)]) (fun (t7s_1 : List (Int × List (Int × Int × Int))) => [.row false (.ints .u8 a0), .box [.v (.int .i64 y), .sl 2], .row true (.trips y_1), .box [.v (.int .i64 y_4), .sl 4], .row true (.trips y_5), .row true (.graphs t7s_1)]) ?_ ?_ ?_ ?_
                · rintro t7s_1 hy <;> cases hy
                · clear h hx
                  exact Red.selA [0, 2, 1, 4, 3, 6] Red.auto
                · clear h hx
                  rintro ⟨t8, t7s⟩ r h
                  unfold laws_FnPartOf_b0 at h
                  try dsimp only at h
                  try dsimp only
                  refine awp_seq fun K33 hK33 => ?_
                  refine awp_reg ftCOk [(3, .pp 1 0), (4, .v (.int .i64 y_2)), (5, .v (.int .i64 y_3)), (6, .pp 3 0), (7, .sl 5), (8, .v (.int .i64 t8)), (67, .v (.bool (decide (t8 < y_2))))] [.row false (.ints .u8 a0), .box [.v (.int .i64 y), .sl 2], .row true (.trips y_1), .box [.v (.int .i64 y_4), .sl 4], .row true (.trips y_5), .row true (.graphs t7s)] ?_
                  refine awp_cond (t := 67) rfl (fun hc34 => ?_) (fun hc34 => ?_)
                  · replace h := bite_t h hc34
                    refine awp_skip ?_
                    (try simp only [Thn, InBlk, ↓reduceIte, Nat.reduceEqDiff])
                    refine hK33 _ _ ?_
                    clear hK33
                    refine awp_seq fun K35 hK35 => ?_
                    refine awp_block ?_
                    replace h := bind_some h
                    obtain ⟨⟨y_11, y_12⟩, hr0, h⟩ := h
                    try dsimp only at h
                    replace h := chk_some h
                    obtain ⟨hp1, h⟩ := h
                    refine awp_end [(3, .pp 1 0), (4, .v (.int .i64 y_2)), (5, .v (.int .i64 y_3)), (6, .pp 3 0), (7, .sl 5), (8, .v (.int .i64 t8))] [.row false (.ints .u8 a0), .box [.v (.int .i64 y), .sl 2], .row true (.trips y_1), .box [.v (.int .i64 y_4), .sl 4], .row true (.trips y_5), .tak true (.graphs (t7s ++ [(y_11, [])])) t7s.length 1 (some 6), .row true (.trips y_12), .tak true (.graphs [(y_11, [])]) 0 1 (some 6)] ?_ ?_
                    · clear h
                      intro K hK
                      refine awp_region ftCOk ?_
                      simp (maxSteps := 4000000) only [go_sem, Nat.reduceBEq, Nat.reduceLT, Nat.reduceAdd, Nat.reduceLeDiff, Nat.reduceSub, Nat.reduceEqDiff, Int.reduceToNat, reduceCtorEq, ↓reduceIte]
                      repeat' (first | refine And.intro ?_ ?_ | intro hg)
                      all_goals (try simp (disch := omega) only [wrap_fits])
                      all_goals first
                        | (refine hK _ _ ?_; exact Red.auto)
                        | exact trivial
                        | assumption
                        | omega
                        | exact wrap_fits (by omega) (by omega)
                        | (refine wpA_callA (k_impl_PartOf y y_1 y_2 t8 (h := hr0)) [2] [] ?_
                           rintro x Hc' ⟨rfl, rfl⟩ hlen
                           refine vcOps_sound ftCOk ?_
                           simp (maxSteps := 4000000) only [go_sem, Nat.reduceBEq, Nat.reduceLT, Nat.reduceAdd, Nat.reduceLeDiff, Nat.reduceSub, Nat.reduceEqDiff, Int.reduceToNat, reduceCtorEq, ↓reduceIte]
                           repeat' (first | refine And.intro ?_ ?_ | intro hg)
                           all_goals (try simp (disch := omega) only [wrap_fits])
                           all_goals first
                             | (refine hK _ _ ?_; exact Red.auto)
                             | exact trivial
                             | assumption
                             | omega
                             | exact wrap_fits (by omega) (by omega)
                             | (simp_all; done)
                             | (simp_all; omega))
                        | (simp_all; done)
                        | (simp_all; omega)
                    · clear hr0 hp1
                      (try simp only [Thn, InBlk, ↓reduceIte, Nat.reduceEqDiff])
                      (try simp only [Thn, InBlk, ↓reduceIte, Nat.reduceEqDiff])
                      refine hK35 _ _ ?_
                      clear hK35
                      refine awp_put 5 6 (by rfl) (by rfl) (by rfl) (by exact rfl) ?_
                      replace h := chk_some h
                      obtain ⟨hp0, h⟩ := h
                      refine awp_regE ftCOk [(3, .pp 1 0), (4, .v (.int .i64 y_2)), (5, .v (.int .i64 y_3)), (6, .pp 3 0), (7, .sl 5), (8, .v (.int .i64 (t8 + 1)))] [.row false (.ints .u8 a0), .box [.v (.int .i64 y), .sl 2], .row true (.trips y_1), .box [.v (.int .i64 y_4), .sl 4], .row true (.trips y_5), .row true (.graphs ((t7s ++ [(y_11, [])]).set t7s.length (((t7s ++ [(y_11, [])]).getD t7s.length (0, [])).1, y_12))), .view 5 (.trips y_12), .tak true (.graphs [(y_11, [])]) 0 1 (some 6)] ?_
                      clear hp0
                      obtain rfl := Option.some.inj h
                      refine LoopQ.next ?_
                      exact Red.selA [0, 1, 2, 3, 4, 5] Red.auto
                  · replace h := bite_f h hc34
                    refine awp_exit ?_
                    (try simp only [Thn, InBlk, ↓reduceIte, Nat.reduceEqDiff])
                    obtain rfl := Option.some.inj h
                    refine LoopQ.out rfl ?_
                    exact Red.auto
                · clear hx
                  skip
                  · try dsimp only [Sum.elim_inl, Sum.elim_inr] at h
                    try dsimp only [Sum.elim_inl, Sum.elim_inr]
                    (try simp only [Thn, InBlk, ↓reduceIte, Nat.reduceEqDiff])
                    (try simp only [Thn, InBlk, ↓reduceIte, Nat.reduceEqDiff])
                    (try simp only [Thn, InBlk, ↓reduceIte, Nat.reduceEqDiff])
                    refine hK23 _ _ ?_
                    clear hK23
                    refine awp_seq fun K56 hK56 => ?_
                    refine awp_reg ftCOk [(3, .pp 1 0), (4, .v (.int .i64 y_2)), (5, .v (.int .i64 y_3)), (6, .pp 3 0), (7, .sl 5), (9, .v (.int .i64 0))] [.row false (.ints .u8 a0), .box [.v (.int .i64 y), .sl 2], .row true (.trips y_1), .box [.v (.int .i64 y_4), .sl 4], .row true (.trips y_5), .row true (.graphs t7s_1)] ?_
                    refine awp_block ?_
                    replace h := bind_some h
                    obtain ⟨x75, hx, h⟩ := h
                    refine awp_loopL hx (fun (t9 : Int) => [(3, .pp 1 0), (4, .v (.int .i64 y_2)), (5, .v (.int .i64 y_3)), (6, .pp 3 0), (7, .sl 5), (9, .v (.int .i64 t9))]) (fun (t9 : Int) => [.row false (.ints .u8 a0), .box [.v (.int .i64 y), .sl 2], .row true (.trips y_1), .box [.v (.int .i64 y_4), .sl 4], .row true (.trips y_5), .row true (.graphs t7s_1)]) (Sum.elim (fun (_ : Unit) => Exit.exit 2) (fun (_ : Unit) => Exit.ret)) (Sum.elim (fun (_ : Unit) => [(3, .pp 1 0), (6, .pp 3 0), (7, .sl 5)]) (fun (_ : Unit) => [(2, .v (.bool false))])) (Sum.elim (fun (_ : Unit) => [.row false (.ints .u8 a0), .box [.v (.int .i64 y), .sl 2], .row true (.trips y_1), .box [.v (.int .i64 y_4), .sl 4], .row true (.trips y_5), .row true (.graphs t7s_1)]) (fun (_ : Unit) => [.row false (.ints .u8 a0)])) ?_ ?_ ?_ ?_
                    · rintro (⟨⟩ | ⟨⟩) hy <;> cases hy
                    · clear h hx
                      exact Red.auto
                    · clear h hx
                      rintro t9 r h
                      unfold laws_FnPartOf_b1 at h
                      try dsimp only at h
                      try dsimp only
                      refine awp_seq fun K70 hK70 => ?_
                      refine awp_reg ftCOk [(3, .pp 1 0), (4, .v (.int .i64 y_2)), (5, .v (.int .i64 y_3)), (6, .pp 3 0), (7, .sl 5), (9, .v (.int .i64 t9)), (81, .v (.bool (decide (t9 < (y_5.length : Int)))))] [.row false (.ints .u8 a0), .box [.v (.int .i64 y), .sl 2], .row true (.trips y_1), .box [.v (.int .i64 y_4), .sl 4], .row true (.trips y_5), .row true (.graphs t7s_1)] ?_
                      refine awp_cond (t := 81) rfl (fun hc71 => ?_) (fun hc71 => ?_)
                      · replace h := bite_t h hc71
                        refine awp_skip ?_
                        (try simp only [Thn, InBlk, ↓reduceIte, Nat.reduceEqDiff])
                        refine hK70 _ _ ?_
                        clear hK70
                        refine awp_seq fun K73 hK73 => ?_
                        refine awp_block ?_
                        replace h := chk_some h
                        obtain ⟨hp0, h⟩ := h
                        replace h := bind_some h
                        obtain ⟨y_13, hr1, h⟩ := h
                        try dsimp only at h
                        refine awp_to [(3, .pp 1 0), (4, .v (.int .i64 y_2)), (5, .v (.int .i64 y_3)), (6, .pp 3 0), (7, .sl 5), (9, .v (.int .i64 t9)), (93, .v (.bool (y_13 != y_3)))] [.row false (.ints .u8 a0), .box [.v (.int .i64 y), .sl 2], .row true (.trips y_1), .box [.v (.int .i64 y_4), .sl 4], .row true (.trips y_5), .row true (.graphs t7s_1)] ?_ ?_
                        · clear h
                          intro K hK
                          refine awp_region ftCOk ?_
                          simp (maxSteps := 4000000) only [go_sem, Nat.reduceBEq, Nat.reduceLT, Nat.reduceAdd, Nat.reduceLeDiff, Nat.reduceSub, Nat.reduceEqDiff, Int.reduceToNat, reduceCtorEq, ↓reduceIte]
                          repeat' (first | refine And.intro ?_ ?_ | intro hg)
                          all_goals (try simp (disch := omega) only [wrap_fits])
                          all_goals first
                            | (refine hK _ _ ?_; exact Red.auto)
                            | exact trivial
                            | assumption
                            | omega
                            | exact wrap_fits (by omega) (by omega)
                            | (refine wpA_callA (k_impl_OwnerOf ((y_5.getD t9.toNat (0, 0, 0)).1) y_2 (h := hr1)) [] [] ?_
                               rintro x Hc' ⟨rfl, rfl⟩ hlen
                               refine vcOps_sound ftCOk ?_
                               simp (maxSteps := 4000000) only [go_sem, Nat.reduceBEq, Nat.reduceLT, Nat.reduceAdd, Nat.reduceLeDiff, Nat.reduceSub, Nat.reduceEqDiff, Int.reduceToNat, reduceCtorEq, ↓reduceIte]
                               repeat' (first | refine And.intro ?_ ?_ | intro hg)
                               all_goals (try simp (disch := omega) only [wrap_fits])
                               all_goals first
                                 | (refine hK _ _ ?_; exact Red.auto)
                                 | exact trivial
                                 | assumption
                                 | omega
                                 | exact wrap_fits (by omega) (by omega)
                                 | (simp_all; done)
                                 | (simp_all; omega))
                            | (simp_all; done)
                            | (simp_all; omega)
                        · clear hp0 hr1
                          refine awp_cond (t := 93) rfl (fun hc74 => ?_) (fun hc74 => ?_)
                          · replace h := bite_t h hc74
                            refine awp_reg ftCOk [(2, .v (.bool false))] [.row false (.ints .u8 a0), .box [.v (.int .i64 y), .sl 2], .row true (.trips y_1), .box [.v (.int .i64 y_4), .sl 4], .row true (.trips y_5), .row true (.graphs t7s_1)] ?_
                            refine awp_ret ?_
                            (try simp only [Thn, InBlk, ↓reduceIte, Nat.reduceEqDiff])
                            obtain rfl := Option.some.inj h
                            refine LoopQ.out rfl ?_
                            exact Red.selA [0] Red.auto
                          · replace h := bite_f h hc74
                            refine awp_skip ?_
                            (try simp only [Thn, InBlk, ↓reduceIte, Nat.reduceEqDiff])
                            (try simp only [Thn, InBlk, ↓reduceIte, Nat.reduceEqDiff])
                            refine hK73 _ _ ?_
                            clear hK73
                            replace h := chk_some h
                            obtain ⟨hp0, h⟩ := h
                            refine awp_regE ftCOk [(3, .pp 1 0), (4, .v (.int .i64 y_2)), (5, .v (.int .i64 y_3)), (6, .pp 3 0), (7, .sl 5), (9, .v (.int .i64 (t9 + 1)))] [.row false (.ints .u8 a0), .box [.v (.int .i64 y), .sl 2], .row true (.trips y_1), .box [.v (.int .i64 y_4), .sl 4], .row true (.trips y_5), .row true (.graphs t7s_1)] ?_
                            clear hp0
                            obtain rfl := Option.some.inj h
                            refine LoopQ.next ?_
                            exact Red.auto
                      · replace h := bite_f h hc71
                        refine awp_exit ?_
                        (try simp only [Thn, InBlk, ↓reduceIte, Nat.reduceEqDiff])
                        obtain rfl := Option.some.inj h
                        refine LoopQ.out rfl ?_
                        exact Red.auto
                    · clear hx
                      rcases x75 with (⟨⟩ | ⟨⟩)
                      · try dsimp only [Sum.elim_inl, Sum.elim_inr] at h
                        try dsimp only [Sum.elim_inl, Sum.elim_inr]
                        (try simp only [Thn, InBlk, ↓reduceIte, Nat.reduceEqDiff])
                        (try simp only [Thn, InBlk, ↓reduceIte, Nat.reduceEqDiff])
                        (try simp only [Thn, InBlk, ↓reduceIte, Nat.reduceEqDiff])
                        refine hK56 _ _ ?_
                        clear hK56
                        replace h := bind_some h
                        obtain ⟨⟨y_14, y_15, y_16⟩, hr0, h⟩ := h
                        try dsimp only at h
                        refine awp_to [(3, .pp 1 0), (6, .pp 3 0), (10, .pp 7 0), (11, .v (.bool y_16))] [.row false (.ints .u8 a0), .box [.v (.int .i64 y), .sl 2], .row true (.trips y_1), .box [.v (.int .i64 y_4), .sl 4], .row true (.trips y_5), .row true (.graphs t7s_1), .row true (.trips y_15), .box [.v (.int .i64 y_14), .sl 6]] ?_ ?_
                        · clear h
                          intro K hK
                          refine awp_region ftCOk ?_
                          simp (maxSteps := 4000000) only [go_sem, Nat.reduceBEq, Nat.reduceLT, Nat.reduceAdd, Nat.reduceLeDiff, Nat.reduceSub, Nat.reduceEqDiff, Int.reduceToNat, reduceCtorEq, ↓reduceIte]
                          repeat' (first | refine And.intro ?_ ?_ | intro hg)
                          all_goals (try simp (disch := omega) only [wrap_fits])
                          all_goals first
                            | (refine hK _ _ ?_; exact Red.auto)
                            | exact trivial
                            | assumption
                            | omega
                            | exact wrap_fits (by omega) (by omega)
                            | (refine wpA_callA (k_impl_JoinParts t7s_1 (h := hr0)) [5] [] ?_
                               rintro x Hc' ⟨rfl, rfl⟩ hlen
                               refine vcOps_sound ftCOk ?_
                               simp (maxSteps := 4000000) only [go_sem, Nat.reduceBEq, Nat.reduceLT, Nat.reduceAdd, Nat.reduceLeDiff, Nat.reduceSub, Nat.reduceEqDiff, Int.reduceToNat, reduceCtorEq, ↓reduceIte]
                               repeat' (first | refine And.intro ?_ ?_ | intro hg)
                               all_goals (try simp (disch := omega) only [wrap_fits])
                               all_goals first
                                 | (refine hK _ _ ?_; exact Red.auto)
                                 | exact trivial
                                 | assumption
                                 | omega
                                 | exact wrap_fits (by omega) (by omega)
                                 | (simp_all; done)
                                 | (simp_all; omega))
                            | (simp_all; done)
                            | (simp_all; omega)
                        · clear hr0
                          replace h := bind_some h
                          obtain ⟨y_17, hr0, h⟩ := h
                          try dsimp only at h
                          replace h := bind_some h
                          obtain ⟨y_18, hr1, h⟩ := h
                          try dsimp only at h
                          refine awp_to [(2, .v (.bool ((y_17 && y_16) && y_18)))] [.row false (.ints .u8 a0), .box [.v (.int .i64 y), .sl 2], .row true (.trips y_1), .box [.v (.int .i64 y_4), .sl 4], .row true (.trips y_5), .row true (.graphs t7s_1), .row true (.trips y_15), .box [.v (.int .i64 y_14), .sl 6]] ?_ ?_
                          · clear h
                            intro K hK
                            refine awp_regionA ?_
                            refine wpA_cutAt 5 [(3, .pp 1 0), (10, .pp 7 0), (103, .v (.bool (y_17 && y_16)))] [.row false (.ints .u8 a0), .box [.v (.int .i64 y), .sl 2], .row true (.trips y_1), .box [.v (.int .i64 y_4), .sl 4], .row true (.trips y_5), .row true (.graphs t7s_1), .row true (.trips y_15), .box [.v (.int .i64 y_14), .sl 6]] ?_ ?_
                            · clear hK K
                              intro K hK
                              refine vcOps_sound ftCOk ?_
                              simp (maxSteps := 4000000) only [go_sem, Nat.reduceBEq, Nat.reduceLT, Nat.reduceAdd, Nat.reduceLeDiff, Nat.reduceSub, Nat.reduceEqDiff, Int.reduceToNat, reduceCtorEq, ↓reduceIte]
                              repeat' (first | refine And.intro ?_ ?_ | intro hg)
                              all_goals (try simp (disch := omega) only [wrap_fits])
                              all_goals first
                                | (refine hK _ _ ?_; exact Red.auto)
                                | exact trivial
                                | assumption
                                | omega
                                | exact wrap_fits (by omega) (by omega)
                                | (refine wpA_callA (k_impl_GraphValid y_4 y_5 (h := hr0)) [4] [] ?_
                                   rintro x Hc' ⟨rfl, rfl⟩ hlen
                                   refine vcOps_sound ftCOk ?_
                                   simp (maxSteps := 4000000) only [go_sem, Nat.reduceBEq, Nat.reduceLT, Nat.reduceAdd, Nat.reduceLeDiff, Nat.reduceSub, Nat.reduceEqDiff, Int.reduceToNat, reduceCtorEq, ↓reduceIte]
                                   repeat' (first | refine And.intro ?_ ?_ | intro hg)
                                   all_goals (try simp (disch := omega) only [wrap_fits])
                                   all_goals first
                                     | (refine hK _ _ ?_; exact Red.auto)
                                     | exact trivial
                                     | assumption
                                     | omega
                                     | exact wrap_fits (by omega) (by omega)
                                     | (simp_all; done)
                                     | (simp_all; omega))
                                | (simp_all; done)
                                | (simp_all; omega)
                            refine vcOps_sound ftCOk ?_
                            simp (maxSteps := 4000000) only [go_sem, Nat.reduceBEq, Nat.reduceLT, Nat.reduceAdd, Nat.reduceLeDiff, Nat.reduceSub, Nat.reduceEqDiff, Int.reduceToNat, reduceCtorEq, ↓reduceIte]
                            repeat' (first | refine And.intro ?_ ?_ | intro hg)
                            all_goals (try simp (disch := omega) only [wrap_fits])
                            all_goals first
                              | (refine hK _ _ ?_; exact Red.auto)
                              | exact trivial
                              | assumption
                              | omega
                              | exact wrap_fits (by omega) (by omega)
                              | (refine wpA_guard rfl rfl ?_
                                 refine wpA_callA (k_laws_sameGraph y_14 y_15 y y_1 (h := (bite_t hr1 (by first | assumption | (simp only [*, Bool.false_or, Bool.true_or, Bool.or_false, Bool.or_true, Bool.false_and, Bool.true_and, Bool.and_false, Bool.and_true, Bool.not_true, Bool.not_false, beq_self_eq_true]; done) | (simp_all; done))))) [6, 2] [] ?_
                                 rintro x Hc' ⟨rfl, rfl⟩ hlen
                                 refine vcOps_sound ftCOk ?_
                                 simp (maxSteps := 4000000) only [go_sem, Nat.reduceBEq, Nat.reduceLT, Nat.reduceAdd, Nat.reduceLeDiff, Nat.reduceSub, Nat.reduceEqDiff, Int.reduceToNat, reduceCtorEq, ↓reduceIte]
                                 repeat' (first | refine And.intro ?_ ?_ | intro hg)
                                 all_goals (try simp (disch := omega) only [wrap_fits])
                                 all_goals first
                                   | (refine hK _ _ ?_; exact Red.auto)
                                   | exact trivial
                                   | assumption
                                   | omega
                                   | exact wrap_fits (by omega) (by omega)
                                   | (simp_all; done)
                                   | (simp_all; omega))
                              | (simp_all; done)
                              | (simp_all; omega)
                          · clear hr0 hr1
                            refine awp_ret ?_
                            (try simp only [Thn, InBlk, ↓reduceIte, Nat.reduceEqDiff])
                            obtain rfl := Option.some.inj h
                            refine ⟨by simp, _, [0], (by simp only [go_sem, Nat.reduceBEq, Nat.reduceLT, Nat.reduceAdd, Nat.reduceLeDiff, Nat.reduceSub, Nat.reduceEqDiff, Int.reduceToNat, reduceCtorEq, ↓reduceIte]; exact rfl), ?_, ?_, ?_, ?_⟩
                            · first | exact trivial | exact ⟨trivial, trivial⟩ | exact ⟨trivial, trivial, trivial⟩ | exact ⟨trivial, trivial, trivial, trivial⟩ | (simp only [allP, and_true, true_and]; done) | (simp only [allP, and_true, true_and]; omega)
                            · simp [selOk, pos]
                            · simp
                            · first | exact ⟨rfl, rfl⟩ | (simp only [go_sem, Nat.reduceBEq, Nat.reduceLT, Nat.reduceAdd, Nat.reduceLeDiff, Nat.reduceSub, Nat.reduceEqDiff, Int.reduceToNat, reduceCtorEq, ↓reduceIte]; done) | (simp [go_sem, Nat.reduceBEq, Nat.reduceLT, Nat.reduceAdd, Nat.reduceLeDiff, Nat.reduceSub, Nat.reduceEqDiff, Int.reduceToNat, reduceCtorEq, ↓reduceIte]; done) | (simp only [go_sem, Nat.reduceBEq, Nat.reduceLT, Nat.reduceAdd, Nat.reduceLeDiff, Nat.reduceSub, Nat.reduceEqDiff, Int.reduceToNat, reduceCtorEq, ↓reduceIte]; exact ⟨rfl, rfl⟩) | (simp_all [go_sem, Nat.reduceBEq, Nat.reduceLT, Nat.reduceAdd, Nat.reduceLeDiff, Nat.reduceSub, Nat.reduceEqDiff, Int.reduceToNat, reduceCtorEq, ↓reduceIte]; done)
                      · try dsimp only [Sum.elim_inl, Sum.elim_inr] at h
                        try dsimp only [Sum.elim_inl, Sum.elim_inr]
                        (try simp only [Thn, InBlk, ↓reduceIte, Nat.reduceEqDiff])
                        obtain rfl := Option.some.inj h
                        refine ⟨by simp, _, [0], (by simp only [go_sem, Nat.reduceBEq, Nat.reduceLT, Nat.reduceAdd, Nat.reduceLeDiff, Nat.reduceSub, Nat.reduceEqDiff, Int.reduceToNat, reduceCtorEq, ↓reduceIte]; exact rfl), ?_, ?_, ?_, ?_⟩
                        · first | exact trivial | exact ⟨trivial, trivial⟩ | exact ⟨trivial, trivial, trivial⟩ | exact ⟨trivial, trivial, trivial, trivial⟩ | (simp only [allP, and_true, true_and]; done) | (simp only [allP, and_true, true_and]; omega)
                        · simp [selOk, pos]
                        · simp
                        · first | exact ⟨rfl, rfl⟩ | (simp only [go_sem, Nat.reduceBEq, Nat.reduceLT, Nat.reduceAdd, Nat.reduceLeDiff, Nat.reduceSub, Nat.reduceEqDiff, Int.reduceToNat, reduceCtorEq, ↓reduceIte]; done) | (simp [go_sem, Nat.reduceBEq, Nat.reduceLT, Nat.reduceAdd, Nat.reduceLeDiff, Nat.reduceSub, Nat.reduceEqDiff, Int.reduceToNat, reduceCtorEq, ↓reduceIte]; done) | (simp only [go_sem, Nat.reduceBEq, Nat.reduceLT, Nat.reduceAdd, Nat.reduceLeDiff, Nat.reduceSub, Nat.reduceEqDiff, Int.reduceToNat, reduceCtorEq, ↓reduceIte]; exact ⟨rfl, rfl⟩) | (simp_all [go_sem, Nat.reduceBEq, Nat.reduceLT, Nat.reduceAdd, Nat.reduceLeDiff, Nat.reduceSub, Nat.reduceEqDiff, Int.reduceToNat, reduceCtorEq, ↓reduceIte]; done)
end Go.Proofs.Ytmcdlohjjbmimaa

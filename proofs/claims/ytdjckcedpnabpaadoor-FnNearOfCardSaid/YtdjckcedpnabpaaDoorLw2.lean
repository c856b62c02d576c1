/- The code computes the functions that were taken out of it. -/
import Derived.Test.YtdjckcedpnabpaaDoorLw1
set_option maxRecDepth 100000
set_option maxHeartbeats 4000000
set_option linter.unusedSimpArgs false
set_option linter.unusedVariables false
namespace Go.Proofs.YtdjckcedpnabpaaDoor
open Go Go.Av
attribute [local irreducible] wpA OpK awp
attribute [local go_sem] frs_nil frs_cons pw8_32 pw16_32 pw24_32 pw27_32 eqAgg eqAggV buildQ placesOf buildCells List.toList_toArray vcQg gfind gfree gput un3_agg unI_int unB_bool unK_int guardU skipV resVs resV vcD_nil vcD_cons vcT_fin vcT_free vcT_one vcT_two opS vcD1 roH roOb ftNone ftAdd oneOrTup AV.detup AV.ren AV.ren2 AV.ren1 pos selH AObj.ren fitAll fit fit1 fit1s matchAll matchOb exIds AObj.excl Env.killp pastH setAll upId AObj.past AObj.back AV.killp AV.killp1 AV.killp2 Nat.sub_self Nat.lt_irrefl Bool.or_self vcOps vcOp vcQs vcQ dstOk quiet eff pcall calleeF plain valsOf ev ofConst argEnv List.lookup Nat.add_eq decide_true decide_false Env.put binV wrapTo unV convV loadQ indexQ callQ builtinQ rd rdI globC AObj.globC partAV isAggD isArrayD addrAdd boxE storeE storeCE makeE makeNE buildNE nestZero Cont.child Cont.setChild buildSliceE buildFold appendE appendNE nestApp appendV promoteH sliceE boundAV subObj asCells Value.oneCell' contZero Cont.sets Cont.app Cont.sub Cont.len Cont.esz Cont.cell Cont.cells Cont.flat AV.det AV.det1 guardV AObj.unview AObj.kill Env.kill AV.kill AV.kill1 AV.kill2 fits64 Option.getD_some Option.getD_none Option.map_some Option.map_none Option.bind_some List.map_cons List.map_nil List.getElem?_cons_zero List.getElem?_cons_succ List.getElem?_nil true_and and_true List.getElem?_toArray List.cons_append List.nil_append List.length_cons List.length_nil List.set_cons_zero List.set_cons_succ List.take_succ_cons List.take_zero List.drop_succ_cons List.drop_zero List.drop_nil List.take_nil List.contains_cons List.contains_nil List.elem_cons List.elem_nil Bool.not_true Bool.not_false Bool.false_eq_true Bool.or_false Bool.or_true Bool.and_true Bool.and_false Bool.true_and Bool.false_and List.all_cons List.all_nil List.size_toArray Nat.lt_add_one Nat.zero_lt_succ Nat.one_ne_zero Nat.zero_ne_one and_self List.replicate_succ List.replicate_zero Int.toNat_natCast Int.toNat_zero Value.cells false_implies true_implies forall_const Thn InBlk Nat.zero_add Nat.add_zero Int.zero_add Ele Env.ren Option.some.injEq AV.v.injEq AV.sl.injEq AV.pp.injEq AV.ep.injEq AV.agg.injEq List.cons.injEq Value.int.injEq Value.bool.injEq Value.string.injEq true_or or_true or_false false_or tsz0 tby0 tz0 Tryd.underlying0 tsz1 tby1 tz1 Tryd.underlying1 tsz2 tby2 tz2 Tryd.underlying2 tsz3 tby3 tz3 Tryd.underlying3 tsz4 tby4 tz4 Tryd.underlying4 tsz5 tby5 tz5 Tryd.underlying5 tsz6 tby6 tz6 Tryd.underlying6 tsz7 tby7 tz7 Tryd.underlying7 fo7_0 fo7_1 fo7_2 fo7_3 tsz8 tby8 tz8 Tryd.underlying8 fo8_0 fo8_1 fo8_2 fo8_3 tsz9 tby9 Tryd.underlying9 tsz10 tby10 Tryd.underlying10 tsz12 tby12 tz12 Tryd.underlying12 tsz16 tby16 tz16 Tryd.underlying16 tsz17 tby17 tz17 Tryd.underlying17 tsz20 tby20 tz20 Tryd.underlying20 tsz21 tby21 tz21 Tryd.underlying21 tsz22 tby22 tz22 Tryd.underlying22 tsz23 tby23 tz23 Tryd.underlying23 tsz24 tby24 tz24 Tryd.underlying24 fo24_0 fo24_1 tsz25 tby25 tz25 Tryd.underlying25 fo25_0 fo25_1 tsz30 tby30 tz30 Tryd.underlying30 tsz32 tby32 tz32 Tryd.underlying32 tsz35 tby35 tz35 Tryd.underlying35 tsz40 tby40 tz40 Tryd.underlying40 tsz44 tby44 tz44 Tryd.underlying44 tsz46 tby46 tz46 Tryd.underlying46 tsz50 tby50 tz50 Tryd.underlying50 peq50 fo50_0 fo50_1 fo50_2 tsz51 tby51 tz51 Tryd.underlying51 peq51 fo51_0 fo51_1 fo51_2 tsz53 tby53 tz53 Tryd.underlying53 tsz54 tby54 tz54 Tryd.underlying54 tsz55 tby55 tz55 Tryd.underlying55 tsz60 tby60 tz60 Tryd.underlying60 tsz71 tby71 tz71 Tryd.underlying71 fo71_0 fo71_1 tsz72 tby72 tz72 Tryd.underlying72 fo72_0 fo72_1 tsz77 tby77 tz77 Tryd.underlying77 tsz81 tby81 tz81 Tryd.underlying81 tsz86 tby86 tz86 Tryd.underlying86 tsz87 tby87 tz87 Tryd.underlying87 tsz91 tby91 tz91 Tryd.underlying91 tsz94 tby94 tz94 Tryd.underlying94 tsz95 tby95 tz95 Tryd.underlying95 tsz96 tby96 tz96 Tryd.underlying96 tsz100 tby100 tz100 Tryd.underlying100 tsz102 tby102 tz102 Tryd.underlying102 tsz103 tby103 tz103 Tryd.underlying103 tsz108 tby108 tz108 Tryd.underlying108 tsz109 tby109 tz109 Tryd.underlying109 tsz110 tby110 tz110 Tryd.underlying110 tsz111 tby111 tz111 Tryd.underlying111 tsz112 tby112 tz112 Tryd.underlying112 tsz113 tby113 tz113 Tryd.underlying113 tsz114 tby114 tz114 Tryd.underlying114 tsz115 tby115 tz115 Tryd.underlying115 tsz116 tby116 tz116 Tryd.underlying116 tsz117 tby117 tz117 Tryd.underlying117 fo117_0 fo117_1 fo117_2 fo117_3 fo117_4 fo117_5 fo117_6 fo117_7 fo117_8 fo117_9 fo117_10 tsz118 tby118 tz118 Tryd.underlying118 fo118_0 fo118_1 fo118_2 fo118_3 fo118_4 fo118_5 fo118_6 fo118_7 fo118_8 fo118_9 fo118_10 tsz119 tby119 tz119 Tryd.underlying119 l1InG l4BeforeG isNaNG cmpIntG cmpEndsG ftC
theorem k_impl_BytesValid (a0 : List Int) {r : Bool} (h : impl_BytesValid a0 = some r) :
    FnA Tryd.prog 68 [.sl 0] [.row false (.ints .i64 a0)] [] (fun x H => x = .v (.bool r) ∧ H = [.row false (.ints .i64 a0)]) := by
  unfold impl_BytesValid at h
  refine FnA.of (N := 21) (pin := [0]) (rs := [.tmp 2]) Tryd.func68 rfl en68 rfl rfl (by simp) (by simp; try omega) ?_
  refine awp_reg ftCOk [(0, .sl 0)] [.row false (.ints .i64 a0)] ?_
  refine awp_seq fun K2 hK2 => ?_
  refine awp_reg ftCOk [(0, .sl 0), (7, .v (.bool (decide (2000 < (a0.length : Int)))))] [.row false (.ints .i64 a0)] ?_
  refine awp_cond (t := 7) rfl (fun hc3 => ?_) (fun hc3 => ?_)
  · replace h := bite_t h hc3
    refine awp_reg ftCOk [(2, .v (.bool false))] [.row false (.ints .i64 a0)] ?_
    refine awp_ret ?_
    (try simp only [Thn, InBlk, ↓reduceIte, Nat.reduceEqDiff])
    obtain rfl := Option.some.inj h
    refine ⟨by simp, _, [0], (by simp only [go_sem, Nat.reduceBEq, Nat.reduceLT, Nat.reduceAdd, Nat.reduceLeDiff, Nat.reduceSub, Nat.reduceEqDiff, Int.reduceToNat, reduceCtorEq, ↓reduceIte]; exact rfl), ?_, ?_, ?_, ?_⟩
    · first | exact trivial | exact ⟨trivial, trivial⟩ | exact ⟨trivial, trivial, trivial⟩ | exact ⟨trivial, trivial, trivial, trivial⟩ | (simp only [allP, and_true, true_and]; done) | (simp only [allP, and_true, true_and]; omega)
    · simp [selOk, pos]
    · simp
    · first | exact ⟨rfl, rfl⟩ | (simp only [go_sem, Nat.reduceBEq, Nat.reduceLT, Nat.reduceAdd, Nat.reduceLeDiff, Nat.reduceSub, Nat.reduceEqDiff, Int.reduceToNat, reduceCtorEq, ↓reduceIte]; done) | (simp [go_sem, Nat.reduceBEq, Nat.reduceLT, Nat.reduceAdd, Nat.reduceLeDiff, Nat.reduceSub, Nat.reduceEqDiff, Int.reduceToNat, reduceCtorEq, ↓reduceIte]; done) | (simp only [go_sem, Nat.reduceBEq, Nat.reduceLT, Nat.reduceAdd, Nat.reduceLeDiff, Nat.reduceSub, Nat.reduceEqDiff, Int.reduceToNat, reduceCtorEq, ↓reduceIte]; exact ⟨rfl, rfl⟩) | (simp_all [go_sem, Nat.reduceBEq, Nat.reduceLT, Nat.reduceAdd, Nat.reduceLeDiff, Nat.reduceSub, Nat.reduceEqDiff, Int.reduceToNat, reduceCtorEq, ↓reduceIte]; done)
  · replace h := bite_f h hc3
    refine awp_skip ?_
    (try simp only [Thn, InBlk, ↓reduceIte, Nat.reduceEqDiff])
    refine hK2 _ _ ?_
    clear hK2
    refine awp_seq fun K23 hK23 => ?_
    refine awp_reg ftCOk [(8, .sl 0), (9, .v (.int .i64 (a0.length : Int))), (10, .v (.int .i64 0))] [.row false (.ints .i64 a0)] ?_
    refine awp_block ?_
    replace h := bind_some h
    obtain ⟨x42, hx, h⟩ := h
    refine awp_loopL hx (fun (t10 : Int) => [(8, .sl 0), (9, .v (.int .i64 (a0.length : Int))), (10, .v (.int .i64 t10))]) (fun (t10 : Int) => [.row false (.ints .i64 a0)]) (Sum.elim (fun (_ : Unit) => Exit.exit 0) (fun (_ : Unit) => Exit.ret)) (Sum.elim (fun (_ : Unit) => []) (fun (_ : Unit) => [(2, .v (.bool false))])) (Sum.elim (fun (_ : Unit) => [.row false (.ints .i64 a0)]) (fun (_ : Unit) => [.row false (.ints .i64 a0)])) ?_ ?_ ?_ ?_
    · rintro (⟨⟩ | ⟨⟩) hy <;> cases hy
    · clear h hx
      exact Red.auto
    · clear h hx
      rintro t10 r h
      unfold impl_BytesValid_b0 at h
      try dsimp only at h
      try dsimp only
      refine awp_reg ftCOk [(8, .sl 0), (9, .v (.int .i64 (a0.length : Int))), (10, .v (.int .i64 t10)), (11, .v (.bool (decide (t10 < (a0.length : Int)))))] [.row false (.ints .i64 a0)] ?_
      refine awp_seq fun K37 hK37 => ?_
      refine awp_cond (t := 11) rfl (fun hc38 => ?_) (fun hc38 => ?_)
      · replace h := bite_t h hc38
        refine awp_skip ?_
        (try simp only [Thn, InBlk, ↓reduceIte, Nat.reduceEqDiff])
        refine hK37 _ _ ?_
        clear hK37
        refine awp_seq fun K40 hK40 => ?_
        refine awp_block ?_
        replace h := chk_some h
        obtain ⟨hp0, h⟩ := h
        refine awp_reg ftCOk [(4, .v (.int .i64 (a0.getD t10.toNat 0))), (8, .sl 0), (9, .v (.int .i64 (a0.length : Int))), (10, .v (.int .i64 t10))] [.row false (.ints .i64 a0)] ?_
        clear hp0
        refine awp_reg ftCOk [(8, .sl 0), (9, .v (.int .i64 (a0.length : Int))), (10, .v (.int .i64 t10)), (19, .v (.bool ((decide ((a0.getD t10.toNat 0) < 0)) || (decide (255 < (a0.getD t10.toNat 0))))))] [.row false (.ints .i64 a0)] ?_
        refine awp_cond (t := 19) rfl (fun hc41 => ?_) (fun hc41 => ?_)
        · replace h := bite_t h hc41
          refine awp_reg ftCOk [(2, .v (.bool false))] [.row false (.ints .i64 a0)] ?_
          refine awp_ret ?_
          (try simp only [Thn, InBlk, ↓reduceIte, Nat.reduceEqDiff])
          obtain rfl := Option.some.inj h
          refine LoopQ.out rfl ?_
          exact Red.auto
        · replace h := bite_f h hc41
          refine awp_skip ?_
          (try simp only [Thn, InBlk, ↓reduceIte, Nat.reduceEqDiff])
          (try simp only [Thn, InBlk, ↓reduceIte, Nat.reduceEqDiff])
          refine hK40 _ _ ?_
          clear hK40
          replace h := chk_some h
          obtain ⟨hp0, h⟩ := h
          refine awp_regE ftCOk [(8, .sl 0), (9, .v (.int .i64 (a0.length : Int))), (10, .v (.int .i64 (t10 + 1)))] [.row false (.ints .i64 a0)] ?_
          clear hp0
          obtain rfl := Option.some.inj h
          refine LoopQ.next ?_
          exact Red.auto
      · replace h := bite_f h hc38
        refine awp_exit ?_
        (try simp only [Thn, InBlk, ↓reduceIte, Nat.reduceEqDiff])
        obtain rfl := Option.some.inj h
        refine LoopQ.out rfl ?_
        exact Red.auto
    · clear hx
      rcases x42 with (⟨⟩ | ⟨⟩)
      · try dsimp only [Sum.elim_inl, Sum.elim_inr] at h
        try dsimp only [Sum.elim_inl, Sum.elim_inr]
        (try simp only [Thn, InBlk, ↓reduceIte, Nat.reduceEqDiff])
        (try simp only [Thn, InBlk, ↓reduceIte, Nat.reduceEqDiff])
        (try simp only [Thn, InBlk, ↓reduceIte, Nat.reduceEqDiff])
        refine hK23 _ _ ?_
        clear hK23
        refine awp_reg ftCOk [(2, .v (.bool true))] [.row false (.ints .i64 a0)] ?_
        refine awp_ret ?_
        (try simp only [Thn, InBlk, ↓reduceIte, Nat.reduceEqDiff])
        obtain rfl := Option.some.inj h
        refine ⟨by simp, _, [0], (by simp only [go_sem, Nat.reduceBEq, Nat.reduceLT, Nat.reduceAdd, Nat.reduceLeDiff, Nat.reduceSub, Nat.reduceEqDiff, Int.reduceToNat, reduceCtorEq, ↓reduceIte]; exact rfl), ?_, ?_, ?_, ?_⟩
        · first | exact trivial | exact ⟨trivial, trivial⟩ | exact ⟨trivial, trivial, trivial⟩ | exact ⟨trivial, trivial, trivial, trivial⟩ | (simp only [allP, and_true, true_and]; done) | (simp only [allP, and_true, true_and]; omega)
        · simp [selOk, pos]
        · simp
        · first | exact ⟨rfl, rfl⟩ | (simp only [go_sem, Nat.reduceBEq, Nat.reduceLT, Nat.reduceAdd, Nat.reduceLeDiff, Nat.reduceSub, Nat.reduceEqDiff, Int.reduceToNat, reduceCtorEq, ↓reduceIte]; done) | (simp [go_sem, Nat.reduceBEq, Nat.reduceLT, Nat.reduceAdd, Nat.reduceLeDiff, Nat.reduceSub, Nat.reduceEqDiff, Int.reduceToNat, reduceCtorEq, ↓reduceIte]; done) | (simp only [go_sem, Nat.reduceBEq, Nat.reduceLT, Nat.reduceAdd, Nat.reduceLeDiff, Nat.reduceSub, Nat.reduceEqDiff, Int.reduceToNat, reduceCtorEq, ↓reduceIte]; exact ⟨rfl, rfl⟩) | (simp_all [go_sem, Nat.reduceBEq, Nat.reduceLT, Nat.reduceAdd, Nat.reduceLeDiff, Nat.reduceSub, Nat.reduceEqDiff, Int.reduceToNat, reduceCtorEq, ↓reduceIte]; done)
      · try dsimp only [Sum.elim_inl, Sum.elim_inr] at h
        try dsimp only [Sum.elim_inl, Sum.elim_inr]
        (try simp only [Thn, InBlk, ↓reduceIte, Nat.reduceEqDiff])
        obtain rfl := Option.some.inj h
        refine ⟨by simp, _, [0], (by simp only [go_sem, Nat.reduceBEq, Nat.reduceLT, Nat.reduceAdd, Nat.reduceLeDiff, Nat.reduceSub, Nat.reduceEqDiff, Int.reduceToNat, reduceCtorEq, ↓reduceIte]; exact rfl), ?_, ?_, ?_, ?_⟩
        · first | exact trivial | exact ⟨trivial, trivial⟩ | exact ⟨trivial, trivial, trivial⟩ | exact ⟨trivial, trivial, trivial, trivial⟩ | (simp only [allP, and_true, true_and]; done) | (simp only [allP, and_true, true_and]; omega)
        · simp [selOk, pos]
        · simp
        · first | exact ⟨rfl, rfl⟩ | (simp only [go_sem, Nat.reduceBEq, Nat.reduceLT, Nat.reduceAdd, Nat.reduceLeDiff, Nat.reduceSub, Nat.reduceEqDiff, Int.reduceToNat, reduceCtorEq, ↓reduceIte]; done) | (simp [go_sem, Nat.reduceBEq, Nat.reduceLT, Nat.reduceAdd, Nat.reduceLeDiff, Nat.reduceSub, Nat.reduceEqDiff, Int.reduceToNat, reduceCtorEq, ↓reduceIte]; done) | (simp only [go_sem, Nat.reduceBEq, Nat.reduceLT, Nat.reduceAdd, Nat.reduceLeDiff, Nat.reduceSub, Nat.reduceEqDiff, Int.reduceToNat, reduceCtorEq, ↓reduceIte]; exact ⟨rfl, rfl⟩) | (simp_all [go_sem, Nat.reduceBEq, Nat.reduceLT, Nat.reduceAdd, Nat.reduceLeDiff, Nat.reduceSub, Nat.reduceEqDiff, Int.reduceToNat, reduceCtorEq, ↓reduceIte]; done)
theorem k_impl_CheckSum (a0 : List Int) {r : Int} (h : impl_CheckSum a0 = some r) :
    FnA Tryd.prog 46 [.sl 0] [.row false (.ints .i64 a0)] [] (fun x H => x = .v (.int .i64 r) ∧ H = [.row false (.ints .i64 a0)]) := by
  unfold impl_CheckSum at h
  refine FnA.of (N := 23) (pin := [0]) (rs := [.tmp 2]) Tryd.func46 rfl en46 rfl rfl (by simp) (by simp; try omega) ?_
  refine awp_reg ftCOk [(0, .sl 0)] [.row false (.ints .i64 a0)] ?_
  refine awp_seq fun K2 hK2 => ?_
  replace h := bind_some h
  obtain ⟨y, hr0, h⟩ := h
  try dsimp only at h
  refine awp_to [(0, .sl 0), (8, .v (.bool (!y)))] [.row false (.ints .i64 a0)] ?_ ?_
  · clear h
    intro K hK
    refine awp_region ftCOk ?_
    simp (maxSteps := 4000000) only [go_sem, Nat.reduceBEq, Nat.reduceLT, Nat.reduceAdd, Nat.reduceLeDiff, Nat.reduceSub, Nat.reduceEqDiff, Int.reduceToNat, reduceCtorEq, ↓reduceIte]
    repeat' (first | refine And.intro ?_ ?_ | intro hg)
    all_goals (try simp (disch := omega) only [wrap_fits])
    all_goals first
      | (refine hK _ _ ?_; exact Red.auto)
      | exact trivial
      | assumption
      | omega
      | exact wrap_fits (by omega) (by omega)
      | (refine wpA_callA (k_impl_BytesValid a0 (h := hr0)) [0] [] ?_
         rintro x Hc' ⟨rfl, rfl⟩ hlen
         refine vcOps_sound ftCOk ?_
         simp (maxSteps := 4000000) only [go_sem, Nat.reduceBEq, Nat.reduceLT, Nat.reduceAdd, Nat.reduceLeDiff, Nat.reduceSub, Nat.reduceEqDiff, Int.reduceToNat, reduceCtorEq, ↓reduceIte]
         repeat' (first | refine And.intro ?_ ?_ | intro hg)
         all_goals (try simp (disch := omega) only [wrap_fits])
         all_goals first
           | (refine hK _ _ ?_; exact Red.auto)
           | exact trivial
           | assumption
           | omega
           | exact wrap_fits (by omega) (by omega)
           | (simp_all; done)
           | (simp_all; omega))
      | (simp_all; done)
      | (simp_all; omega)
  · clear hr0
    refine awp_cond (t := 8) rfl (fun hc3 => ?_) (fun hc3 => ?_)
    · replace h := bite_t h hc3
      refine awp_reg ftCOk [(2, .v (.int .i64 (-1)))] [.row false (.ints .i64 a0)] ?_
      refine awp_ret ?_
      (try simp only [Thn, InBlk, ↓reduceIte, Nat.reduceEqDiff])
      obtain rfl := Option.some.inj h
      refine ⟨by simp, _, [0], (by simp only [go_sem, Nat.reduceBEq, Nat.reduceLT, Nat.reduceAdd, Nat.reduceLeDiff, Nat.reduceSub, Nat.reduceEqDiff, Int.reduceToNat, reduceCtorEq, ↓reduceIte]; exact rfl), ?_, ?_, ?_, ?_⟩
      · first | exact trivial | exact ⟨trivial, trivial⟩ | exact ⟨trivial, trivial, trivial⟩ | exact ⟨trivial, trivial, trivial, trivial⟩ | (simp only [allP, and_true, true_and]; done) | (simp only [allP, and_true, true_and]; omega)
      · simp [selOk, pos]
      · simp
      · first | exact ⟨rfl, rfl⟩ | (simp only [go_sem, Nat.reduceBEq, Nat.reduceLT, Nat.reduceAdd, Nat.reduceLeDiff, Nat.reduceSub, Nat.reduceEqDiff, Int.reduceToNat, reduceCtorEq, ↓reduceIte]; done) | (simp [go_sem, Nat.reduceBEq, Nat.reduceLT, Nat.reduceAdd, Nat.reduceLeDiff, Nat.reduceSub, Nat.reduceEqDiff, Int.reduceToNat, reduceCtorEq, ↓reduceIte]; done) | (simp only [go_sem, Nat.reduceBEq, Nat.reduceLT, Nat.reduceAdd, Nat.reduceLeDiff, Nat.reduceSub, Nat.reduceEqDiff, Int.reduceToNat, reduceCtorEq, ↓reduceIte]; exact ⟨rfl, rfl⟩) | (simp_all [go_sem, Nat.reduceBEq, Nat.reduceLT, Nat.reduceAdd, Nat.reduceLeDiff, Nat.reduceSub, Nat.reduceEqDiff, Int.reduceToNat, reduceCtorEq, ↓reduceIte]; done)
    · replace h := bite_f h hc3
      refine awp_skip ?_
      (try simp only [Thn, InBlk, ↓reduceIte, Nat.reduceEqDiff])
      refine hK2 _ _ ?_
      clear hK2
      refine awp_reg ftCOk [(0, .sl 0), (3, .v (.int .i64 7))] [.row false (.ints .i64 a0)] ?_
      refine awp_seq fun K17 hK17 => ?_
      refine awp_reg ftCOk [(3, .v (.int .i64 7)), (9, .sl 0), (10, .v (.int .i64 (a0.length : Int))), (11, .v (.int .i64 0))] [.row false (.ints .i64 a0)] ?_
      refine awp_block ?_
      replace h := bind_some h
      obtain ⟨t3_1, hx, h⟩ := h
      refine awp_loopL hx (fun ((t3, t11) : Int × Int) => [(3, .v (.int .i64 t3)), (9, .sl 0), (10, .v (.int .i64 (a0.length : Int))), (11, .v (.int .i64 t11))]) (fun ((t3, t11) : Int × Int) => [.row false (.ints .i64 a0)]) (fun (t3_1 : Int) => Exit.exit 0) (fun (t3_1 : Int) => [(3, .v (.int .i64 t3_1))]) (fun (t3_1 : Int) => [.row false (.ints .i64 a0)]) ?_ ?_ ?_ ?_
      · rintro t3_1 hy <;> cases hy
      · clear h hx
        exact Red.auto
      · clear h hx
        rintro ⟨t3, t11⟩ r h
        unfold impl_CheckSum_b0 at h
        try dsimp only at h
        try dsimp only
        refine awp_reg ftCOk [(3, .v (.int .i64 t3)), (9, .sl 0), (10, .v (.int .i64 (a0.length : Int))), (11, .v (.int .i64 t11)), (12, .v (.bool (decide (t11 < (a0.length : Int)))))] [.row false (.ints .i64 a0)] ?_
        refine awp_seq fun K27 hK27 => ?_
        refine awp_cond (t := 12) rfl (fun hc28 => ?_) (fun hc28 => ?_)
        · replace h := bite_t h hc28
          refine awp_skip ?_
          (try simp only [Thn, InBlk, ↓reduceIte, Nat.reduceEqDiff])
          refine hK27 _ _ ?_
          clear hK27
          refine awp_seq fun K29 hK29 => ?_
          refine awp_block ?_
          replace h := chk_some h
          obtain ⟨hp0, h⟩ := h
          refine awp_reg ftCOk [(3, .v (.int .i64 t3)), (5, .v (.int .i64 (a0.getD t11.toNat 0))), (9, .sl 0), (10, .v (.int .i64 (a0.length : Int))), (11, .v (.int .i64 t11))] [.row false (.ints .i64 a0)] ?_
          clear hp0
          replace h := chk_some h
          obtain ⟨hp0, h⟩ := h
          replace h := chk_some h
          obtain ⟨hp1, h⟩ := h
          replace h := chk_some h
          obtain ⟨hp2, h⟩ := h
          replace h := chk_some h
          obtain ⟨hp3, h⟩ := h
          refine awp_regE ftCOk [(3, .v (.int .i64 ((((31 * t3) + (a0.getD t11.toNat 0)) + 1) % 251))), (9, .sl 0), (10, .v (.int .i64 (a0.length : Int))), (11, .v (.int .i64 t11))] [.row false (.ints .i64 a0)] ?_
          clear hp0 hp1 hp2 hp3
          (try simp only [Thn, InBlk, ↓reduceIte, Nat.reduceEqDiff])
          (try simp only [Thn, InBlk, ↓reduceIte, Nat.reduceEqDiff])
          refine hK29 _ _ ?_
          clear hK29
          replace h := chk_some h
          obtain ⟨hp0, h⟩ := h
          refine awp_regE ftCOk [(3, .v (.int .i64 ((((31 * t3) + (a0.getD t11.toNat 0)) + 1) % 251))), (9, .sl 0), (10, .v (.int .i64 (a0.length : Int))), (11, .v (.int .i64 (t11 + 1)))] [.row false (.ints .i64 a0)] ?_
          clear hp0
          obtain rfl := Option.some.inj h
          refine LoopQ.next ?_
          exact Red.auto
        · replace h := bite_f h hc28
          refine awp_exit ?_
          (try simp only [Thn, InBlk, ↓reduceIte, Nat.reduceEqDiff])
          obtain rfl := Option.some.inj h
          refine LoopQ.out rfl ?_
          exact Red.auto
      · clear hx
        skip
        · try dsimp only [Sum.elim_inl, Sum.elim_inr] at h
          try dsimp only [Sum.elim_inl, Sum.elim_inr]
          (try simp only [Thn, InBlk, ↓reduceIte, Nat.reduceEqDiff])
          (try simp only [Thn, InBlk, ↓reduceIte, Nat.reduceEqDiff])
          (try simp only [Thn, InBlk, ↓reduceIte, Nat.reduceEqDiff])
          refine hK17 _ _ ?_
          clear hK17
          refine awp_reg ftCOk [(2, .v (.int .i64 t3_1))] [.row false (.ints .i64 a0)] ?_
          refine awp_ret ?_
          (try simp only [Thn, InBlk, ↓reduceIte, Nat.reduceEqDiff])
          obtain rfl := Option.some.inj h
          refine ⟨by simp, _, [0], (by simp only [go_sem, Nat.reduceBEq, Nat.reduceLT, Nat.reduceAdd, Nat.reduceLeDiff, Nat.reduceSub, Nat.reduceEqDiff, Int.reduceToNat, reduceCtorEq, ↓reduceIte]; exact rfl), ?_, ?_, ?_, ?_⟩
          · first | exact trivial | exact ⟨trivial, trivial⟩ | exact ⟨trivial, trivial, trivial⟩ | exact ⟨trivial, trivial, trivial, trivial⟩ | (simp only [allP, and_true, true_and]; done) | (simp only [allP, and_true, true_and]; omega)
          · simp [selOk, pos]
          · simp
          · first | exact ⟨rfl, rfl⟩ | (simp only [go_sem, Nat.reduceBEq, Nat.reduceLT, Nat.reduceAdd, Nat.reduceLeDiff, Nat.reduceSub, Nat.reduceEqDiff, Int.reduceToNat, reduceCtorEq, ↓reduceIte]; done) | (simp [go_sem, Nat.reduceBEq, Nat.reduceLT, Nat.reduceAdd, Nat.reduceLeDiff, Nat.reduceSub, Nat.reduceEqDiff, Int.reduceToNat, reduceCtorEq, ↓reduceIte]; done) | (simp only [go_sem, Nat.reduceBEq, Nat.reduceLT, Nat.reduceAdd, Nat.reduceLeDiff, Nat.reduceSub, Nat.reduceEqDiff, Int.reduceToNat, reduceCtorEq, ↓reduceIte]; exact ⟨rfl, rfl⟩) | (simp_all [go_sem, Nat.reduceBEq, Nat.reduceLT, Nat.reduceAdd, Nat.reduceLeDiff, Nat.reduceSub, Nat.reduceEqDiff, Int.reduceToNat, reduceCtorEq, ↓reduceIte]; done)
theorem k_laws_alive {r : Bool} (h : laws_alive = some r) :
    FnA Tryd.prog 15 [] [] [] (fun x H => x = .v (.bool r) ∧ H = []) := by
  unfold laws_alive at h
  refine FnA.of (N := 4) (pin := []) (rs := [.tmp 0]) Tryd.func15 rfl en15 rfl rfl (by simp) (by simp; try omega) ?_
  refine awp_reg ftCOk [] [] ?_
  replace h := bind_some h
  obtain ⟨y, hr0, h⟩ := h
  try dsimp only at h
  refine awp_to [(0, .v (.bool (y == 7)))] [.row true (.ints .i64 [])] ?_ ?_
  · clear h
    intro K hK
    refine awp_region ftCOk ?_
    simp (maxSteps := 4000000) only [go_sem, Nat.reduceBEq, Nat.reduceLT, Nat.reduceAdd, Nat.reduceLeDiff, Nat.reduceSub, Nat.reduceEqDiff, Int.reduceToNat, reduceCtorEq, ↓reduceIte]
    repeat' (first | refine And.intro ?_ ?_ | intro hg)
    all_goals (try simp (disch := omega) only [wrap_fits])
    all_goals first
      | (refine hK _ _ ?_; exact Red.auto)
      | exact trivial
      | assumption
      | omega
      | exact wrap_fits (by omega) (by omega)
      | (refine wpA_callA (k_impl_CheckSum [] (h := hr0)) [0] [] ?_
         rintro x Hc' ⟨rfl, rfl⟩ hlen
         refine vcOps_sound ftCOk ?_
         simp (maxSteps := 4000000) only [go_sem, Nat.reduceBEq, Nat.reduceLT, Nat.reduceAdd, Nat.reduceLeDiff, Nat.reduceSub, Nat.reduceEqDiff, Int.reduceToNat, reduceCtorEq, ↓reduceIte]
         repeat' (first | refine And.intro ?_ ?_ | intro hg)
         all_goals (try simp (disch := omega) only [wrap_fits])
         all_goals first
           | (refine hK _ _ ?_; exact Red.auto)
           | exact trivial
           | assumption
           | omega
           | exact wrap_fits (by omega) (by omega)
           | (simp_all; done)
           | (simp_all; omega))
      | (simp_all; done)
      | (simp_all; omega)
  · clear hr0
    refine awp_ret ?_
    (try simp only [Thn, InBlk, ↓reduceIte, Nat.reduceEqDiff])
    obtain rfl := Option.some.inj h
    refine ⟨by simp, _, [], (by simp only [go_sem, Nat.reduceBEq, Nat.reduceLT, Nat.reduceAdd, Nat.reduceLeDiff, Nat.reduceSub, Nat.reduceEqDiff, Int.reduceToNat, reduceCtorEq, ↓reduceIte]; exact rfl), ?_, ?_, ?_, ?_⟩
    · first | exact trivial | exact ⟨trivial, trivial⟩ | exact ⟨trivial, trivial, trivial⟩ | exact ⟨trivial, trivial, trivial, trivial⟩ | (simp only [allP, and_true, true_and]; done) | (simp only [allP, and_true, true_and]; omega)
    · simp [selOk, pos]
    · simp
    · first | exact ⟨rfl, rfl⟩ | (simp only [go_sem, Nat.reduceBEq, Nat.reduceLT, Nat.reduceAdd, Nat.reduceLeDiff, Nat.reduceSub, Nat.reduceEqDiff, Int.reduceToNat, reduceCtorEq, ↓reduceIte]; done) | (simp [go_sem, Nat.reduceBEq, Nat.reduceLT, Nat.reduceAdd, Nat.reduceLeDiff, Nat.reduceSub, Nat.reduceEqDiff, Int.reduceToNat, reduceCtorEq, ↓reduceIte]; done) | (simp only [go_sem, Nat.reduceBEq, Nat.reduceLT, Nat.reduceAdd, Nat.reduceLeDiff, Nat.reduceSub, Nat.reduceEqDiff, Int.reduceToNat, reduceCtorEq, ↓reduceIte]; exact ⟨rfl, rfl⟩) | (simp_all [go_sem, Nat.reduceBEq, Nat.reduceLT, Nat.reduceAdd, Nat.reduceLeDiff, Nat.reduceSub, Nat.reduceEqDiff, Int.reduceToNat, reduceCtorEq, ↓reduceIte]; done)
abbrev lz0_laws_FnNearOf : Array Bool := #[false, true, true, false, false, false, true, false, false, false, false, false, false, false, false, false, false, false, false, false, false, false, false, false, false, false, false, false, false, false, false, false, false]
abbrev lz1_laws_FnNearOf : Array Bool := #[true, true, true, true, true, true, true, true, true, true, true, true, true, true, true, true, true, true, true, true, true, true, true, true, true, true, true, true, true, true, true, true, true]
abbrev lz2_laws_FnNearOf : Array Bool := #[true, true, true, true, true, true, true, true, true, true, true, true, true, true, true, true, true, true, true, true, true, true, true, true, true, true, true, true, true, true, true, false, false]
abbrev lz3_laws_FnNearOf : Array Bool := #[true, true, true, true, true, true, true, true, true, true, true, true, true, true, true, true, true, true, true, false, false, false, false, false, false, false, false, false, false, false, false, false, false]
abbrev lz4_laws_FnNearOf : Array Bool := #[true, true, true, true, true, true, true, true, true, true, true, true, true, true, true, false, false, false, false, false, false, false, false, false, false, false, false, false, false, false, false, false, false]
abbrev lz5_laws_FnNearOf : Array Bool := #[true, true, true, true, true, true, true, true, true, true, true, true, true, false, true, false, false, false, false, false, false, false, false, false, false, false, false, false, false, false, false, false, false]
abbrev lz6_laws_FnNearOf : Array Bool := #[true, true, true, true, true, true, true, true, true, true, true, true, false, false, true, false, false, false, false, false, false, false, false, false, false, false, false, false, false, false, false, false, false]
abbrev lz7_laws_FnNearOf : Array Bool := #[true, true, true, true, true, true, true, false, false, false, false, false, false, false, false, false, false, false, false, false, false, false, false, false, false, false, false, false, false, false, false, false, false]
abbrev lz8_laws_FnNearOf : Array Bool := #[true, true, true, true, true, false, true, false, false, false, false, false, false, false, false, false, false, false, false, false, false, false, false, false, false, false, false, false, false, false, false, false, false]
abbrev lz9_laws_FnNearOf : Array Bool := #[true, true, true, true, false, false, true, false, false, false, false, false, false, false, false, false, false, false, false, false, false, false, false, false, false, false, false, false, false, false, false, false, false]
abbrev lz10_laws_FnNearOf : Array Bool := #[true, true, true, false, false, false, true, false, false, false, false, false, false, false, false, false, false, false, false, false, false, false, false, false, false, false, false, false, false, false, false, false, false]
abbrev lz11_laws_FnNearOf : Array Bool := #[false, true, true, true, true, false, true, false, false, false, false, false, false, false, false, false, false, false, false, false, false, false, false, false, false, false, false, false, false, false, false, false, false]
abbrev lz12_laws_FnNearOf : Array Bool := #[false, true, true, true, false, false, true, false, false, false, false, false, false, false, false, false, false, false, false, false, false, false, false, false, false, false, false, false, false, false, false, false, false]
abbrev lz13_laws_FnNearOf : Array Bool := #[true, true, true, true, true, true, true, true, true, true, true, true, true, true, true, true, true, true, true, true, true, true, true, true, true, true, true, true, true, true, false, false, false]
abbrev lz14_laws_FnNearOf : Array Bool := #[true, true, true, true, true, true, true, true, true, true, true, true, true, true, true, true, true, true, true, true, true, true, true, true, true, true, true, true, true, false, false, false, false]
abbrev lz15_laws_FnNearOf : Array Bool := #[true, true, true, true, true, true, true, true, true, true, true, true, true, true, true, true, true, true, true, true, true, true, true, true, true, true, true, true, false, false, false, false, false]
abbrev lz16_laws_FnNearOf : Array Bool := #[true, true, true, true, true, true, true, true, true, true, true, true, true, true, true, true, true, true, true, true, true, true, true, true, true, false, true, true, true, true, false, false, false]
abbrev lz17_laws_FnNearOf : Array Bool := #[true, true, true, true, true, true, true, true, true, true, true, true, true, true, true, true, true, true, true, true, true, true, true, true, true, false, true, true, true, false, false, false, false]
abbrev lz18_laws_FnNearOf : Array Bool := #[true, true, true, true, true, true, true, true, true, true, true, true, true, true, true, true, true, true, true, true, true, true, true, true, true, false, true, true, false, false, false, false, false]
abbrev lz19_laws_FnNearOf : Array Bool := #[true, true, true, true, true, true, true, true, true, true, true, true, true, true, true, true, true, true, true, true, true, true, true, true, false, false, true, true, true, true, false, false, false]
abbrev lz20_laws_FnNearOf : Array Bool := #[true, true, true, true, true, true, true, true, true, true, true, true, true, true, true, true, true, true, true, true, true, true, true, true, false, false, true, true, true, false, false, false, false]
abbrev lz21_laws_FnNearOf : Array Bool := #[true, true, true, true, true, true, true, true, true, true, true, true, true, true, true, true, true, true, true, true, true, true, true, true, false, false, true, true, false, false, false, false, false]
abbrev lz22_laws_FnNearOf : Array Bool := #[true, true, true, true, true, true, true, true, true, true, true, true, true, true, true, true, true, true, true, true, true, true, true, false, false, false, true, true, true, true, false, false, false]
abbrev lz23_laws_FnNearOf : Array Bool := #[true, true, true, true, true, true, true, true, true, true, true, true, true, true, true, true, true, true, true, true, true, true, true, false, false, false, true, true, true, false, false, false, false]
abbrev lz24_laws_FnNearOf : Array Bool := #[true, true, true, true, true, true, true, true, true, true, true, true, true, true, true, true, true, true, true, true, true, true, true, false, false, false, true, true, false, false, false, false, false]
theorem k_laws_FnNearOf (a0 : List Int) {r : Bool} (h : laws_FnNearOf a0 = some r) :
    FnA Tryd.prog 4 [.sl 0] [.row false (.ints .u8 a0), .glob 0 (.ints .u8 tab0)] [] (fun x H => x = .v (.bool r) ∧ H = [.row false (.ints .u8 a0), .glob 0 (.ints .u8 tab0)]) := by
  unfold laws_FnNearOf at h
  refine FnA.of (N := 72) (pin := [0, 1]) (rs := [.tmp 2]) Tryd.func4 rfl en4 rfl rfl (by simp) (by simp; try omega) ?_
  refine awp_reg ftCOk [(0, .sl 0)] [.row false (.ints .u8 a0), .glob 0 (.ints .u8 tab0)] ?_
  refine awp_seq fun K2 hK2 => ?_
  refine awp_reg ftCOk [(0, .sl 0), (9, .v (.bool (decide (1048576 < (a0.length : Int)))))] [.row false (.ints .u8 a0), .glob 0 (.ints .u8 tab0)] ?_
  refine awp_cond (t := 9) rfl (fun hc3 => ?_) (fun hc3 => ?_)
  · replace h := bite_t h hc3
    refine awp_reg ftCOk [(2, .v (.bool true))] [.row false (.ints .u8 a0), .glob 0 (.ints .u8 tab0)] ?_
    refine awp_ret ?_
    (try simp only [Thn, InBlk, ↓reduceIte, Nat.reduceEqDiff])
    obtain rfl := Option.some.inj h
    refine ⟨by simp, _, [0, 1], (by simp only [go_sem, Nat.reduceBEq, Nat.reduceLT, Nat.reduceAdd, Nat.reduceLeDiff, Nat.reduceSub, Nat.reduceEqDiff, Int.reduceToNat, reduceCtorEq, ↓reduceIte]; exact rfl), ?_, ?_, ?_, ?_⟩
    · first | exact trivial | exact ⟨trivial, trivial⟩ | exact ⟨trivial, trivial, trivial⟩ | exact ⟨trivial, trivial, trivial, trivial⟩ | (simp only [allP, and_true, true_and]; done) | (simp only [allP, and_true, true_and]; omega)
    · simp [selOk, pos]
    · simp
    · first | exact ⟨rfl, rfl⟩ | (simp only [go_sem, Nat.reduceBEq, Nat.reduceLT, Nat.reduceAdd, Nat.reduceLeDiff, Nat.reduceSub, Nat.reduceEqDiff, Int.reduceToNat, reduceCtorEq, ↓reduceIte]; done) | (simp [go_sem, Nat.reduceBEq, Nat.reduceLT, Nat.reduceAdd, Nat.reduceLeDiff, Nat.reduceSub, Nat.reduceEqDiff, Int.reduceToNat, reduceCtorEq, ↓reduceIte]; done) | (simp only [go_sem, Nat.reduceBEq, Nat.reduceLT, Nat.reduceAdd, Nat.reduceLeDiff, Nat.reduceSub, Nat.reduceEqDiff, Int.reduceToNat, reduceCtorEq, ↓reduceIte]; exact ⟨rfl, rfl⟩) | (simp_all [go_sem, Nat.reduceBEq, Nat.reduceLT, Nat.reduceAdd, Nat.reduceLeDiff, Nat.reduceSub, Nat.reduceEqDiff, Int.reduceToNat, reduceCtorEq, ↓reduceIte]; done)
  · replace h := bite_f h hc3
    refine awp_skip ?_
    (try simp only [Thn, InBlk, ↓reduceIte, Nat.reduceEqDiff])
    refine hK2 _ _ ?_
    clear hK2
    replace h := bind_some h
    obtain ⟨⟨y, y_1, y_2⟩, hr0, h⟩ := h
    try dsimp only at h
    refine awp_to [(3, .pp 3 0), (4, .v (.int .i64 y_2))] [.row false (.ints .u8 a0), .glob 0 (.ints .u8 tab0), .row true (.trips y_1), .box [.v (.int .i64 y), .sl 2]] ?_ ?_
    · clear h
      intro K hK
      refine awp_region ftCOk ?_
      simp (maxSteps := 4000000) only [go_sem, Nat.reduceBEq, Nat.reduceLT, Nat.reduceAdd, Nat.reduceLeDiff, Nat.reduceSub, Nat.reduceEqDiff, Int.reduceToNat, reduceCtorEq, ↓reduceIte]
      repeat' (first | refine And.intro ?_ ?_ | intro hg)
      all_goals (try simp (disch := omega) only [wrap_fits])
      all_goals first
        | (refine hK _ _ ?_; exact Red.auto)
        | exact trivial
        | assumption
        | omega
        | exact wrap_fits (by omega) (by omega)
        | (refine wpA_callA (k_spec_DrawNearOf a0 (h := hr0)) [0] [] ?_
           rintro x Hc' ⟨rfl, rfl⟩ hlen
           refine vcOps_sound ftCOk ?_
           simp (maxSteps := 4000000) only [go_sem, Nat.reduceBEq, Nat.reduceLT, Nat.reduceAdd, Nat.reduceLeDiff, Nat.reduceSub, Nat.reduceEqDiff, Int.reduceToNat, reduceCtorEq, ↓reduceIte]
           repeat' (first | refine And.intro ?_ ?_ | intro hg)
           all_goals (try simp (disch := omega) only [wrap_fits])
           all_goals first
             | (refine hK _ _ ?_; exact Red.auto)
             | exact trivial
             | assumption
             | omega
             | exact wrap_fits (by omega) (by omega)
             | (simp_all; done)
             | (simp_all; omega))
        | (simp_all; done)
        | (simp_all; omega)
    · clear hr0
      replace h := bind_some h
      obtain ⟨y_3, hr0, h⟩ := h
      try dsimp only at h
      refine awp_to [(3, .pp 3 0), (4, .v (.int .i64 y_2)), (5, .sl 4)] [.row false (.ints .u8 a0), .glob 0 (.ints .u8 tab0), .row true (.trips y_1), .box [.v (.int .i64 y), .sl 2], .row true (.ints .i64 y_3)] ?_ ?_
      · clear h
        intro K hK
        refine awp_region ftCOk ?_
        simp (maxSteps := 4000000) only [go_sem, Nat.reduceBEq, Nat.reduceLT, Nat.reduceAdd, Nat.reduceLeDiff, Nat.reduceSub, Nat.reduceEqDiff, Int.reduceToNat, reduceCtorEq, ↓reduceIte]
        repeat' (first | refine And.intro ?_ ?_ | intro hg)
        all_goals (try simp (disch := omega) only [wrap_fits])
        all_goals first
          | (refine hK _ _ ?_; exact Red.auto)
          | exact trivial
          | assumption
          | omega
          | exact wrap_fits (by omega) (by omega)
          | (refine wpA_callA (k_impl_NearOf y y_1 y_2 (h := hr0)) [2, 1] [] ?_
             rintro x Hc' ⟨rfl, rfl⟩ hlen
             refine vcOps_sound ftCOk ?_
             simp (maxSteps := 4000000) only [go_sem, Nat.reduceBEq, Nat.reduceLT, Nat.reduceAdd, Nat.reduceLeDiff, Nat.reduceSub, Nat.reduceEqDiff, Int.reduceToNat, reduceCtorEq, ↓reduceIte]
             repeat' (first | refine And.intro ?_ ?_ | intro hg)
             all_goals (try simp (disch := omega) only [wrap_fits])
             all_goals first
               | (refine hK _ _ ?_; exact Red.auto)
               | exact trivial
               | assumption
               | omega
               | exact wrap_fits (by omega) (by omega)
               | (simp_all; done)
               | (simp_all; omega))
          | (simp_all; done)
          | (simp_all; omega)
      · clear hr0
        refine awp_seq fun K5 hK5 => ?_
        replace h := bind_some h
        obtain ⟨y_4, hr0, h⟩ := h
        try dsimp only at h
        replace h := bind_some h
        obtain ⟨y_5, hr1, h⟩ := h
        try dsimp only at h
        refine awp_to [(3, .pp 3 0), (4, .v (.int .i64 y_2)), (5, .sl 4), (23, .v (.bool (!y_5)))] [.row false (.ints .u8 a0), .glob 0 (.ints .u8 tab0), .row true (.trips y_1), .box [.v (.int .i64 y), .sl 2], .row true (.ints .i64 y_3), .row true (.ints .i64 y_4)] ?_ ?_
        · clear h
          intro K hK
          refine awp_region ftCOk ?_
          simp (maxSteps := 4000000) only [go_sem, Nat.reduceBEq, Nat.reduceLT, Nat.reduceAdd, Nat.reduceLeDiff, Nat.reduceSub, Nat.reduceEqDiff, Int.reduceToNat, reduceCtorEq, ↓reduceIte]
          repeat' (first | refine And.intro ?_ ?_ | intro hg)
          all_goals (try simp (disch := omega) only [wrap_fits])
          all_goals first
            | (refine hK _ _ ?_; exact Red.auto)
            | exact trivial
            | assumption
            | omega
            | exact wrap_fits (by omega) (by omega)
            | (refine wpA_callA (k_spec_NearOf y y_1 y_2 (h := hr0)) [2] [] ?_
               rintro x Hc' ⟨rfl, rfl⟩ hlen
               refine vcOps_sound ftCOk ?_
               simp (maxSteps := 4000000) only [go_sem, Nat.reduceBEq, Nat.reduceLT, Nat.reduceAdd, Nat.reduceLeDiff, Nat.reduceSub, Nat.reduceEqDiff, Int.reduceToNat, reduceCtorEq, ↓reduceIte]
               repeat' (first | refine And.intro ?_ ?_ | intro hg)
               all_goals (try simp (disch := omega) only [wrap_fits])
               all_goals first
                 | (refine hK _ _ ?_; exact Red.auto)
                 | exact trivial
                 | assumption
                 | omega
                 | exact wrap_fits (by omega) (by omega)
                 | (refine wpA_callA (k_laws_sameInts y_3 y_4 (h := hr1)) [4, 5] [] ?_
                    rintro x Hc' ⟨rfl, rfl⟩ hlen
                    refine vcOps_sound ftCOk ?_
                    simp (maxSteps := 4000000) only [go_sem, Nat.reduceBEq, Nat.reduceLT, Nat.reduceAdd, Nat.reduceLeDiff, Nat.reduceSub, Nat.reduceEqDiff, Int.reduceToNat, reduceCtorEq, ↓reduceIte]
                    repeat' (first | refine And.intro ?_ ?_ | intro hg)
                    all_goals (try simp (disch := omega) only [wrap_fits])
                    all_goals first
                      | (refine hK _ _ ?_; exact Red.auto)
                      | exact trivial
                      | assumption
                      | omega
                      | exact wrap_fits (by omega) (by omega)
                      | (simp_all; done)
                      | (simp_all; omega))
                 | (simp_all; done)
                 | (simp_all; omega))
            | (simp_all; done)
            | (simp_all; omega)
        · clear hr0 hr1
          refine awp_cond (t := 23) rfl (fun hc6 => ?_) (fun hc6 => ?_)
          · replace h := bite_t h hc6
            refine awp_reg ftCOk [(2, .v (.bool false))] [.row false (.ints .u8 a0), .glob 0 (.ints .u8 tab0), .row true (.trips y_1), .box [.v (.int .i64 y), .sl 2], .row true (.ints .i64 y_3), .row true (.ints .i64 y_4)] ?_
            refine awp_ret ?_
            (try simp only [Thn, InBlk, ↓reduceIte, Nat.reduceEqDiff])
            obtain rfl := Option.some.inj h
            refine ⟨by simp, _, [0, 1], (by simp only [go_sem, Nat.reduceBEq, Nat.reduceLT, Nat.reduceAdd, Nat.reduceLeDiff, Nat.reduceSub, Nat.reduceEqDiff, Int.reduceToNat, reduceCtorEq, ↓reduceIte]; exact rfl), ?_, ?_, ?_, ?_⟩
            · first | exact trivial | exact ⟨trivial, trivial⟩ | exact ⟨trivial, trivial, trivial⟩ | exact ⟨trivial, trivial, trivial, trivial⟩ | (simp only [allP, and_true, true_and]; done) | (simp only [allP, and_true, true_and]; omega)
            · simp [selOk, pos]
            · simp
            · first | exact ⟨rfl, rfl⟩ | (simp only [go_sem, Nat.reduceBEq, Nat.reduceLT, Nat.reduceAdd, Nat.reduceLeDiff, Nat.reduceSub, Nat.reduceEqDiff, Int.reduceToNat, reduceCtorEq, ↓reduceIte]; done) | (simp [go_sem, Nat.reduceBEq, Nat.reduceLT, Nat.reduceAdd, Nat.reduceLeDiff, Nat.reduceSub, Nat.reduceEqDiff, Int.reduceToNat, reduceCtorEq, ↓reduceIte]; done) | (simp only [go_sem, Nat.reduceBEq, Nat.reduceLT, Nat.reduceAdd, Nat.reduceLeDiff, Nat.reduceSub, Nat.reduceEqDiff, Int.reduceToNat, reduceCtorEq, ↓reduceIte]; exact ⟨rfl, rfl⟩) | (simp_all [go_sem, Nat.reduceBEq, Nat.reduceLT, Nat.reduceAdd, Nat.reduceLeDiff, Nat.reduceSub, Nat.reduceEqDiff, Int.reduceToNat, reduceCtorEq, ↓reduceIte]; done)
          · replace h := bite_f h hc6
            refine awp_skip ?_
            (try simp only [Thn, InBlk, ↓reduceIte, Nat.reduceEqDiff])
            refine hK5 _ _ ?_
            clear hK5
            refine awp_seq fun K35 hK35 => ?_
            refine awp_reg ftCOk [(3, .pp 3 0), (4, .v (.int .i64 y_2)), (5, .sl 4), (6, .v (.int .i64 0))] [.row false (.ints .u8 a0), .glob 0 (.ints .u8 tab0), .row true (.trips y_1), .box [.v (.int .i64 y), .sl 2], .row true (.ints .i64 y_3), .row true (.ints .i64 y_4)] ?_
            refine awp_block ?_
            replace h := bind_some h
            obtain ⟨x63, hx, h⟩ := h
            refine awp_loopL hx (fun (t6 : Int) => [(3, .pp 2 0), (4, .v (.int .i64 y_2)), (5, .sl 4), (6, .v (.int .i64 t6))]) (fun (t6 : Int) => [.row false (.ints .u8 a0), .glob 0 (.ints .u8 tab0), .box [.v (.int .i64 y), .sl 3], .row true (.trips y_1), .row true (.ints .i64 y_3)]) (Sum.elim (fun (_ : Unit) => Exit.exit 0) (fun (_ : Unit) => Exit.ret)) (Sum.elim (fun (_ : Unit) => [(3, .pp 2 0), (4, .v (.int .i64 y_2)), (5, .sl 4)]) (fun (_ : Unit) => [(2, .v (.bool false))])) (Sum.elim (fun (_ : Unit) => [.row false (.ints .u8 a0), .glob 0 (.ints .u8 tab0), .box [.v (.int .i64 y), .sl 3], .row true (.trips y_1), .row true (.ints .i64 y_3)]) (fun (_ : Unit) => [.row false (.ints .u8 a0), .glob 0 (.ints .u8 tab0)])) ?_ ?_ ?_ ?_
            · rintro (⟨⟩ | ⟨⟩) hy <;> cases hy
            · clear h hx
              exact Red.selA [0, 1, 3, 2, 4] Red.auto
            · clear h hx
              rintro t6 r h
              unfold laws_FnNearOf_b0 at h
              try dsimp only at h
              try dsimp only
              refine awp_seq fun K55 hK55 => ?_
              refine awp_reg ftCOk [(3, .pp 2 0), (4, .v (.int .i64 y_2)), (5, .sl 4), (6, .v (.int .i64 t6)), (27, .v (.bool (decide (t6 < (y_3.length : Int)))))] [.row false (.ints .u8 a0), .glob 0 (.ints .u8 tab0), .box [.v (.int .i64 y), .sl 3], .row true (.trips y_1), .row true (.ints .i64 y_3)] ?_
              refine awp_cond (t := 27) rfl (fun hc56 => ?_) (fun hc56 => ?_)
              · replace h := bite_t h hc56
                refine awp_skip ?_
                (try simp only [Thn, InBlk, ↓reduceIte, Nat.reduceEqDiff])
                refine hK55 _ _ ?_
                clear hK55
                refine awp_join h (fun (_ : Unit) => [(3, .pp 2 0), (4, .v (.int .i64 y_2)), (5, .sl 4), (6, .v (.int .i64 t6))]) (fun (_ : Unit) => [.row false (.ints .u8 a0), .glob 0 (.ints .u8 tab0), .box [.v (.int .i64 y), .sl 3], .row true (.trips y_1), .row true (.ints .i64 y_3)]) ?_ ?_
                · clear h
                  intro k h
                  try dsimp only at h
                  refine awp_block ?_
                  replace h := chk_some h
                  obtain ⟨hp0, h⟩ := h
                  replace h := bind_some h
                  obtain ⟨y_6, hr1, h⟩ := h
                  try dsimp only at h
                  replace h := bind_some h
                  obtain ⟨y_7, hr2, h⟩ := h
                  try dsimp only at h
                  cases y_7
                  · replace h := bite_f h rfl
                    refine awp_to [(3, .pp 2 0), (4, .v (.int .i64 y_2)), (5, .sl 4), (6, .v (.int .i64 t6)), (62, .v (.bool true))] [.row false (.ints .u8 a0), .glob 0 (.ints .u8 tab0), .box [.v (.int .i64 y), .sl 3], .row true (.trips y_1), .row true (.ints .i64 y_3), .row true (.ints .i64 y_6)] ?_ ?_
                    · clear h
                      intro K hK
                      refine awp_drawL [0, 1, 2, 3, 4] [1, 2, 6] 30 lz0_laws_FnNearOf mixed ftCOk (by kernel_rfl) (by first | rfl | kernel_rfl) (by rfl) (by simp) fun L hL => ?_
                      have n10 : L 0 lz1_laws_FnNearOf [(3, .pp 2 0), (4, .v (.int .i64 y_2)), (5, .sl 4), (6, .v (.int .i64 t6)), (62, .v (.bool true))] [.row false (.ints .u8 a0), .glob 0 (.ints .u8 tab0), .box [.v (.int .i64 y), .sl 3], .row true (.trips y_1), .row true (.ints .i64 y_3), .row true (.ints .i64 y_6)] := by
                        exact hL.fin (by kernel_rfl) (hK _ _ Red.auto)
                      have n9 : L 2 lz2_laws_FnNearOf [(3, .pp 2 0), (4, .v (.int .i64 y_2)), (5, .sl 4), (6, .v (.int .i64 t6)), (47, .v (.bool true)), (50, .v (.tuple #[])), (60, .v (.tuple #[]))] [.row false (.ints .u8 a0), .glob 0 (.ints .u8 tab0), .box [.v (.int .i64 y), .sl 3], .row true (.trips y_1), .row true (.ints .i64 y_3), .row true (.ints .i64 y_6)] := by
                        refine hL.step [(31, [32], 0, lz1_laws_FnNearOf)] (by kernel_rfl) ⟨?_, trivial⟩
                        · exact hL.edge n10
                      have n8 : L 14 lz3_laws_FnNearOf [(3, .pp 2 0), (4, .v (.int .i64 y_2)), (5, .sl 4), (6, .v (.int .i64 t6)), (47, .v (.bool true)), (48, .v (.tuple #[]))] [.row false (.ints .u8 a0), .glob 0 (.ints .u8 tab0), .box [.v (.int .i64 y), .sl 3], .row true (.trips y_1), .row true (.ints .i64 y_3), .row true (.ints .i64 y_6)] := by
                        refine hL.step [(19, [20, 21, 22, 23, 24, 26, 27, 28, 25, 29, 30], 2, lz2_laws_FnNearOf)] (by kernel_rfl) ⟨?_, trivial⟩
                        · exact hL.edge n9
                      have n7 : L 18 lz4_laws_FnNearOf [(3, .pp 2 0), (4, .v (.int .i64 y_2)), (5, .sl 4), (6, .v (.int .i64 t6)), (39, .v (.bool true)), (43, .v (.tuple #[])), (44, .v (.tuple #[]))] [.row false (.ints .u8 a0), .glob 0 (.ints .u8 tab0), .box [.v (.int .i64 y), .sl 3], .row true (.trips y_1), .row true (.ints .i64 y_3), .row true (.ints .i64 y_6)] := by
                        refine hL.step [(15, [16, 17, 18], 14, lz3_laws_FnNearOf)] (by kernel_rfl) ⟨?_, trivial⟩
                        · exact hL.edge n8
                      have n6 : L 19 lz5_laws_FnNearOf [(3, .pp 2 0), (4, .v (.int .i64 y_2)), (5, .sl 4), (6, .v (.int .i64 t6)), (39, .v (.bool true)), (42, .v (.tuple #[])), (44, .v (.tuple #[]))] [.row false (.ints .u8 a0), .glob 0 (.ints .u8 tab0), .box [.v (.int .i64 y), .sl 3], .row true (.trips y_1), .row true (.ints .i64 y_3), .row true (.ints .i64 y_6)] := by
                        refine hL.step [(13, [], 18, lz4_laws_FnNearOf)] (by kernel_rfl) ⟨?_, trivial⟩
                        · exact hL.edge n7
                      have n5 : L 20 lz6_laws_FnNearOf [(3, .pp 2 0), (4, .v (.int .i64 y_2)), (5, .sl 4), (6, .v (.int .i64 t6)), (39, .v (.bool true)), (40, .v (.tuple #[])), (41, .v (.tuple #[])), (44, .v (.tuple #[]))] [.row false (.ints .u8 a0), .glob 0 (.ints .u8 tab0), .box [.v (.int .i64 y), .sl 3], .row true (.trips y_1), .row true (.ints .i64 y_3), .row true (.ints .i64 y_6)] := by
                        refine hL.step [(12, [], 19, lz5_laws_FnNearOf)] (by kernel_rfl) ⟨?_, trivial⟩
                        · exact hL.edge n6
                      have n4 : L 26 lz7_laws_FnNearOf [(3, .pp 2 0), (4, .v (.int .i64 y_2)), (5, .sl 4), (6, .v (.int .i64 t6)), (35, .sl 5), (36, .v (.int .i64 y_2))] [.row false (.ints .u8 a0), .glob 0 (.ints .u8 tab0), .box [.v (.int .i64 y), .sl 3], .row true (.trips y_1), .row true (.ints .i64 y_3), .row true (.ints .i64 y_6)] := by
                        refine hL.step [(7, [8, 9, 10, 11, 14], 20, lz6_laws_FnNearOf)] (by kernel_rfl) ⟨?_, trivial⟩
                        · simp (maxSteps := 4000000) only [go_sem, Nat.reduceBEq, Nat.reduceLT, Nat.reduceAdd, Nat.reduceLeDiff, Nat.reduceSub, Nat.reduceEqDiff, Int.reduceToNat, reduceCtorEq, ↓reduceIte]
                          repeat' (first | refine And.intro ?_ ?_ | intro hg)
                          all_goals (try simp (disch := omega) only [wrap_fits])
                          all_goals first
                            | (refine hL.red ?_ n5; exact Red.auto)
                            | exact trivial
                            | assumption
                            | omega
                            | exact wrap_fits (by omega) (by omega)
                            | (refine OpK_callA (k_laws_has y_6 y_2 (h := hr2)) [5] [] ?_
                               rintro x Hc' ⟨rfl, rfl⟩ hlen
                               simp (maxSteps := 4000000) only [go_sem, Nat.reduceBEq, Nat.reduceLT, Nat.reduceAdd, Nat.reduceLeDiff, Nat.reduceSub, Nat.reduceEqDiff, Int.reduceToNat, reduceCtorEq, ↓reduceIte]
                               repeat' (first | refine And.intro ?_ ?_ | intro hg)
                               all_goals (try simp (disch := omega) only [wrap_fits])
                               all_goals first
                                 | (refine hL.red ?_ n5; exact Red.auto)
                                 | exact trivial
                                 | assumption
                                 | omega
                                 | exact wrap_fits (by omega) (by omega)
                                 | (simp_all; done)
                                 | (simp_all; omega))
                            | (simp (maxSteps := 4000000) only [go_sem, Nat.reduceBEq, Nat.reduceLT, Nat.reduceAdd, Nat.reduceLeDiff, Nat.reduceSub, Nat.reduceEqDiff, Int.reduceToNat, reduceCtorEq, ↓reduceIte]
                               repeat' (first | refine And.intro ?_ ?_ | intro hg)
                               all_goals (try simp (disch := omega) only [wrap_fits])
                               all_goals first | (refine hL.red ?_ n5; exact Red.auto) | exact trivial | assumption | omega | exact wrap_fits (by omega) (by omega))
                            | (simp_all; done)
                            | (simp_all; omega)
                      have n3 : L 27 lz8_laws_FnNearOf [(3, .pp 2 0), (4, .v (.int .i64 y_2)), (5, .sl 4), (6, .v (.int .i64 t6)), (30, .agg [.v (.int .i64 y), .sl 3]), (34, .v (.int .i64 (y_3.getD t6.toNat 0))), (36, .v (.int .i64 y_2))] [.row false (.ints .u8 a0), .glob 0 (.ints .u8 tab0), .box [.v (.int .i64 y), .sl 3], .row true (.trips y_1), .row true (.ints .i64 y_3)] := by
                        refine hL.step [(5, [], 26, lz7_laws_FnNearOf)] (by kernel_rfl) ⟨?_, trivial⟩
                        · simp (maxSteps := 4000000) only [go_sem, Nat.reduceBEq, Nat.reduceLT, Nat.reduceAdd, Nat.reduceLeDiff, Nat.reduceSub, Nat.reduceEqDiff, Int.reduceToNat, reduceCtorEq, ↓reduceIte]
                          repeat' (first | refine And.intro ?_ ?_ | intro hg)
                          all_goals (try simp (disch := omega) only [wrap_fits])
                          all_goals first
                            | (refine hL.red ?_ n4; exact Red.auto)
                            | exact trivial
                            | assumption
                            | omega
                            | exact wrap_fits (by omega) (by omega)
                            | (refine OpK_callA (k_impl_NearOf y y_1 (y_3.getD t6.toNat 0) (h := hr1)) [3, 1] [] ?_
                               rintro x Hc' ⟨rfl, rfl⟩ hlen
                               simp (maxSteps := 4000000) only [go_sem, Nat.reduceBEq, Nat.reduceLT, Nat.reduceAdd, Nat.reduceLeDiff, Nat.reduceSub, Nat.reduceEqDiff, Int.reduceToNat, reduceCtorEq, ↓reduceIte]
                               repeat' (first | refine And.intro ?_ ?_ | intro hg)
                               all_goals (try simp (disch := omega) only [wrap_fits])
                               all_goals first
                                 | (refine hL.red ?_ n4; exact Red.auto)
                                 | exact trivial
                                 | assumption
                                 | omega
                                 | exact wrap_fits (by omega) (by omega)
                                 | (simp_all; done)
                                 | (simp_all; omega))
                            | (simp (maxSteps := 4000000) only [go_sem, Nat.reduceBEq, Nat.reduceLT, Nat.reduceAdd, Nat.reduceLeDiff, Nat.reduceSub, Nat.reduceEqDiff, Int.reduceToNat, reduceCtorEq, ↓reduceIte]
                               repeat' (first | refine And.intro ?_ ?_ | intro hg)
                               all_goals (try simp (disch := omega) only [wrap_fits])
                               all_goals first | (refine hL.red ?_ n4; exact Red.auto) | exact trivial | assumption | omega | exact wrap_fits (by omega) (by omega))
                            | (simp_all; done)
                            | (simp_all; omega)
                      have n2 : L 28 lz9_laws_FnNearOf [(3, .pp 2 0), (4, .v (.int .i64 y_2)), (5, .sl 4), (6, .v (.int .i64 t6)), (30, .agg [.v (.int .i64 y), .sl 3]), (33, .ep 4 t6.toNat 1 0), (36, .v (.int .i64 y_2))] [.row false (.ints .u8 a0), .glob 0 (.ints .u8 tab0), .box [.v (.int .i64 y), .sl 3], .row true (.trips y_1), .row true (.ints .i64 y_3)] := by
                        refine hL.step [(4, [], 27, lz8_laws_FnNearOf)] (by kernel_rfl) ⟨?_, trivial⟩
                        · exact hL.edge n3
                      have n1 : L 29 lz10_laws_FnNearOf [(3, .pp 2 0), (4, .v (.int .i64 y_2)), (5, .sl 4), (6, .v (.int .i64 t6)), (30, .agg [.v (.int .i64 y), .sl 3]), (31, .sl 4), (32, .v (.int .i64 t6)), (36, .v (.int .i64 y_2))] [.row false (.ints .u8 a0), .glob 0 (.ints .u8 tab0), .box [.v (.int .i64 y), .sl 3], .row true (.trips y_1), .row true (.ints .i64 y_3)] := by
                        refine hL.step [(3, [], 28, lz9_laws_FnNearOf)] (by kernel_rfl) ⟨?_, trivial⟩
                        · exact hL.edge n2
                      have n12 : L 28 lz11_laws_FnNearOf [(3, .pp 2 0), (4, .v (.int .i64 y_2)), (5, .sl 4), (6, .v (.int .i64 t6)), (34, .v (.int .i64 (y_3.getD t6.toNat 0))), (36, .v (.int .i64 y_2))] [.row false (.ints .u8 a0), .glob 0 (.ints .u8 tab0), .box [.v (.int .i64 y), .sl 3], .row true (.trips y_1), .row true (.ints .i64 y_3)] := by
                        refine hL.step [(0, [], 27, lz8_laws_FnNearOf)] (by kernel_rfl) ⟨?_, trivial⟩
                        · exact hL.edge n3
                      have n11 : L 29 lz12_laws_FnNearOf [(3, .pp 2 0), (4, .v (.int .i64 y_2)), (5, .sl 4), (6, .v (.int .i64 t6)), (33, .ep 4 t6.toNat 1 0), (36, .v (.int .i64 y_2))] [.row false (.ints .u8 a0), .glob 0 (.ints .u8 tab0), .box [.v (.int .i64 y), .sl 3], .row true (.trips y_1), .row true (.ints .i64 y_3)] := by
                        refine hL.step [(0, [], 28, lz9_laws_FnNearOf), (4, [], 28, lz11_laws_FnNearOf)] (by kernel_rfl) ⟨?_, ?_, trivial⟩
                        · exact hL.edge n2
                        · exact hL.edge n12
                      have n0 : L 30 lz0_laws_FnNearOf [(3, .pp 2 0), (4, .v (.int .i64 y_2)), (5, .sl 4), (6, .v (.int .i64 t6)), (31, .sl 4), (32, .v (.int .i64 t6)), (36, .v (.int .i64 y_2))] [.row false (.ints .u8 a0), .glob 0 (.ints .u8 tab0), .box [.v (.int .i64 y), .sl 3], .row true (.trips y_1), .row true (.ints .i64 y_3)] := by
                        refine hL.step [(0, [], 29, lz10_laws_FnNearOf), (3, [], 29, lz12_laws_FnNearOf)] (by kernel_rfl) ⟨?_, ?_, trivial⟩
                        · exact hL.edge n1
                        · exact hL.edge n11
                      simp (maxSteps := 4000000) only [go_sem, Nat.reduceBEq, Nat.reduceLT, Nat.reduceAdd, Nat.reduceLeDiff, Nat.reduceSub, Nat.reduceEqDiff, Int.reduceToNat, reduceCtorEq, ↓reduceIte]
                      repeat' (first | refine And.intro ?_ ?_ | intro hg)
                      all_goals (try simp (disch := omega) only [wrap_fits])
                      all_goals first
                        | (refine hL.red ?_ n0; exact Red.auto)
                        | exact trivial
                        | assumption
                        | omega
                        | exact wrap_fits (by omega) (by omega)
                        | (simp (maxSteps := 4000000) only [go_sem, Nat.reduceBEq, Nat.reduceLT, Nat.reduceAdd, Nat.reduceLeDiff, Nat.reduceSub, Nat.reduceEqDiff, Int.reduceToNat, reduceCtorEq, ↓reduceIte]
                           repeat' (first | refine And.intro ?_ ?_ | intro hg)
                           all_goals (try simp (disch := omega) only [wrap_fits])
                           all_goals first | (refine hL.red ?_ n0; exact Red.auto) | exact trivial | assumption | omega | exact wrap_fits (by omega) (by omega))
                        | (simp_all; done)
                        | (simp_all; omega)
                    · clear hp0 hr1 hr2
                      refine awp_cond (t := 62) rfl (fun _ => ?_) (fun hc => by cases hc)
                      refine awp_reg ftCOk [(2, .v (.bool false))] [.row false (.ints .u8 a0), .glob 0 (.ints .u8 tab0), .box [.v (.int .i64 y), .sl 3], .row true (.trips y_1), .row true (.ints .i64 y_3), .row true (.ints .i64 y_6)] ?_
                      refine awp_ret ?_
                      (try simp only [Thn, InBlk, ↓reduceIte, Nat.reduceEqDiff])
                      obtain rfl := Option.some.inj h
                      refine LoopQ.out rfl ?_
                      exact Red.selA [0, 1] Red.auto
                  · replace h := bite_t h rfl
                    by_cases hb60 : ((y_3.getD t6.toNat 0) == y_2) = true
                    · replace h := bite_t h hb60
                      have hb60d := hb60
                      try simp only [decide_eq_true_eq, decide_eq_false_iff_not, beq_iff_eq, bne_iff_ne, ne_eq, beq_eq_false_iff_ne, bne_eq_false_iff_eq, Bool.not_eq_true', Bool.not_eq_false', Bool.and_eq_true, Bool.or_eq_true, Bool.and_eq_false_iff, Bool.or_eq_false_iff] at hb60d
                      refine awp_to [(3, .pp 2 0), (4, .v (.int .i64 y_2)), (5, .sl 4), (6, .v (.int .i64 t6)), (62, .v (.bool true))] [.row false (.ints .u8 a0), .glob 0 (.ints .u8 tab0), .box [.v (.int .i64 y), .sl 3], .row true (.trips y_1), .row true (.ints .i64 y_3), .row true (.ints .i64 y_6)] ?_ ?_
                      · clear h
                        intro K hK
                        refine awp_drawL [0, 1, 2, 3, 4] [1, 2, 6] 30 lz0_laws_FnNearOf mixed ftCOk (by kernel_rfl) (by first | rfl | kernel_rfl) (by rfl) (by simp) fun L hL => ?_
                        have n9 : L 0 lz1_laws_FnNearOf [(3, .pp 2 0), (4, .v (.int .i64 y_2)), (5, .sl 4), (6, .v (.int .i64 t6)), (62, .v (.bool true))] [.row false (.ints .u8 a0), .glob 0 (.ints .u8 tab0), .box [.v (.int .i64 y), .sl 3], .row true (.trips y_1), .row true (.ints .i64 y_3), .row true (.ints .i64 y_6)] := by
                          exact hL.fin (by kernel_rfl) (hK _ _ Red.auto)
                        have n8 : L 2 lz2_laws_FnNearOf [(3, .pp 2 0), (4, .v (.int .i64 y_2)), (5, .sl 4), (6, .v (.int .i64 t6)), (47, .v (.bool true)), (50, .v (.tuple #[])), (60, .v (.tuple #[]))] [.row false (.ints .u8 a0), .glob 0 (.ints .u8 tab0), .box [.v (.int .i64 y), .sl 3], .row true (.trips y_1), .row true (.ints .i64 y_3), .row true (.ints .i64 y_6)] := by
                          refine hL.step [(31, [32], 0, lz1_laws_FnNearOf)] (by kernel_rfl) ⟨?_, trivial⟩
                          · simp (maxSteps := 4000000) only [go_sem, Nat.reduceBEq, Nat.reduceLT, Nat.reduceAdd, Nat.reduceLeDiff, Nat.reduceSub, Nat.reduceEqDiff, Int.reduceToNat, reduceCtorEq, ↓reduceIte, hb60]
                            repeat' (first | refine And.intro ?_ ?_ | intro hg)
                            all_goals (try simp (disch := omega) only [wrap_fits])
                            all_goals first
                              | (refine hL.red ?_ n9; exact Red.auto)
                              | exact trivial
                              | assumption
                              | omega
                              | exact wrap_fits (by omega) (by omega)
                              | (simp (maxSteps := 4000000) only [go_sem, Nat.reduceBEq, Nat.reduceLT, Nat.reduceAdd, Nat.reduceLeDiff, Nat.reduceSub, Nat.reduceEqDiff, Int.reduceToNat, reduceCtorEq, ↓reduceIte, hb60]
                                 repeat' (first | refine And.intro ?_ ?_ | intro hg)
                                 all_goals (try simp (disch := omega) only [wrap_fits])
                                 all_goals first | (refine hL.red ?_ n9; exact Red.auto) | exact trivial | assumption | omega | exact wrap_fits (by omega) (by omega))
                              | (simp_all; done)
                              | (simp_all; omega)
                        have n7 : L 14 lz3_laws_FnNearOf [(3, .pp 2 0), (4, .v (.int .i64 y_2)), (5, .sl 4), (6, .v (.int .i64 t6)), (47, .v (.bool true)), (48, .v (.tuple #[]))] [.row false (.ints .u8 a0), .glob 0 (.ints .u8 tab0), .box [.v (.int .i64 y), .sl 3], .row true (.trips y_1), .row true (.ints .i64 y_3), .row true (.ints .i64 y_6)] := by
                          refine hL.step [(19, [20, 21, 22, 23, 24, 26, 27, 28, 25, 29, 30], 2, lz2_laws_FnNearOf)] (by kernel_rfl) ⟨?_, trivial⟩
                          · simp (maxSteps := 4000000) only [go_sem, Nat.reduceBEq, Nat.reduceLT, Nat.reduceAdd, Nat.reduceLeDiff, Nat.reduceSub, Nat.reduceEqDiff, Int.reduceToNat, reduceCtorEq, ↓reduceIte, hb60]
                            repeat' (first | refine And.intro ?_ ?_ | intro hg)
                            all_goals (try simp (disch := omega) only [wrap_fits])
                            all_goals first
                              | (refine hL.red ?_ n8; exact Red.auto)
                              | exact trivial
                              | assumption
                              | omega
                              | exact wrap_fits (by omega) (by omega)
                              | (simp (maxSteps := 4000000) only [go_sem, Nat.reduceBEq, Nat.reduceLT, Nat.reduceAdd, Nat.reduceLeDiff, Nat.reduceSub, Nat.reduceEqDiff, Int.reduceToNat, reduceCtorEq, ↓reduceIte, hb60]
                                 repeat' (first | refine And.intro ?_ ?_ | intro hg)
                                 all_goals (try simp (disch := omega) only [wrap_fits])
                                 all_goals first | (refine hL.red ?_ n8; exact Red.auto) | exact trivial | assumption | omega | exact wrap_fits (by omega) (by omega))
                              | (simp_all; done)
                              | (simp_all; omega)
                        have n6 : L 19 lz5_laws_FnNearOf [(3, .pp 2 0), (4, .v (.int .i64 y_2)), (5, .sl 4), (6, .v (.int .i64 t6)), (39, .v (.bool false)), (42, .ep 4 t6.toNat 1 0), (44, .v (.int .i64 y_2))] [.row false (.ints .u8 a0), .glob 0 (.ints .u8 tab0), .box [.v (.int .i64 y), .sl 3], .row true (.trips y_1), .row true (.ints .i64 y_3), .row true (.ints .i64 y_6)] := by
                          refine hL.step [(13, [15, 16, 17, 18], 14, lz3_laws_FnNearOf)] (by kernel_rfl) ⟨?_, trivial⟩
                          · simp (maxSteps := 4000000) only [go_sem, Nat.reduceBEq, Nat.reduceLT, Nat.reduceAdd, Nat.reduceLeDiff, Nat.reduceSub, Nat.reduceEqDiff, Int.reduceToNat, reduceCtorEq, ↓reduceIte, hb60]
                            repeat' (first | refine And.intro ?_ ?_ | intro hg)
                            all_goals (try simp (disch := omega) only [wrap_fits])
                            all_goals first
                              | (refine hL.red ?_ n7; exact Red.auto)
                              | exact trivial
                              | assumption
                              | omega
                              | exact wrap_fits (by omega) (by omega)
                              | (simp (maxSteps := 4000000) only [go_sem, Nat.reduceBEq, Nat.reduceLT, Nat.reduceAdd, Nat.reduceLeDiff, Nat.reduceSub, Nat.reduceEqDiff, Int.reduceToNat, reduceCtorEq, ↓reduceIte, hb60]
                                 repeat' (first | refine And.intro ?_ ?_ | intro hg)
                                 all_goals (try simp (disch := omega) only [wrap_fits])
                                 all_goals first | (refine hL.red ?_ n7; exact Red.auto) | exact trivial | assumption | omega | exact wrap_fits (by omega) (by omega))
                              | (simp_all; done)
                              | (simp_all; omega)
                        have n5 : L 20 lz6_laws_FnNearOf [(3, .pp 2 0), (4, .v (.int .i64 y_2)), (5, .sl 4), (6, .v (.int .i64 t6)), (39, .v (.bool false)), (40, .sl 4), (41, .v (.int .i64 t6)), (44, .v (.int .i64 y_2))] [.row false (.ints .u8 a0), .glob 0 (.ints .u8 tab0), .box [.v (.int .i64 y), .sl 3], .row true (.trips y_1), .row true (.ints .i64 y_3), .row true (.ints .i64 y_6)] := by
                          refine hL.step [(12, [], 19, lz5_laws_FnNearOf)] (by kernel_rfl) ⟨?_, trivial⟩
                          · simp (maxSteps := 4000000) only [go_sem, Nat.reduceBEq, Nat.reduceLT, Nat.reduceAdd, Nat.reduceLeDiff, Nat.reduceSub, Nat.reduceEqDiff, Int.reduceToNat, reduceCtorEq, ↓reduceIte, hb60]
                            repeat' (first | refine And.intro ?_ ?_ | intro hg)
                            all_goals (try simp (disch := omega) only [wrap_fits])
                            all_goals first
                              | (refine hL.red ?_ n6; exact Red.auto)
                              | exact trivial
                              | assumption
                              | omega
                              | exact wrap_fits (by omega) (by omega)
                              | (simp (maxSteps := 4000000) only [go_sem, Nat.reduceBEq, Nat.reduceLT, Nat.reduceAdd, Nat.reduceLeDiff, Nat.reduceSub, Nat.reduceEqDiff, Int.reduceToNat, reduceCtorEq, ↓reduceIte, hb60]
                                 repeat' (first | refine And.intro ?_ ?_ | intro hg)
                                 all_goals (try simp (disch := omega) only [wrap_fits])
                                 all_goals first | (refine hL.red ?_ n6; exact Red.auto) | exact trivial | assumption | omega | exact wrap_fits (by omega) (by omega))
                              | (simp_all; done)
                              | (simp_all; omega)
                        have n4 : L 26 lz7_laws_FnNearOf [(3, .pp 2 0), (4, .v (.int .i64 y_2)), (5, .sl 4), (6, .v (.int .i64 t6)), (35, .sl 5), (36, .v (.int .i64 y_2))] [.row false (.ints .u8 a0), .glob 0 (.ints .u8 tab0), .box [.v (.int .i64 y), .sl 3], .row true (.trips y_1), .row true (.ints .i64 y_3), .row true (.ints .i64 y_6)] := by
                          refine hL.step [(7, [8, 9, 10, 11, 14], 20, lz6_laws_FnNearOf)] (by kernel_rfl) ⟨?_, trivial⟩
                          · simp (maxSteps := 4000000) only [go_sem, Nat.reduceBEq, Nat.reduceLT, Nat.reduceAdd, Nat.reduceLeDiff, Nat.reduceSub, Nat.reduceEqDiff, Int.reduceToNat, reduceCtorEq, ↓reduceIte, hb60]
                            repeat' (first | refine And.intro ?_ ?_ | intro hg)
                            all_goals (try simp (disch := omega) only [wrap_fits])
                            all_goals first
                              | (refine hL.red ?_ n5; exact Red.auto)
                              | exact trivial
                              | assumption
                              | omega
                              | exact wrap_fits (by omega) (by omega)
                              | (refine OpK_callA (k_laws_has y_6 y_2 (h := hr2)) [5] [] ?_
                                 rintro x Hc' ⟨rfl, rfl⟩ hlen
                                 simp (maxSteps := 4000000) only [go_sem, Nat.reduceBEq, Nat.reduceLT, Nat.reduceAdd, Nat.reduceLeDiff, Nat.reduceSub, Nat.reduceEqDiff, Int.reduceToNat, reduceCtorEq, ↓reduceIte, hb60]
                                 repeat' (first | refine And.intro ?_ ?_ | intro hg)
                                 all_goals (try simp (disch := omega) only [wrap_fits])
                                 all_goals first
                                   | (refine hL.red ?_ n5; exact Red.auto)
                                   | exact trivial
                                   | assumption
                                   | omega
                                   | exact wrap_fits (by omega) (by omega)
                                   | (simp_all; done)
                                   | (simp_all; omega))
                              | (simp (maxSteps := 4000000) only [go_sem, Nat.reduceBEq, Nat.reduceLT, Nat.reduceAdd, Nat.reduceLeDiff, Nat.reduceSub, Nat.reduceEqDiff, Int.reduceToNat, reduceCtorEq, ↓reduceIte, hb60]
                                 repeat' (first | refine And.intro ?_ ?_ | intro hg)
                                 all_goals (try simp (disch := omega) only [wrap_fits])
                                 all_goals first | (refine hL.red ?_ n5; exact Red.auto) | exact trivial | assumption | omega | exact wrap_fits (by omega) (by omega))
                              | (simp_all; done)
                              | (simp_all; omega)
                        have n3 : L 27 lz8_laws_FnNearOf [(3, .pp 2 0), (4, .v (.int .i64 y_2)), (5, .sl 4), (6, .v (.int .i64 t6)), (30, .agg [.v (.int .i64 y), .sl 3]), (34, .v (.int .i64 (y_3.getD t6.toNat 0))), (36, .v (.int .i64 y_2))] [.row false (.ints .u8 a0), .glob 0 (.ints .u8 tab0), .box [.v (.int .i64 y), .sl 3], .row true (.trips y_1), .row true (.ints .i64 y_3)] := by
                          refine hL.step [(5, [], 26, lz7_laws_FnNearOf)] (by kernel_rfl) ⟨?_, trivial⟩
                          · simp (maxSteps := 4000000) only [go_sem, Nat.reduceBEq, Nat.reduceLT, Nat.reduceAdd, Nat.reduceLeDiff, Nat.reduceSub, Nat.reduceEqDiff, Int.reduceToNat, reduceCtorEq, ↓reduceIte, hb60]
                            repeat' (first | refine And.intro ?_ ?_ | intro hg)
                            all_goals (try simp (disch := omega) only [wrap_fits])
                            all_goals first
                              | (refine hL.red ?_ n4; exact Red.auto)
                              | exact trivial
                              | assumption
                              | omega
                              | exact wrap_fits (by omega) (by omega)
                              | (refine OpK_callA (k_impl_NearOf y y_1 (y_3.getD t6.toNat 0) (h := hr1)) [3, 1] [] ?_
                                 rintro x Hc' ⟨rfl, rfl⟩ hlen
                                 simp (maxSteps := 4000000) only [go_sem, Nat.reduceBEq, Nat.reduceLT, Nat.reduceAdd, Nat.reduceLeDiff, Nat.reduceSub, Nat.reduceEqDiff, Int.reduceToNat, reduceCtorEq, ↓reduceIte, hb60]
                                 repeat' (first | refine And.intro ?_ ?_ | intro hg)
                                 all_goals (try simp (disch := omega) only [wrap_fits])
                                 all_goals first
                                   | (refine hL.red ?_ n4; exact Red.auto)
                                   | exact trivial
                                   | assumption
                                   | omega
                                   | exact wrap_fits (by omega) (by omega)
                                   | (simp_all; done)
                                   | (simp_all; omega))
                              | (simp (maxSteps := 4000000) only [go_sem, Nat.reduceBEq, Nat.reduceLT, Nat.reduceAdd, Nat.reduceLeDiff, Nat.reduceSub, Nat.reduceEqDiff, Int.reduceToNat, reduceCtorEq, ↓reduceIte, hb60]
                                 repeat' (first | refine And.intro ?_ ?_ | intro hg)
                                 all_goals (try simp (disch := omega) only [wrap_fits])
                                 all_goals first | (refine hL.red ?_ n4; exact Red.auto) | exact trivial | assumption | omega | exact wrap_fits (by omega) (by omega))
                              | (simp_all; done)
                              | (simp_all; omega)
                        have n2 : L 28 lz9_laws_FnNearOf [(3, .pp 2 0), (4, .v (.int .i64 y_2)), (5, .sl 4), (6, .v (.int .i64 t6)), (30, .agg [.v (.int .i64 y), .sl 3]), (33, .ep 4 t6.toNat 1 0), (36, .v (.int .i64 y_2))] [.row false (.ints .u8 a0), .glob 0 (.ints .u8 tab0), .box [.v (.int .i64 y), .sl 3], .row true (.trips y_1), .row true (.ints .i64 y_3)] := by
                          refine hL.step [(4, [], 27, lz8_laws_FnNearOf)] (by kernel_rfl) ⟨?_, trivial⟩
                          · exact hL.edge n3
                        have n1 : L 29 lz10_laws_FnNearOf [(3, .pp 2 0), (4, .v (.int .i64 y_2)), (5, .sl 4), (6, .v (.int .i64 t6)), (30, .agg [.v (.int .i64 y), .sl 3]), (31, .sl 4), (32, .v (.int .i64 t6)), (36, .v (.int .i64 y_2))] [.row false (.ints .u8 a0), .glob 0 (.ints .u8 tab0), .box [.v (.int .i64 y), .sl 3], .row true (.trips y_1), .row true (.ints .i64 y_3)] := by
                          refine hL.step [(3, [], 28, lz9_laws_FnNearOf)] (by kernel_rfl) ⟨?_, trivial⟩
                          · exact hL.edge n2
                        have n11 : L 28 lz11_laws_FnNearOf [(3, .pp 2 0), (4, .v (.int .i64 y_2)), (5, .sl 4), (6, .v (.int .i64 t6)), (34, .v (.int .i64 (y_3.getD t6.toNat 0))), (36, .v (.int .i64 y_2))] [.row false (.ints .u8 a0), .glob 0 (.ints .u8 tab0), .box [.v (.int .i64 y), .sl 3], .row true (.trips y_1), .row true (.ints .i64 y_3)] := by
                          refine hL.step [(0, [], 27, lz8_laws_FnNearOf)] (by kernel_rfl) ⟨?_, trivial⟩
                          · exact hL.edge n3
                        have n10 : L 29 lz12_laws_FnNearOf [(3, .pp 2 0), (4, .v (.int .i64 y_2)), (5, .sl 4), (6, .v (.int .i64 t6)), (33, .ep 4 t6.toNat 1 0), (36, .v (.int .i64 y_2))] [.row false (.ints .u8 a0), .glob 0 (.ints .u8 tab0), .box [.v (.int .i64 y), .sl 3], .row true (.trips y_1), .row true (.ints .i64 y_3)] := by
                          refine hL.step [(0, [], 28, lz9_laws_FnNearOf), (4, [], 28, lz11_laws_FnNearOf)] (by kernel_rfl) ⟨?_, ?_, trivial⟩
                          · exact hL.edge n2
                          · exact hL.edge n11
                        have n0 : L 30 lz0_laws_FnNearOf [(3, .pp 2 0), (4, .v (.int .i64 y_2)), (5, .sl 4), (6, .v (.int .i64 t6)), (31, .sl 4), (32, .v (.int .i64 t6)), (36, .v (.int .i64 y_2))] [.row false (.ints .u8 a0), .glob 0 (.ints .u8 tab0), .box [.v (.int .i64 y), .sl 3], .row true (.trips y_1), .row true (.ints .i64 y_3)] := by
                          refine hL.step [(0, [], 29, lz10_laws_FnNearOf), (3, [], 29, lz12_laws_FnNearOf)] (by kernel_rfl) ⟨?_, ?_, trivial⟩
                          · exact hL.edge n1
                          · exact hL.edge n10
                        simp (maxSteps := 4000000) only [go_sem, Nat.reduceBEq, Nat.reduceLT, Nat.reduceAdd, Nat.reduceLeDiff, Nat.reduceSub, Nat.reduceEqDiff, Int.reduceToNat, reduceCtorEq, ↓reduceIte, hb60]
                        repeat' (first | refine And.intro ?_ ?_ | intro hg)
                        all_goals (try simp (disch := omega) only [wrap_fits])
                        all_goals first
                          | (refine hL.red ?_ n0; exact Red.auto)
                          | exact trivial
                          | assumption
                          | omega
                          | exact wrap_fits (by omega) (by omega)
                          | (simp (maxSteps := 4000000) only [go_sem, Nat.reduceBEq, Nat.reduceLT, Nat.reduceAdd, Nat.reduceLeDiff, Nat.reduceSub, Nat.reduceEqDiff, Int.reduceToNat, reduceCtorEq, ↓reduceIte, hb60]
                             repeat' (first | refine And.intro ?_ ?_ | intro hg)
                             all_goals (try simp (disch := omega) only [wrap_fits])
                             all_goals first | (refine hL.red ?_ n0; exact Red.auto) | exact trivial | assumption | omega | exact wrap_fits (by omega) (by omega))
                          | (simp_all; done)
                          | (simp_all; omega)
                      · clear hp0 hr1 hr2
                        refine awp_cond (t := 62) rfl (fun _ => ?_) (fun hc => by cases hc)
                        refine awp_reg ftCOk [(2, .v (.bool false))] [.row false (.ints .u8 a0), .glob 0 (.ints .u8 tab0), .box [.v (.int .i64 y), .sl 3], .row true (.trips y_1), .row true (.ints .i64 y_3), .row true (.ints .i64 y_6)] ?_
                        refine awp_ret ?_
                        (try simp only [Thn, InBlk, ↓reduceIte, Nat.reduceEqDiff])
                        obtain rfl := Option.some.inj h
                        refine LoopQ.out rfl ?_
                        exact Red.selA [0, 1] Red.auto
                    · rw [Bool.not_eq_true] at hb60
                      replace h := bite_f h hb60
                      have hb60d := hb60
                      try simp only [decide_eq_true_eq, decide_eq_false_iff_not, beq_iff_eq, bne_iff_ne, ne_eq, beq_eq_false_iff_ne, bne_eq_false_iff_eq, Bool.not_eq_true', Bool.not_eq_false', Bool.and_eq_true, Bool.or_eq_true, Bool.and_eq_false_iff, Bool.or_eq_false_iff] at hb60d
                      by_cases hb61 : (decide (0 < t6)) = true
                      · replace h := bite_t h hb61
                        have hb61d := hb61
                        try simp only [decide_eq_true_eq, decide_eq_false_iff_not, beq_iff_eq, bne_iff_ne, ne_eq, beq_eq_false_iff_ne, bne_eq_false_iff_eq, Bool.not_eq_true', Bool.not_eq_false', Bool.and_eq_true, Bool.or_eq_true, Bool.and_eq_false_iff, Bool.or_eq_false_iff] at hb61d
                        replace h := chk_some h
                        obtain ⟨hp3, h⟩ := h
                        have hwhp3 := wrap_fits hp3.1 hp3.2
                        replace h := chk_some h
                        obtain ⟨hp4, h⟩ := h
                        refine awp_to [(3, .pp 2 0), (4, .v (.int .i64 y_2)), (5, .sl 4), (6, .v (.int .i64 t6)), (62, .v (.bool (decide ((y_3.getD t6.toNat 0) ≤ (y_3.getD ((t6 - 1).toNat) 0)))))] [.row false (.ints .u8 a0), .glob 0 (.ints .u8 tab0), .box [.v (.int .i64 y), .sl 3], .row true (.trips y_1), .row true (.ints .i64 y_3), .row true (.ints .i64 y_6)] ?_ ?_
                        · clear h
                          intro K hK
                          refine awp_drawL [0, 1, 2, 3, 4] [1, 2, 6] 30 lz0_laws_FnNearOf mixed ftCOk (by kernel_rfl) (by first | rfl | kernel_rfl) (by rfl) (by simp) fun L hL => ?_
                          have n11 : L 0 lz1_laws_FnNearOf [(3, .pp 2 0), (4, .v (.int .i64 y_2)), (5, .sl 4), (6, .v (.int .i64 t6)), (62, .v (.bool (decide ((y_3.getD t6.toNat 0) ≤ (y_3.getD ((t6 - 1).toNat) 0)))))] [.row false (.ints .u8 a0), .glob 0 (.ints .u8 tab0), .box [.v (.int .i64 y), .sl 3], .row true (.trips y_1), .row true (.ints .i64 y_3), .row true (.ints .i64 y_6)] := by
                            exact hL.fin (by kernel_rfl) (hK _ _ Red.auto)
                          have n10 : L 4 lz14_laws_FnNearOf [(3, .pp 2 0), (4, .v (.int .i64 y_2)), (5, .sl 4), (6, .v (.int .i64 t6)), (47, .v (.bool false)), (50, .v (.bool true)), (55, .v (.int .i64 (y_3.getD ((t6 - 1).toNat) 0))), (58, .ep 4 t6.toNat 1 0)] [.row false (.ints .u8 a0), .glob 0 (.ints .u8 tab0), .box [.v (.int .i64 y), .sl 3], .row true (.trips y_1), .row true (.ints .i64 y_3), .row true (.ints .i64 y_6)] := by
                            refine hL.step [(29, [30, 31, 32], 0, lz1_laws_FnNearOf)] (by kernel_rfl) ⟨?_, trivial⟩
                            · simp (maxSteps := 4000000) only [go_sem, Nat.reduceBEq, Nat.reduceLT, Nat.reduceAdd, Nat.reduceLeDiff, Nat.reduceSub, Nat.reduceEqDiff, Int.reduceToNat, reduceCtorEq, ↓reduceIte, hb60, hb61, hb61d]
                              repeat' (first | refine And.intro ?_ ?_ | intro hg)
                              all_goals (try simp (disch := omega) only [wrap_fits])
                              all_goals first
                                | (refine hL.red ?_ n11; exact Red.auto)
                                | exact trivial
                                | assumption
                                | omega
                                | exact wrap_fits (by omega) (by omega)
                                | (simp (maxSteps := 4000000) only [go_sem, Nat.reduceBEq, Nat.reduceLT, Nat.reduceAdd, Nat.reduceLeDiff, Nat.reduceSub, Nat.reduceEqDiff, Int.reduceToNat, reduceCtorEq, ↓reduceIte, hb60, hb61, hb61d]
                                   repeat' (first | refine And.intro ?_ ?_ | intro hg)
                                   all_goals (try simp (disch := omega) only [wrap_fits])
                                   all_goals first | (refine hL.red ?_ n11; exact Red.auto) | exact trivial | assumption | omega | exact wrap_fits (by omega) (by omega))
                                | (simp_all; done)
                                | (simp_all; omega)
                          have n9 : L 5 lz15_laws_FnNearOf [(3, .pp 2 0), (4, .v (.int .i64 y_2)), (5, .sl 4), (6, .v (.int .i64 t6)), (47, .v (.bool false)), (50, .v (.bool true)), (55, .v (.int .i64 (y_3.getD ((t6 - 1).toNat) 0))), (56, .sl 4), (57, .v (.int .i64 t6))] [.row false (.ints .u8 a0), .glob 0 (.ints .u8 tab0), .box [.v (.int .i64 y), .sl 3], .row true (.trips y_1), .row true (.ints .i64 y_3), .row true (.ints .i64 y_6)] := by
                            refine hL.step [(28, [], 4, lz14_laws_FnNearOf)] (by kernel_rfl) ⟨?_, trivial⟩
                            · simp (maxSteps := 4000000) only [go_sem, Nat.reduceBEq, Nat.reduceLT, Nat.reduceAdd, Nat.reduceLeDiff, Nat.reduceSub, Nat.reduceEqDiff, Int.reduceToNat, reduceCtorEq, ↓reduceIte, hb60, hb61, hb61d]
                              repeat' (first | refine And.intro ?_ ?_ | intro hg)
                              all_goals (try simp (disch := omega) only [wrap_fits])
                              all_goals first
                                | (refine hL.red ?_ n10; exact Red.auto)
                                | exact trivial
                                | assumption
                                | omega
                                | exact wrap_fits (by omega) (by omega)
                                | (simp (maxSteps := 4000000) only [go_sem, Nat.reduceBEq, Nat.reduceLT, Nat.reduceAdd, Nat.reduceLeDiff, Nat.reduceSub, Nat.reduceEqDiff, Int.reduceToNat, reduceCtorEq, ↓reduceIte, hb60, hb61, hb61d]
                                   repeat' (first | refine And.intro ?_ ?_ | intro hg)
                                   all_goals (try simp (disch := omega) only [wrap_fits])
                                   all_goals first | (refine hL.red ?_ n10; exact Red.auto) | exact trivial | assumption | omega | exact wrap_fits (by omega) (by omega))
                                | (simp_all; done)
                                | (simp_all; omega)
                          have n13 : L 4 lz16_laws_FnNearOf [(3, .pp 2 0), (4, .v (.int .i64 y_2)), (5, .sl 4), (6, .v (.int .i64 t6)), (47, .v (.bool false)), (50, .v (.bool true)), (54, .ep 4 ((t6 - 1).toNat) 1 0), (59, .v (.int .i64 (y_3.getD t6.toNat 0)))] [.row false (.ints .u8 a0), .glob 0 (.ints .u8 tab0), .box [.v (.int .i64 y), .sl 3], .row true (.trips y_1), .row true (.ints .i64 y_3), .row true (.ints .i64 y_6)] := by
                            refine hL.step [(25, [30, 31, 32], 0, lz1_laws_FnNearOf)] (by kernel_rfl) ⟨?_, trivial⟩
                            · simp (maxSteps := 4000000) only [go_sem, Nat.reduceBEq, Nat.reduceLT, Nat.reduceAdd, Nat.reduceLeDiff, Nat.reduceSub, Nat.reduceEqDiff, Int.reduceToNat, reduceCtorEq, ↓reduceIte, hb60, hb61, hb61d]
                              repeat' (first | refine And.intro ?_ ?_ | intro hg)
                              all_goals (try simp (disch := omega) only [wrap_fits])
                              all_goals first
                                | (refine hL.red ?_ n11; exact Red.auto)
                                | exact trivial
                                | assumption
                                | omega
                                | exact wrap_fits (by omega) (by omega)
                                | (simp (maxSteps := 4000000) only [go_sem, Nat.reduceBEq, Nat.reduceLT, Nat.reduceAdd, Nat.reduceLeDiff, Nat.reduceSub, Nat.reduceEqDiff, Int.reduceToNat, reduceCtorEq, ↓reduceIte, hb60, hb61, hb61d]
                                   repeat' (first | refine And.intro ?_ ?_ | intro hg)
                                   all_goals (try simp (disch := omega) only [wrap_fits])
                                   all_goals first | (refine hL.red ?_ n11; exact Red.auto) | exact trivial | assumption | omega | exact wrap_fits (by omega) (by omega))
                                | (simp_all; done)
                                | (simp_all; omega)
                          have n12 : L 5 lz17_laws_FnNearOf [(3, .pp 2 0), (4, .v (.int .i64 y_2)), (5, .sl 4), (6, .v (.int .i64 t6)), (47, .v (.bool false)), (50, .v (.bool true)), (54, .ep 4 ((t6 - 1).toNat) 1 0), (58, .ep 4 t6.toNat 1 0)] [.row false (.ints .u8 a0), .glob 0 (.ints .u8 tab0), .box [.v (.int .i64 y), .sl 3], .row true (.trips y_1), .row true (.ints .i64 y_3), .row true (.ints .i64 y_6)] := by
                            refine hL.step [(25, [], 4, lz14_laws_FnNearOf), (29, [], 4, lz16_laws_FnNearOf)] (by kernel_rfl) ⟨?_, ?_, trivial⟩
                            · simp (maxSteps := 4000000) only [go_sem, Nat.reduceBEq, Nat.reduceLT, Nat.reduceAdd, Nat.reduceLeDiff, Nat.reduceSub, Nat.reduceEqDiff, Int.reduceToNat, reduceCtorEq, ↓reduceIte, hb60, hb61, hb61d]
                              repeat' (first | refine And.intro ?_ ?_ | intro hg)
                              all_goals (try simp (disch := omega) only [wrap_fits])
                              all_goals first
                                | (refine hL.red ?_ n10; exact Red.auto)
                                | exact trivial
                                | assumption
                                | omega
                                | exact wrap_fits (by omega) (by omega)
                                | (simp (maxSteps := 4000000) only [go_sem, Nat.reduceBEq, Nat.reduceLT, Nat.reduceAdd, Nat.reduceLeDiff, Nat.reduceSub, Nat.reduceEqDiff, Int.reduceToNat, reduceCtorEq, ↓reduceIte, hb60, hb61, hb61d]
                                   repeat' (first | refine And.intro ?_ ?_ | intro hg)
                                   all_goals (try simp (disch := omega) only [wrap_fits])
                                   all_goals first | (refine hL.red ?_ n10; exact Red.auto) | exact trivial | assumption | omega | exact wrap_fits (by omega) (by omega))
                                | (simp_all; done)
                                | (simp_all; omega)
                            · simp (maxSteps := 4000000) only [go_sem, Nat.reduceBEq, Nat.reduceLT, Nat.reduceAdd, Nat.reduceLeDiff, Nat.reduceSub, Nat.reduceEqDiff, Int.reduceToNat, reduceCtorEq, ↓reduceIte, hb60, hb61, hb61d]
                              repeat' (first | refine And.intro ?_ ?_ | intro hg)
                              all_goals (try simp (disch := omega) only [wrap_fits])
                              all_goals first
                                | (refine hL.red ?_ n13; exact Red.auto)
                                | exact trivial
                                | assumption
                                | omega
                                | exact wrap_fits (by omega) (by omega)
                                | (simp (maxSteps := 4000000) only [go_sem, Nat.reduceBEq, Nat.reduceLT, Nat.reduceAdd, Nat.reduceLeDiff, Nat.reduceSub, Nat.reduceEqDiff, Int.reduceToNat, reduceCtorEq, ↓reduceIte, hb60, hb61, hb61d]
                                   repeat' (first | refine And.intro ?_ ?_ | intro hg)
                                   all_goals (try simp (disch := omega) only [wrap_fits])
                                   all_goals first | (refine hL.red ?_ n13; exact Red.auto) | exact trivial | assumption | omega | exact wrap_fits (by omega) (by omega))
                                | (simp_all; done)
                                | (simp_all; omega)
                          have n8 : L 6 lz18_laws_FnNearOf [(3, .pp 2 0), (4, .v (.int .i64 y_2)), (5, .sl 4), (6, .v (.int .i64 t6)), (47, .v (.bool false)), (50, .v (.bool true)), (54, .ep 4 ((t6 - 1).toNat) 1 0), (56, .sl 4), (57, .v (.int .i64 t6))] [.row false (.ints .u8 a0), .glob 0 (.ints .u8 tab0), .box [.v (.int .i64 y), .sl 3], .row true (.trips y_1), .row true (.ints .i64 y_3), .row true (.ints .i64 y_6)] := by
                            refine hL.step [(25, [], 5, lz15_laws_FnNearOf), (28, [], 5, lz17_laws_FnNearOf)] (by kernel_rfl) ⟨?_, ?_, trivial⟩
                            · simp (maxSteps := 4000000) only [go_sem, Nat.reduceBEq, Nat.reduceLT, Nat.reduceAdd, Nat.reduceLeDiff, Nat.reduceSub, Nat.reduceEqDiff, Int.reduceToNat, reduceCtorEq, ↓reduceIte, hb60, hb61, hb61d]
                              repeat' (first | refine And.intro ?_ ?_ | intro hg)
                              all_goals (try simp (disch := omega) only [wrap_fits])
                              all_goals first
                                | (refine hL.red ?_ n9; exact Red.auto)
                                | exact trivial
                                | assumption
                                | omega
                                | exact wrap_fits (by omega) (by omega)
                                | (simp (maxSteps := 4000000) only [go_sem, Nat.reduceBEq, Nat.reduceLT, Nat.reduceAdd, Nat.reduceLeDiff, Nat.reduceSub, Nat.reduceEqDiff, Int.reduceToNat, reduceCtorEq, ↓reduceIte, hb60, hb61, hb61d]
                                   repeat' (first | refine And.intro ?_ ?_ | intro hg)
                                   all_goals (try simp (disch := omega) only [wrap_fits])
                                   all_goals first | (refine hL.red ?_ n9; exact Red.auto) | exact trivial | assumption | omega | exact wrap_fits (by omega) (by omega))
                                | (simp_all; done)
                                | (simp_all; omega)
                            · simp (maxSteps := 4000000) only [go_sem, Nat.reduceBEq, Nat.reduceLT, Nat.reduceAdd, Nat.reduceLeDiff, Nat.reduceSub, Nat.reduceEqDiff, Int.reduceToNat, reduceCtorEq, ↓reduceIte, hb60, hb61, hb61d]
                              repeat' (first | refine And.intro ?_ ?_ | intro hg)
                              all_goals (try simp (disch := omega) only [wrap_fits])
                              all_goals first
                                | (refine hL.red ?_ n12; exact Red.auto)
                                | exact trivial
                                | assumption
                                | omega
                                | exact wrap_fits (by omega) (by omega)
                                | (simp (maxSteps := 4000000) only [go_sem, Nat.reduceBEq, Nat.reduceLT, Nat.reduceAdd, Nat.reduceLeDiff, Nat.reduceSub, Nat.reduceEqDiff, Int.reduceToNat, reduceCtorEq, ↓reduceIte, hb60, hb61, hb61d]
                                   repeat' (first | refine And.intro ?_ ?_ | intro hg)
                                   all_goals (try simp (disch := omega) only [wrap_fits])
                                   all_goals first | (refine hL.red ?_ n12; exact Red.auto) | exact trivial | assumption | omega | exact wrap_fits (by omega) (by omega))
                                | (simp_all; done)
                                | (simp_all; omega)
                          have n15 : L 5 lz19_laws_FnNearOf [(3, .pp 2 0), (4, .v (.int .i64 y_2)), (5, .sl 4), (6, .v (.int .i64 t6)), (47, .v (.bool false)), (50, .v (.bool true)), (51, .sl 4), (53, .v (.int .i64 (t6 - 1))), (59, .v (.int .i64 (y_3.getD t6.toNat 0)))] [.row false (.ints .u8 a0), .glob 0 (.ints .u8 tab0), .box [.v (.int .i64 y), .sl 3], .row true (.trips y_1), .row true (.ints .i64 y_3), .row true (.ints .i64 y_6)] := by
                            refine hL.step [(24, [], 4, lz16_laws_FnNearOf)] (by kernel_rfl) ⟨?_, trivial⟩
                            · simp (maxSteps := 4000000) only [go_sem, Nat.reduceBEq, Nat.reduceLT, Nat.reduceAdd, Nat.reduceLeDiff, Nat.reduceSub, Nat.reduceEqDiff, Int.reduceToNat, reduceCtorEq, ↓reduceIte, hb60, hb61, hb61d]
                              repeat' (first | refine And.intro ?_ ?_ | intro hg)
                              all_goals (try simp (disch := omega) only [wrap_fits])
                              all_goals first
                                | (refine hL.red ?_ n13; exact Red.auto)
                                | exact trivial
                                | assumption
                                | omega
                                | exact wrap_fits (by omega) (by omega)
                                | (simp (maxSteps := 4000000) only [go_sem, Nat.reduceBEq, Nat.reduceLT, Nat.reduceAdd, Nat.reduceLeDiff, Nat.reduceSub, Nat.reduceEqDiff, Int.reduceToNat, reduceCtorEq, ↓reduceIte, hb60, hb61, hb61d]
                                   repeat' (first | refine And.intro ?_ ?_ | intro hg)
                                   all_goals (try simp (disch := omega) only [wrap_fits])
                                   all_goals first | (refine hL.red ?_ n13; exact Red.auto) | exact trivial | assumption | omega | exact wrap_fits (by omega) (by omega))
                                | (simp_all; done)
                                | (simp_all; omega)
                          have n14 : L 6 lz20_laws_FnNearOf [(3, .pp 2 0), (4, .v (.int .i64 y_2)), (5, .sl 4), (6, .v (.int .i64 t6)), (47, .v (.bool false)), (50, .v (.bool true)), (51, .sl 4), (53, .v (.int .i64 (t6 - 1))), (58, .ep 4 t6.toNat 1 0)] [.row false (.ints .u8 a0), .glob 0 (.ints .u8 tab0), .box [.v (.int .i64 y), .sl 3], .row true (.trips y_1), .row true (.ints .i64 y_3), .row true (.ints .i64 y_6)] := by
                            refine hL.step [(24, [], 5, lz17_laws_FnNearOf), (29, [], 5, lz19_laws_FnNearOf)] (by kernel_rfl) ⟨?_, ?_, trivial⟩
                            · simp (maxSteps := 4000000) only [go_sem, Nat.reduceBEq, Nat.reduceLT, Nat.reduceAdd, Nat.reduceLeDiff, Nat.reduceSub, Nat.reduceEqDiff, Int.reduceToNat, reduceCtorEq, ↓reduceIte, hb60, hb61, hb61d]
                              repeat' (first | refine And.intro ?_ ?_ | intro hg)
                              all_goals (try simp (disch := omega) only [wrap_fits])
                              all_goals first
                                | (refine hL.red ?_ n12; exact Red.auto)
                                | exact trivial
                                | assumption
                                | omega
                                | exact wrap_fits (by omega) (by omega)
                                | (simp (maxSteps := 4000000) only [go_sem, Nat.reduceBEq, Nat.reduceLT, Nat.reduceAdd, Nat.reduceLeDiff, Nat.reduceSub, Nat.reduceEqDiff, Int.reduceToNat, reduceCtorEq, ↓reduceIte, hb60, hb61, hb61d]
                                   repeat' (first | refine And.intro ?_ ?_ | intro hg)
                                   all_goals (try simp (disch := omega) only [wrap_fits])
                                   all_goals first | (refine hL.red ?_ n12; exact Red.auto) | exact trivial | assumption | omega | exact wrap_fits (by omega) (by omega))
                                | (simp_all; done)
                                | (simp_all; omega)
                            · simp (maxSteps := 4000000) only [go_sem, Nat.reduceBEq, Nat.reduceLT, Nat.reduceAdd, Nat.reduceLeDiff, Nat.reduceSub, Nat.reduceEqDiff, Int.reduceToNat, reduceCtorEq, ↓reduceIte, hb60, hb61, hb61d]
                              repeat' (first | refine And.intro ?_ ?_ | intro hg)
                              all_goals (try simp (disch := omega) only [wrap_fits])
                              all_goals first
                                | (refine hL.red ?_ n15; exact Red.auto)
                                | exact trivial
                                | assumption
                                | omega
                                | exact wrap_fits (by omega) (by omega)
                                | (simp (maxSteps := 4000000) only [go_sem, Nat.reduceBEq, Nat.reduceLT, Nat.reduceAdd, Nat.reduceLeDiff, Nat.reduceSub, Nat.reduceEqDiff, Int.reduceToNat, reduceCtorEq, ↓reduceIte, hb60, hb61, hb61d]
                                   repeat' (first | refine And.intro ?_ ?_ | intro hg)
                                   all_goals (try simp (disch := omega) only [wrap_fits])
                                   all_goals first | (refine hL.red ?_ n15; exact Red.auto) | exact trivial | assumption | omega | exact wrap_fits (by omega) (by omega))
                                | (simp_all; done)
                                | (simp_all; omega)
                          have n7 : L 7 lz21_laws_FnNearOf [(3, .pp 2 0), (4, .v (.int .i64 y_2)), (5, .sl 4), (6, .v (.int .i64 t6)), (47, .v (.bool false)), (50, .v (.bool true)), (51, .sl 4), (53, .v (.int .i64 (t6 - 1))), (56, .sl 4), (57, .v (.int .i64 t6))] [.row false (.ints .u8 a0), .glob 0 (.ints .u8 tab0), .box [.v (.int .i64 y), .sl 3], .row true (.trips y_1), .row true (.ints .i64 y_3), .row true (.ints .i64 y_6)] := by
                            refine hL.step [(24, [], 6, lz18_laws_FnNearOf), (28, [], 6, lz20_laws_FnNearOf)] (by kernel_rfl) ⟨?_, ?_, trivial⟩
                            · simp (maxSteps := 4000000) only [go_sem, Nat.reduceBEq, Nat.reduceLT, Nat.reduceAdd, Nat.reduceLeDiff, Nat.reduceSub, Nat.reduceEqDiff, Int.reduceToNat, reduceCtorEq, ↓reduceIte, hb60, hb61, hb61d]
                              repeat' (first | refine And.intro ?_ ?_ | intro hg)
                              all_goals (try simp (disch := omega) only [wrap_fits])
                              all_goals first
                                | (refine hL.red ?_ n8; exact Red.auto)
                                | exact trivial
                                | assumption
                                | omega
                                | exact wrap_fits (by omega) (by omega)
                                | (simp (maxSteps := 4000000) only [go_sem, Nat.reduceBEq, Nat.reduceLT, Nat.reduceAdd, Nat.reduceLeDiff, Nat.reduceSub, Nat.reduceEqDiff, Int.reduceToNat, reduceCtorEq, ↓reduceIte, hb60, hb61, hb61d]
                                   repeat' (first | refine And.intro ?_ ?_ | intro hg)
                                   all_goals (try simp (disch := omega) only [wrap_fits])
                                   all_goals first | (refine hL.red ?_ n8; exact Red.auto) | exact trivial | assumption | omega | exact wrap_fits (by omega) (by omega))
                                | (simp_all; done)
                                | (simp_all; omega)
                            · simp (maxSteps := 4000000) only [go_sem, Nat.reduceBEq, Nat.reduceLT, Nat.reduceAdd, Nat.reduceLeDiff, Nat.reduceSub, Nat.reduceEqDiff, Int.reduceToNat, reduceCtorEq, ↓reduceIte, hb60, hb61, hb61d]
                              repeat' (first | refine And.intro ?_ ?_ | intro hg)
                              all_goals (try simp (disch := omega) only [wrap_fits])
                              all_goals first
                                | (refine hL.red ?_ n14; exact Red.auto)
                                | exact trivial
                                | assumption
                                | omega
                                | exact wrap_fits (by omega) (by omega)
                                | (simp (maxSteps := 4000000) only [go_sem, Nat.reduceBEq, Nat.reduceLT, Nat.reduceAdd, Nat.reduceLeDiff, Nat.reduceSub, Nat.reduceEqDiff, Int.reduceToNat, reduceCtorEq, ↓reduceIte, hb60, hb61, hb61d]
                                   repeat' (first | refine And.intro ?_ ?_ | intro hg)
                                   all_goals (try simp (disch := omega) only [wrap_fits])
                                   all_goals first | (refine hL.red ?_ n14; exact Red.auto) | exact trivial | assumption | omega | exact wrap_fits (by omega) (by omega))
                                | (simp_all; done)
                                | (simp_all; omega)
                          have n6 : L 19 lz5_laws_FnNearOf [(3, .pp 2 0), (4, .v (.int .i64 y_2)), (5, .sl 4), (6, .v (.int .i64 t6)), (39, .v (.bool false)), (42, .ep 4 t6.toNat 1 0), (44, .v (.int .i64 y_2))] [.row false (.ints .u8 a0), .glob 0 (.ints .u8 tab0), .box [.v (.int .i64 y), .sl 3], .row true (.trips y_1), .row true (.ints .i64 y_3), .row true (.ints .i64 y_6)] := by
                            refine hL.step [(13, [15, 16, 17, 18, 19, 20, 21, 22, 23, 26, 27], 7, lz21_laws_FnNearOf)] (by kernel_rfl) ⟨?_, trivial⟩
                            · simp (maxSteps := 4000000) only [go_sem, Nat.reduceBEq, Nat.reduceLT, Nat.reduceAdd, Nat.reduceLeDiff, Nat.reduceSub, Nat.reduceEqDiff, Int.reduceToNat, reduceCtorEq, ↓reduceIte, hb60, hb61, hb61d]
                              repeat' (first | refine And.intro ?_ ?_ | intro hg)
                              all_goals (try simp (disch := omega) only [wrap_fits])
                              all_goals first
                                | (refine hL.red ?_ n7; exact Red.auto)
                                | exact trivial
                                | assumption
                                | omega
                                | exact wrap_fits (by omega) (by omega)
                                | (simp (maxSteps := 4000000) only [go_sem, Nat.reduceBEq, Nat.reduceLT, Nat.reduceAdd, Nat.reduceLeDiff, Nat.reduceSub, Nat.reduceEqDiff, Int.reduceToNat, reduceCtorEq, ↓reduceIte, hb60, hb61, hb61d]
                                   repeat' (first | refine And.intro ?_ ?_ | intro hg)
                                   all_goals (try simp (disch := omega) only [wrap_fits])
                                   all_goals first | (refine hL.red ?_ n7; exact Red.auto) | exact trivial | assumption | omega | exact wrap_fits (by omega) (by omega))
                                | (simp_all; done)
                                | (simp_all; omega)
                          have n5 : L 20 lz6_laws_FnNearOf [(3, .pp 2 0), (4, .v (.int .i64 y_2)), (5, .sl 4), (6, .v (.int .i64 t6)), (39, .v (.bool false)), (40, .sl 4), (41, .v (.int .i64 t6)), (44, .v (.int .i64 y_2))] [.row false (.ints .u8 a0), .glob 0 (.ints .u8 tab0), .box [.v (.int .i64 y), .sl 3], .row true (.trips y_1), .row true (.ints .i64 y_3), .row true (.ints .i64 y_6)] := by
                            refine hL.step [(12, [], 19, lz5_laws_FnNearOf)] (by kernel_rfl) ⟨?_, trivial⟩
                            · simp (maxSteps := 4000000) only [go_sem, Nat.reduceBEq, Nat.reduceLT, Nat.reduceAdd, Nat.reduceLeDiff, Nat.reduceSub, Nat.reduceEqDiff, Int.reduceToNat, reduceCtorEq, ↓reduceIte, hb60, hb61, hb61d]
                              repeat' (first | refine And.intro ?_ ?_ | intro hg)
                              all_goals (try simp (disch := omega) only [wrap_fits])
                              all_goals first
                                | (refine hL.red ?_ n6; exact Red.auto)
                                | exact trivial
                                | assumption
                                | omega
                                | exact wrap_fits (by omega) (by omega)
                                | (simp (maxSteps := 4000000) only [go_sem, Nat.reduceBEq, Nat.reduceLT, Nat.reduceAdd, Nat.reduceLeDiff, Nat.reduceSub, Nat.reduceEqDiff, Int.reduceToNat, reduceCtorEq, ↓reduceIte, hb60, hb61, hb61d]
                                   repeat' (first | refine And.intro ?_ ?_ | intro hg)
                                   all_goals (try simp (disch := omega) only [wrap_fits])
                                   all_goals first | (refine hL.red ?_ n6; exact Red.auto) | exact trivial | assumption | omega | exact wrap_fits (by omega) (by omega))
                                | (simp_all; done)
                                | (simp_all; omega)
                          have n4 : L 26 lz7_laws_FnNearOf [(3, .pp 2 0), (4, .v (.int .i64 y_2)), (5, .sl 4), (6, .v (.int .i64 t6)), (35, .sl 5), (36, .v (.int .i64 y_2))] [.row false (.ints .u8 a0), .glob 0 (.ints .u8 tab0), .box [.v (.int .i64 y), .sl 3], .row true (.trips y_1), .row true (.ints .i64 y_3), .row true (.ints .i64 y_6)] := by
                            refine hL.step [(7, [8, 9, 10, 11, 14], 20, lz6_laws_FnNearOf)] (by kernel_rfl) ⟨?_, trivial⟩
                            · simp (maxSteps := 4000000) only [go_sem, Nat.reduceBEq, Nat.reduceLT, Nat.reduceAdd, Nat.reduceLeDiff, Nat.reduceSub, Nat.reduceEqDiff, Int.reduceToNat, reduceCtorEq, ↓reduceIte, hb60, hb61, hb61d]
                              repeat' (first | refine And.intro ?_ ?_ | intro hg)
                              all_goals (try simp (disch := omega) only [wrap_fits])
                              all_goals first
                                | (refine hL.red ?_ n5; exact Red.auto)
                                | exact trivial
                                | assumption
                                | omega
                                | exact wrap_fits (by omega) (by omega)
                                | (refine OpK_callA (k_laws_has y_6 y_2 (h := hr2)) [5] [] ?_
                                   rintro x Hc' ⟨rfl, rfl⟩ hlen
                                   simp (maxSteps := 4000000) only [go_sem, Nat.reduceBEq, Nat.reduceLT, Nat.reduceAdd, Nat.reduceLeDiff, Nat.reduceSub, Nat.reduceEqDiff, Int.reduceToNat, reduceCtorEq, ↓reduceIte, hb60, hb61, hb61d]
                                   repeat' (first | refine And.intro ?_ ?_ | intro hg)
                                   all_goals (try simp (disch := omega) only [wrap_fits])
                                   all_goals first
                                     | (refine hL.red ?_ n5; exact Red.auto)
                                     | exact trivial
                                     | assumption
                                     | omega
                                     | exact wrap_fits (by omega) (by omega)
                                     | (simp_all; done)
                                     | (simp_all; omega))
                                | (simp (maxSteps := 4000000) only [go_sem, Nat.reduceBEq, Nat.reduceLT, Nat.reduceAdd, Nat.reduceLeDiff, Nat.reduceSub, Nat.reduceEqDiff, Int.reduceToNat, reduceCtorEq, ↓reduceIte, hb60, hb61, hb61d]
                                   repeat' (first | refine And.intro ?_ ?_ | intro hg)
                                   all_goals (try simp (disch := omega) only [wrap_fits])
                                   all_goals first | (refine hL.red ?_ n5; exact Red.auto) | exact trivial | assumption | omega | exact wrap_fits (by omega) (by omega))
                                | (simp_all; done)
                                | (simp_all; omega)
                          have n3 : L 27 lz8_laws_FnNearOf [(3, .pp 2 0), (4, .v (.int .i64 y_2)), (5, .sl 4), (6, .v (.int .i64 t6)), (30, .agg [.v (.int .i64 y), .sl 3]), (34, .v (.int .i64 (y_3.getD t6.toNat 0))), (36, .v (.int .i64 y_2))] [.row false (.ints .u8 a0), .glob 0 (.ints .u8 tab0), .box [.v (.int .i64 y), .sl 3], .row true (.trips y_1), .row true (.ints .i64 y_3)] := by
                            refine hL.step [(5, [], 26, lz7_laws_FnNearOf)] (by kernel_rfl) ⟨?_, trivial⟩
                            · simp (maxSteps := 4000000) only [go_sem, Nat.reduceBEq, Nat.reduceLT, Nat.reduceAdd, Nat.reduceLeDiff, Nat.reduceSub, Nat.reduceEqDiff, Int.reduceToNat, reduceCtorEq, ↓reduceIte, hb60, hb61, hb61d]
                              repeat' (first | refine And.intro ?_ ?_ | intro hg)
                              all_goals (try simp (disch := omega) only [wrap_fits])
                              all_goals first
                                | (refine hL.red ?_ n4; exact Red.auto)
                                | exact trivial
                                | assumption
                                | omega
                                | exact wrap_fits (by omega) (by omega)
                                | (refine OpK_callA (k_impl_NearOf y y_1 (y_3.getD t6.toNat 0) (h := hr1)) [3, 1] [] ?_
                                   rintro x Hc' ⟨rfl, rfl⟩ hlen
                                   simp (maxSteps := 4000000) only [go_sem, Nat.reduceBEq, Nat.reduceLT, Nat.reduceAdd, Nat.reduceLeDiff, Nat.reduceSub, Nat.reduceEqDiff, Int.reduceToNat, reduceCtorEq, ↓reduceIte, hb60, hb61, hb61d]
                                   repeat' (first | refine And.intro ?_ ?_ | intro hg)
                                   all_goals (try simp (disch := omega) only [wrap_fits])
                                   all_goals first
                                     | (refine hL.red ?_ n4; exact Red.auto)
                                     | exact trivial
                                     | assumption
                                     | omega
                                     | exact wrap_fits (by omega) (by omega)
                                     | (simp_all; done)
                                     | (simp_all; omega))
                                | (simp (maxSteps := 4000000) only [go_sem, Nat.reduceBEq, Nat.reduceLT, Nat.reduceAdd, Nat.reduceLeDiff, Nat.reduceSub, Nat.reduceEqDiff, Int.reduceToNat, reduceCtorEq, ↓reduceIte, hb60, hb61, hb61d]
                                   repeat' (first | refine And.intro ?_ ?_ | intro hg)
                                   all_goals (try simp (disch := omega) only [wrap_fits])
                                   all_goals first | (refine hL.red ?_ n4; exact Red.auto) | exact trivial | assumption | omega | exact wrap_fits (by omega) (by omega))
                                | (simp_all; done)
                                | (simp_all; omega)
                          have n2 : L 28 lz9_laws_FnNearOf [(3, .pp 2 0), (4, .v (.int .i64 y_2)), (5, .sl 4), (6, .v (.int .i64 t6)), (30, .agg [.v (.int .i64 y), .sl 3]), (33, .ep 4 t6.toNat 1 0), (36, .v (.int .i64 y_2))] [.row false (.ints .u8 a0), .glob 0 (.ints .u8 tab0), .box [.v (.int .i64 y), .sl 3], .row true (.trips y_1), .row true (.ints .i64 y_3)] := by
                            refine hL.step [(4, [], 27, lz8_laws_FnNearOf)] (by kernel_rfl) ⟨?_, trivial⟩
                            · exact hL.edge n3
                          have n1 : L 29 lz10_laws_FnNearOf [(3, .pp 2 0), (4, .v (.int .i64 y_2)), (5, .sl 4), (6, .v (.int .i64 t6)), (30, .agg [.v (.int .i64 y), .sl 3]), (31, .sl 4), (32, .v (.int .i64 t6)), (36, .v (.int .i64 y_2))] [.row false (.ints .u8 a0), .glob 0 (.ints .u8 tab0), .box [.v (.int .i64 y), .sl 3], .row true (.trips y_1), .row true (.ints .i64 y_3)] := by
                            refine hL.step [(3, [], 28, lz9_laws_FnNearOf)] (by kernel_rfl) ⟨?_, trivial⟩
                            · exact hL.edge n2
                          have n17 : L 28 lz11_laws_FnNearOf [(3, .pp 2 0), (4, .v (.int .i64 y_2)), (5, .sl 4), (6, .v (.int .i64 t6)), (34, .v (.int .i64 (y_3.getD t6.toNat 0))), (36, .v (.int .i64 y_2))] [.row false (.ints .u8 a0), .glob 0 (.ints .u8 tab0), .box [.v (.int .i64 y), .sl 3], .row true (.trips y_1), .row true (.ints .i64 y_3)] := by
                            refine hL.step [(0, [], 27, lz8_laws_FnNearOf)] (by kernel_rfl) ⟨?_, trivial⟩
                            · exact hL.edge n3
                          have n16 : L 29 lz12_laws_FnNearOf [(3, .pp 2 0), (4, .v (.int .i64 y_2)), (5, .sl 4), (6, .v (.int .i64 t6)), (33, .ep 4 t6.toNat 1 0), (36, .v (.int .i64 y_2))] [.row false (.ints .u8 a0), .glob 0 (.ints .u8 tab0), .box [.v (.int .i64 y), .sl 3], .row true (.trips y_1), .row true (.ints .i64 y_3)] := by
                            refine hL.step [(0, [], 28, lz9_laws_FnNearOf), (4, [], 28, lz11_laws_FnNearOf)] (by kernel_rfl) ⟨?_, ?_, trivial⟩
                            · exact hL.edge n2
                            · exact hL.edge n17
                          have n0 : L 30 lz0_laws_FnNearOf [(3, .pp 2 0), (4, .v (.int .i64 y_2)), (5, .sl 4), (6, .v (.int .i64 t6)), (31, .sl 4), (32, .v (.int .i64 t6)), (36, .v (.int .i64 y_2))] [.row false (.ints .u8 a0), .glob 0 (.ints .u8 tab0), .box [.v (.int .i64 y), .sl 3], .row true (.trips y_1), .row true (.ints .i64 y_3)] := by
                            refine hL.step [(0, [], 29, lz10_laws_FnNearOf), (3, [], 29, lz12_laws_FnNearOf)] (by kernel_rfl) ⟨?_, ?_, trivial⟩
                            · exact hL.edge n1
                            · exact hL.edge n16
                          simp (maxSteps := 4000000) only [go_sem, Nat.reduceBEq, Nat.reduceLT, Nat.reduceAdd, Nat.reduceLeDiff, Nat.reduceSub, Nat.reduceEqDiff, Int.reduceToNat, reduceCtorEq, ↓reduceIte, hb60, hb61, hb61d]
                          repeat' (first | refine And.intro ?_ ?_ | intro hg)
                          all_goals (try simp (disch := omega) only [wrap_fits])
                          all_goals first
                            | (refine hL.red ?_ n0; exact Red.auto)
                            | exact trivial
                            | assumption
                            | omega
                            | exact wrap_fits (by omega) (by omega)
                            | (simp (maxSteps := 4000000) only [go_sem, Nat.reduceBEq, Nat.reduceLT, Nat.reduceAdd, Nat.reduceLeDiff, Nat.reduceSub, Nat.reduceEqDiff, Int.reduceToNat, reduceCtorEq, ↓reduceIte, hb60, hb61, hb61d]
                               repeat' (first | refine And.intro ?_ ?_ | intro hg)
                               all_goals (try simp (disch := omega) only [wrap_fits])
                               all_goals first | (refine hL.red ?_ n0; exact Red.auto) | exact trivial | assumption | omega | exact wrap_fits (by omega) (by omega))
                            | (simp_all; done)
                            | (simp_all; omega)
                        · clear hp0 hr1 hr2 hp3 hp4
                          refine awp_cond (t := 62) rfl (fun hc62 => ?_) (fun hc62 => ?_)
                          · replace h := bite_t h hc62
                            refine awp_reg ftCOk [(2, .v (.bool false))] [.row false (.ints .u8 a0), .glob 0 (.ints .u8 tab0), .box [.v (.int .i64 y), .sl 3], .row true (.trips y_1), .row true (.ints .i64 y_3), .row true (.ints .i64 y_6)] ?_
                            refine awp_ret ?_
                            (try simp only [Thn, InBlk, ↓reduceIte, Nat.reduceEqDiff])
                            obtain rfl := Option.some.inj h
                            refine LoopQ.out rfl ?_
                            exact Red.selA [0, 1] Red.auto
                          · replace h := bite_f h hc62
                            refine awp_skip ?_
                            (try simp only [Thn, InBlk, ↓reduceIte, Nat.reduceEqDiff])
                            (try simp only [Thn, InBlk, ↓reduceIte, Nat.reduceEqDiff])
                            refine ⟨_, h, ?_⟩
                            exact Red.selA [0, 1, 2, 3, 4] Red.auto
                      · rw [Bool.not_eq_true] at hb61
                        replace h := bite_f h hb61
                        have hb61d := hb61
                        try simp only [decide_eq_true_eq, decide_eq_false_iff_not, beq_iff_eq, bne_iff_ne, ne_eq, beq_eq_false_iff_ne, bne_eq_false_iff_eq, Bool.not_eq_true', Bool.not_eq_false', Bool.and_eq_true, Bool.or_eq_true, Bool.and_eq_false_iff, Bool.or_eq_false_iff] at hb61d
                        refine awp_to [(3, .pp 2 0), (4, .v (.int .i64 y_2)), (5, .sl 4), (6, .v (.int .i64 t6)), (62, .v (.bool false))] [.row false (.ints .u8 a0), .glob 0 (.ints .u8 tab0), .box [.v (.int .i64 y), .sl 3], .row true (.trips y_1), .row true (.ints .i64 y_3), .row true (.ints .i64 y_6)] ?_ ?_
                        · clear h
                          intro K hK
                          refine awp_drawL [0, 1, 2, 3, 4] [1, 2, 6] 30 lz0_laws_FnNearOf mixed ftCOk (by kernel_rfl) (by first | rfl | kernel_rfl) (by rfl) (by simp) fun L hL => ?_
                          have n13 : L 0 lz1_laws_FnNearOf [(3, .pp 2 0), (4, .v (.int .i64 y_2)), (5, .sl 4), (6, .v (.int .i64 t6)), (62, .v (.bool false))] [.row false (.ints .u8 a0), .glob 0 (.ints .u8 tab0), .box [.v (.int .i64 y), .sl 3], .row true (.trips y_1), .row true (.ints .i64 y_3), .row true (.ints .i64 y_6)] := by
                            exact hL.fin (by kernel_rfl) (hK _ _ Red.auto)
                          have n12 : L 3 lz13_laws_FnNearOf [(3, .pp 2 0), (4, .v (.int .i64 y_2)), (5, .sl 4), (6, .v (.int .i64 t6)), (47, .v (.bool false)), (50, .v (.bool false)), (55, .v (.tuple #[])), (59, .v (.tuple #[]))] [.row false (.ints .u8 a0), .glob 0 (.ints .u8 tab0), .box [.v (.int .i64 y), .sl 3], .row true (.trips y_1), .row true (.ints .i64 y_3), .row true (.ints .i64 y_6)] := by
                            refine hL.step [(30, [31, 32], 0, lz1_laws_FnNearOf)] (by kernel_rfl) ⟨?_, trivial⟩
                            · simp (maxSteps := 4000000) only [go_sem, Nat.reduceBEq, Nat.reduceLT, Nat.reduceAdd, Nat.reduceLeDiff, Nat.reduceSub, Nat.reduceEqDiff, Int.reduceToNat, reduceCtorEq, ↓reduceIte, hb60, hb61, hb61d]
                              repeat' (first | refine And.intro ?_ ?_ | intro hg)
                              all_goals (try simp (disch := omega) only [wrap_fits])
                              all_goals first
                                | (refine hL.red ?_ n13; exact Red.auto)
                                | exact trivial
                                | assumption
                                | omega
                                | exact wrap_fits (by omega) (by omega)
                                | (simp (maxSteps := 4000000) only [go_sem, Nat.reduceBEq, Nat.reduceLT, Nat.reduceAdd, Nat.reduceLeDiff, Nat.reduceSub, Nat.reduceEqDiff, Int.reduceToNat, reduceCtorEq, ↓reduceIte, hb60, hb61, hb61d]
                                   repeat' (first | refine And.intro ?_ ?_ | intro hg)
                                   all_goals (try simp (disch := omega) only [wrap_fits])
                                   all_goals first | (refine hL.red ?_ n13; exact Red.auto) | exact trivial | assumption | omega | exact wrap_fits (by omega) (by omega))
                                | (simp_all; done)
                                | (simp_all; omega)
                          have n11 : L 4 lz14_laws_FnNearOf [(3, .pp 2 0), (4, .v (.int .i64 y_2)), (5, .sl 4), (6, .v (.int .i64 t6)), (47, .v (.bool false)), (50, .v (.bool false)), (55, .v (.tuple #[])), (58, .v (.tuple #[]))] [.row false (.ints .u8 a0), .glob 0 (.ints .u8 tab0), .box [.v (.int .i64 y), .sl 3], .row true (.trips y_1), .row true (.ints .i64 y_3), .row true (.ints .i64 y_6)] := by
                            refine hL.step [(29, [], 3, lz13_laws_FnNearOf)] (by kernel_rfl) ⟨?_, trivial⟩
                            · simp (maxSteps := 4000000) only [go_sem, Nat.reduceBEq, Nat.reduceLT, Nat.reduceAdd, Nat.reduceLeDiff, Nat.reduceSub, Nat.reduceEqDiff, Int.reduceToNat, reduceCtorEq, ↓reduceIte, hb60, hb61, hb61d]
                              repeat' (first | refine And.intro ?_ ?_ | intro hg)
                              all_goals (try simp (disch := omega) only [wrap_fits])
                              all_goals first
                                | (refine hL.red ?_ n12; exact Red.auto)
                                | exact trivial
                                | assumption
                                | omega
                                | exact wrap_fits (by omega) (by omega)
                                | (simp (maxSteps := 4000000) only [go_sem, Nat.reduceBEq, Nat.reduceLT, Nat.reduceAdd, Nat.reduceLeDiff, Nat.reduceSub, Nat.reduceEqDiff, Int.reduceToNat, reduceCtorEq, ↓reduceIte, hb60, hb61, hb61d]
                                   repeat' (first | refine And.intro ?_ ?_ | intro hg)
                                   all_goals (try simp (disch := omega) only [wrap_fits])
                                   all_goals first | (refine hL.red ?_ n12; exact Red.auto) | exact trivial | assumption | omega | exact wrap_fits (by omega) (by omega))
                                | (simp_all; done)
                                | (simp_all; omega)
                          have n10 : L 5 lz15_laws_FnNearOf [(3, .pp 2 0), (4, .v (.int .i64 y_2)), (5, .sl 4), (6, .v (.int .i64 t6)), (47, .v (.bool false)), (50, .v (.bool false)), (55, .v (.tuple #[])), (56, .v (.tuple #[])), (57, .v (.tuple #[]))] [.row false (.ints .u8 a0), .glob 0 (.ints .u8 tab0), .box [.v (.int .i64 y), .sl 3], .row true (.trips y_1), .row true (.ints .i64 y_3), .row true (.ints .i64 y_6)] := by
                            refine hL.step [(28, [], 4, lz14_laws_FnNearOf)] (by kernel_rfl) ⟨?_, trivial⟩
                            · simp (maxSteps := 4000000) only [go_sem, Nat.reduceBEq, Nat.reduceLT, Nat.reduceAdd, Nat.reduceLeDiff, Nat.reduceSub, Nat.reduceEqDiff, Int.reduceToNat, reduceCtorEq, ↓reduceIte, hb60, hb61, hb61d]
                              repeat' (first | refine And.intro ?_ ?_ | intro hg)
                              all_goals (try simp (disch := omega) only [wrap_fits])
                              all_goals first
                                | (refine hL.red ?_ n11; exact Red.auto)
                                | exact trivial
                                | assumption
                                | omega
                                | exact wrap_fits (by omega) (by omega)
                                | (simp (maxSteps := 4000000) only [go_sem, Nat.reduceBEq, Nat.reduceLT, Nat.reduceAdd, Nat.reduceLeDiff, Nat.reduceSub, Nat.reduceEqDiff, Int.reduceToNat, reduceCtorEq, ↓reduceIte, hb60, hb61, hb61d]
                                   repeat' (first | refine And.intro ?_ ?_ | intro hg)
                                   all_goals (try simp (disch := omega) only [wrap_fits])
                                   all_goals first | (refine hL.red ?_ n11; exact Red.auto) | exact trivial | assumption | omega | exact wrap_fits (by omega) (by omega))
                                | (simp_all; done)
                                | (simp_all; omega)
                          have n15 : L 4 lz16_laws_FnNearOf [(3, .pp 2 0), (4, .v (.int .i64 y_2)), (5, .sl 4), (6, .v (.int .i64 t6)), (47, .v (.bool false)), (50, .v (.bool false)), (54, .v (.tuple #[])), (59, .v (.tuple #[]))] [.row false (.ints .u8 a0), .glob 0 (.ints .u8 tab0), .box [.v (.int .i64 y), .sl 3], .row true (.trips y_1), .row true (.ints .i64 y_3), .row true (.ints .i64 y_6)] := by
                            refine hL.step [(25, [], 3, lz13_laws_FnNearOf)] (by kernel_rfl) ⟨?_, trivial⟩
                            · simp (maxSteps := 4000000) only [go_sem, Nat.reduceBEq, Nat.reduceLT, Nat.reduceAdd, Nat.reduceLeDiff, Nat.reduceSub, Nat.reduceEqDiff, Int.reduceToNat, reduceCtorEq, ↓reduceIte, hb60, hb61, hb61d]
                              repeat' (first | refine And.intro ?_ ?_ | intro hg)
                              all_goals (try simp (disch := omega) only [wrap_fits])
                              all_goals first
                                | (refine hL.red ?_ n12; exact Red.auto)
                                | exact trivial
                                | assumption
                                | omega
                                | exact wrap_fits (by omega) (by omega)
                                | (simp (maxSteps := 4000000) only [go_sem, Nat.reduceBEq, Nat.reduceLT, Nat.reduceAdd, Nat.reduceLeDiff, Nat.reduceSub, Nat.reduceEqDiff, Int.reduceToNat, reduceCtorEq, ↓reduceIte, hb60, hb61, hb61d]
                                   repeat' (first | refine And.intro ?_ ?_ | intro hg)
                                   all_goals (try simp (disch := omega) only [wrap_fits])
                                   all_goals first | (refine hL.red ?_ n12; exact Red.auto) | exact trivial | assumption | omega | exact wrap_fits (by omega) (by omega))
                                | (simp_all; done)
                                | (simp_all; omega)
                          have n14 : L 5 lz17_laws_FnNearOf [(3, .pp 2 0), (4, .v (.int .i64 y_2)), (5, .sl 4), (6, .v (.int .i64 t6)), (47, .v (.bool false)), (50, .v (.bool false)), (54, .v (.tuple #[])), (58, .v (.tuple #[]))] [.row false (.ints .u8 a0), .glob 0 (.ints .u8 tab0), .box [.v (.int .i64 y), .sl 3], .row true (.trips y_1), .row true (.ints .i64 y_3), .row true (.ints .i64 y_6)] := by
                            refine hL.step [(25, [], 4, lz14_laws_FnNearOf), (29, [], 4, lz16_laws_FnNearOf)] (by kernel_rfl) ⟨?_, ?_, trivial⟩
                            · simp (maxSteps := 4000000) only [go_sem, Nat.reduceBEq, Nat.reduceLT, Nat.reduceAdd, Nat.reduceLeDiff, Nat.reduceSub, Nat.reduceEqDiff, Int.reduceToNat, reduceCtorEq, ↓reduceIte, hb60, hb61, hb61d]
                              repeat' (first | refine And.intro ?_ ?_ | intro hg)
                              all_goals (try simp (disch := omega) only [wrap_fits])
                              all_goals first
                                | (refine hL.red ?_ n11; exact Red.auto)
                                | exact trivial
                                | assumption
                                | omega
                                | exact wrap_fits (by omega) (by omega)
                                | (simp (maxSteps := 4000000) only [go_sem, Nat.reduceBEq, Nat.reduceLT, Nat.reduceAdd, Nat.reduceLeDiff, Nat.reduceSub, Nat.reduceEqDiff, Int.reduceToNat, reduceCtorEq, ↓reduceIte, hb60, hb61, hb61d]
                                   repeat' (first | refine And.intro ?_ ?_ | intro hg)
                                   all_goals (try simp (disch := omega) only [wrap_fits])
                                   all_goals first | (refine hL.red ?_ n11; exact Red.auto) | exact trivial | assumption | omega | exact wrap_fits (by omega) (by omega))
                                | (simp_all; done)
                                | (simp_all; omega)
                            · simp (maxSteps := 4000000) only [go_sem, Nat.reduceBEq, Nat.reduceLT, Nat.reduceAdd, Nat.reduceLeDiff, Nat.reduceSub, Nat.reduceEqDiff, Int.reduceToNat, reduceCtorEq, ↓reduceIte, hb60, hb61, hb61d]
                              repeat' (first | refine And.intro ?_ ?_ | intro hg)
                              all_goals (try simp (disch := omega) only [wrap_fits])
                              all_goals first
                                | (refine hL.red ?_ n15; exact Red.auto)
                                | exact trivial
                                | assumption
                                | omega
                                | exact wrap_fits (by omega) (by omega)
                                | (simp (maxSteps := 4000000) only [go_sem, Nat.reduceBEq, Nat.reduceLT, Nat.reduceAdd, Nat.reduceLeDiff, Nat.reduceSub, Nat.reduceEqDiff, Int.reduceToNat, reduceCtorEq, ↓reduceIte, hb60, hb61, hb61d]
                                   repeat' (first | refine And.intro ?_ ?_ | intro hg)
                                   all_goals (try simp (disch := omega) only [wrap_fits])
                                   all_goals first | (refine hL.red ?_ n15; exact Red.auto) | exact trivial | assumption | omega | exact wrap_fits (by omega) (by omega))
                                | (simp_all; done)
                                | (simp_all; omega)
                          have n9 : L 6 lz18_laws_FnNearOf [(3, .pp 2 0), (4, .v (.int .i64 y_2)), (5, .sl 4), (6, .v (.int .i64 t6)), (47, .v (.bool false)), (50, .v (.bool false)), (54, .v (.tuple #[])), (56, .v (.tuple #[])), (57, .v (.tuple #[]))] [.row false (.ints .u8 a0), .glob 0 (.ints .u8 tab0), .box [.v (.int .i64 y), .sl 3], .row true (.trips y_1), .row true (.ints .i64 y_3), .row true (.ints .i64 y_6)] := by
                            refine hL.step [(25, [], 5, lz15_laws_FnNearOf), (28, [], 5, lz17_laws_FnNearOf)] (by kernel_rfl) ⟨?_, ?_, trivial⟩
                            · simp (maxSteps := 4000000) only [go_sem, Nat.reduceBEq, Nat.reduceLT, Nat.reduceAdd, Nat.reduceLeDiff, Nat.reduceSub, Nat.reduceEqDiff, Int.reduceToNat, reduceCtorEq, ↓reduceIte, hb60, hb61, hb61d]
                              repeat' (first | refine And.intro ?_ ?_ | intro hg)
                              all_goals (try simp (disch := omega) only [wrap_fits])
                              all_goals first
                                | (refine hL.red ?_ n10; exact Red.auto)
                                | exact trivial
                                | assumption
                                | omega
                                | exact wrap_fits (by omega) (by omega)
                                | (simp (maxSteps := 4000000) only [go_sem, Nat.reduceBEq, Nat.reduceLT, Nat.reduceAdd, Nat.reduceLeDiff, Nat.reduceSub, Nat.reduceEqDiff, Int.reduceToNat, reduceCtorEq, ↓reduceIte, hb60, hb61, hb61d]
                                   repeat' (first | refine And.intro ?_ ?_ | intro hg)
                                   all_goals (try simp (disch := omega) only [wrap_fits])
                                   all_goals first | (refine hL.red ?_ n10; exact Red.auto) | exact trivial | assumption | omega | exact wrap_fits (by omega) (by omega))
                                | (simp_all; done)
                                | (simp_all; omega)
                            · simp (maxSteps := 4000000) only [go_sem, Nat.reduceBEq, Nat.reduceLT, Nat.reduceAdd, Nat.reduceLeDiff, Nat.reduceSub, Nat.reduceEqDiff, Int.reduceToNat, reduceCtorEq, ↓reduceIte, hb60, hb61, hb61d]
                              repeat' (first | refine And.intro ?_ ?_ | intro hg)
                              all_goals (try simp (disch := omega) only [wrap_fits])
                              all_goals first
                                | (refine hL.red ?_ n14; exact Red.auto)
                                | exact trivial
                                | assumption
                                | omega
                                | exact wrap_fits (by omega) (by omega)
                                | (simp (maxSteps := 4000000) only [go_sem, Nat.reduceBEq, Nat.reduceLT, Nat.reduceAdd, Nat.reduceLeDiff, Nat.reduceSub, Nat.reduceEqDiff, Int.reduceToNat, reduceCtorEq, ↓reduceIte, hb60, hb61, hb61d]
                                   repeat' (first | refine And.intro ?_ ?_ | intro hg)
                                   all_goals (try simp (disch := omega) only [wrap_fits])
                                   all_goals first | (refine hL.red ?_ n14; exact Red.auto) | exact trivial | assumption | omega | exact wrap_fits (by omega) (by omega))
                                | (simp_all; done)
                                | (simp_all; omega)
                          have n17 : L 5 lz19_laws_FnNearOf [(3, .pp 2 0), (4, .v (.int .i64 y_2)), (5, .sl 4), (6, .v (.int .i64 t6)), (47, .v (.bool false)), (50, .v (.bool false)), (51, .v (.tuple #[])), (53, .v (.tuple #[])), (59, .v (.tuple #[]))] [.row false (.ints .u8 a0), .glob 0 (.ints .u8 tab0), .box [.v (.int .i64 y), .sl 3], .row true (.trips y_1), .row true (.ints .i64 y_3), .row true (.ints .i64 y_6)] := by
                            refine hL.step [(24, [], 4, lz16_laws_FnNearOf)] (by kernel_rfl) ⟨?_, trivial⟩
                            · simp (maxSteps := 4000000) only [go_sem, Nat.reduceBEq, Nat.reduceLT, Nat.reduceAdd, Nat.reduceLeDiff, Nat.reduceSub, Nat.reduceEqDiff, Int.reduceToNat, reduceCtorEq, ↓reduceIte, hb60, hb61, hb61d]
                              repeat' (first | refine And.intro ?_ ?_ | intro hg)
                              all_goals (try simp (disch := omega) only [wrap_fits])
                              all_goals first
                                | (refine hL.red ?_ n15; exact Red.auto)
                                | exact trivial
                                | assumption
                                | omega
                                | exact wrap_fits (by omega) (by omega)
                                | (simp (maxSteps := 4000000) only [go_sem, Nat.reduceBEq, Nat.reduceLT, Nat.reduceAdd, Nat.reduceLeDiff, Nat.reduceSub, Nat.reduceEqDiff, Int.reduceToNat, reduceCtorEq, ↓reduceIte, hb60, hb61, hb61d]
                                   repeat' (first | refine And.intro ?_ ?_ | intro hg)
                                   all_goals (try simp (disch := omega) only [wrap_fits])
                                   all_goals first | (refine hL.red ?_ n15; exact Red.auto) | exact trivial | assumption | omega | exact wrap_fits (by omega) (by omega))
                                | (simp_all; done)
                                | (simp_all; omega)
                          have n16 : L 6 lz20_laws_FnNearOf [(3, .pp 2 0), (4, .v (.int .i64 y_2)), (5, .sl 4), (6, .v (.int .i64 t6)), (47, .v (.bool false)), (50, .v (.bool false)), (51, .v (.tuple #[])), (53, .v (.tuple #[])), (58, .v (.tuple #[]))] [.row false (.ints .u8 a0), .glob 0 (.ints .u8 tab0), .box [.v (.int .i64 y), .sl 3], .row true (.trips y_1), .row true (.ints .i64 y_3), .row true (.ints .i64 y_6)] := by
                            refine hL.step [(24, [], 5, lz17_laws_FnNearOf), (29, [], 5, lz19_laws_FnNearOf)] (by kernel_rfl) ⟨?_, ?_, trivial⟩
                            · simp (maxSteps := 4000000) only [go_sem, Nat.reduceBEq, Nat.reduceLT, Nat.reduceAdd, Nat.reduceLeDiff, Nat.reduceSub, Nat.reduceEqDiff, Int.reduceToNat, reduceCtorEq, ↓reduceIte, hb60, hb61, hb61d]
                              repeat' (first | refine And.intro ?_ ?_ | intro hg)
                              all_goals (try simp (disch := omega) only [wrap_fits])
                              all_goals first
                                | (refine hL.red ?_ n14; exact Red.auto)
                                | exact trivial
                                | assumption
                                | omega
                                | exact wrap_fits (by omega) (by omega)
                                | (simp (maxSteps := 4000000) only [go_sem, Nat.reduceBEq, Nat.reduceLT, Nat.reduceAdd, Nat.reduceLeDiff, Nat.reduceSub, Nat.reduceEqDiff, Int.reduceToNat, reduceCtorEq, ↓reduceIte, hb60, hb61, hb61d]
                                   repeat' (first | refine And.intro ?_ ?_ | intro hg)
                                   all_goals (try simp (disch := omega) only [wrap_fits])
                                   all_goals first | (refine hL.red ?_ n14; exact Red.auto) | exact trivial | assumption | omega | exact wrap_fits (by omega) (by omega))
                                | (simp_all; done)
                                | (simp_all; omega)
                            · simp (maxSteps := 4000000) only [go_sem, Nat.reduceBEq, Nat.reduceLT, Nat.reduceAdd, Nat.reduceLeDiff, Nat.reduceSub, Nat.reduceEqDiff, Int.reduceToNat, reduceCtorEq, ↓reduceIte, hb60, hb61, hb61d]
                              repeat' (first | refine And.intro ?_ ?_ | intro hg)
                              all_goals (try simp (disch := omega) only [wrap_fits])
                              all_goals first
                                | (refine hL.red ?_ n17; exact Red.auto)
                                | exact trivial
                                | assumption
                                | omega
                                | exact wrap_fits (by omega) (by omega)
                                | (simp (maxSteps := 4000000) only [go_sem, Nat.reduceBEq, Nat.reduceLT, Nat.reduceAdd, Nat.reduceLeDiff, Nat.reduceSub, Nat.reduceEqDiff, Int.reduceToNat, reduceCtorEq, ↓reduceIte, hb60, hb61, hb61d]
                                   repeat' (first | refine And.intro ?_ ?_ | intro hg)
                                   all_goals (try simp (disch := omega) only [wrap_fits])
                                   all_goals first | (refine hL.red ?_ n17; exact Red.auto) | exact trivial | assumption | omega | exact wrap_fits (by omega) (by omega))
                                | (simp_all; done)
                                | (simp_all; omega)
                          have n8 : L 7 lz21_laws_FnNearOf [(3, .pp 2 0), (4, .v (.int .i64 y_2)), (5, .sl 4), (6, .v (.int .i64 t6)), (47, .v (.bool false)), (50, .v (.bool false)), (51, .v (.tuple #[])), (53, .v (.tuple #[])), (56, .v (.tuple #[])), (57, .v (.tuple #[]))] [.row false (.ints .u8 a0), .glob 0 (.ints .u8 tab0), .box [.v (.int .i64 y), .sl 3], .row true (.trips y_1), .row true (.ints .i64 y_3), .row true (.ints .i64 y_6)] := by
                            refine hL.step [(24, [], 6, lz18_laws_FnNearOf), (28, [], 6, lz20_laws_FnNearOf)] (by kernel_rfl) ⟨?_, ?_, trivial⟩
                            · simp (maxSteps := 4000000) only [go_sem, Nat.reduceBEq, Nat.reduceLT, Nat.reduceAdd, Nat.reduceLeDiff, Nat.reduceSub, Nat.reduceEqDiff, Int.reduceToNat, reduceCtorEq, ↓reduceIte, hb60, hb61, hb61d]
                              repeat' (first | refine And.intro ?_ ?_ | intro hg)
                              all_goals (try simp (disch := omega) only [wrap_fits])
                              all_goals first
                                | (refine hL.red ?_ n9; exact Red.auto)
                                | exact trivial
                                | assumption
                                | omega
                                | exact wrap_fits (by omega) (by omega)
                                | (simp (maxSteps := 4000000) only [go_sem, Nat.reduceBEq, Nat.reduceLT, Nat.reduceAdd, Nat.reduceLeDiff, Nat.reduceSub, Nat.reduceEqDiff, Int.reduceToNat, reduceCtorEq, ↓reduceIte, hb60, hb61, hb61d]
                                   repeat' (first | refine And.intro ?_ ?_ | intro hg)
                                   all_goals (try simp (disch := omega) only [wrap_fits])
                                   all_goals first | (refine hL.red ?_ n9; exact Red.auto) | exact trivial | assumption | omega | exact wrap_fits (by omega) (by omega))
                                | (simp_all; done)
                                | (simp_all; omega)
                            · simp (maxSteps := 4000000) only [go_sem, Nat.reduceBEq, Nat.reduceLT, Nat.reduceAdd, Nat.reduceLeDiff, Nat.reduceSub, Nat.reduceEqDiff, Int.reduceToNat, reduceCtorEq, ↓reduceIte, hb60, hb61, hb61d]
                              repeat' (first | refine And.intro ?_ ?_ | intro hg)
                              all_goals (try simp (disch := omega) only [wrap_fits])
                              all_goals first
                                | (refine hL.red ?_ n16; exact Red.auto)
                                | exact trivial
                                | assumption
                                | omega
                                | exact wrap_fits (by omega) (by omega)
                                | (simp (maxSteps := 4000000) only [go_sem, Nat.reduceBEq, Nat.reduceLT, Nat.reduceAdd, Nat.reduceLeDiff, Nat.reduceSub, Nat.reduceEqDiff, Int.reduceToNat, reduceCtorEq, ↓reduceIte, hb60, hb61, hb61d]
                                   repeat' (first | refine And.intro ?_ ?_ | intro hg)
                                   all_goals (try simp (disch := omega) only [wrap_fits])
                                   all_goals first | (refine hL.red ?_ n16; exact Red.auto) | exact trivial | assumption | omega | exact wrap_fits (by omega) (by omega))
                                | (simp_all; done)
                                | (simp_all; omega)
                          have n19 : L 6 lz22_laws_FnNearOf [(3, .pp 2 0), (4, .v (.int .i64 y_2)), (5, .sl 4), (6, .v (.int .i64 t6)), (47, .v (.bool false)), (50, .v (.bool false)), (51, .v (.tuple #[])), (52, .v (.tuple #[])), (59, .v (.tuple #[]))] [.row false (.ints .u8 a0), .glob 0 (.ints .u8 tab0), .box [.v (.int .i64 y), .sl 3], .row true (.trips y_1), .row true (.ints .i64 y_3), .row true (.ints .i64 y_6)] := by
                            refine hL.step [(23, [], 5, lz19_laws_FnNearOf)] (by kernel_rfl) ⟨?_, trivial⟩
                            · simp (maxSteps := 4000000) only [go_sem, Nat.reduceBEq, Nat.reduceLT, Nat.reduceAdd, Nat.reduceLeDiff, Nat.reduceSub, Nat.reduceEqDiff, Int.reduceToNat, reduceCtorEq, ↓reduceIte, hb60, hb61, hb61d]
                              repeat' (first | refine And.intro ?_ ?_ | intro hg)
                              all_goals (try simp (disch := omega) only [wrap_fits])
                              all_goals first
                                | (refine hL.red ?_ n17; exact Red.auto)
                                | exact trivial
                                | assumption
                                | omega
                                | exact wrap_fits (by omega) (by omega)
                                | (simp (maxSteps := 4000000) only [go_sem, Nat.reduceBEq, Nat.reduceLT, Nat.reduceAdd, Nat.reduceLeDiff, Nat.reduceSub, Nat.reduceEqDiff, Int.reduceToNat, reduceCtorEq, ↓reduceIte, hb60, hb61, hb61d]
                                   repeat' (first | refine And.intro ?_ ?_ | intro hg)
                                   all_goals (try simp (disch := omega) only [wrap_fits])
                                   all_goals first | (refine hL.red ?_ n17; exact Red.auto) | exact trivial | assumption | omega | exact wrap_fits (by omega) (by omega))
                                | (simp_all; done)
                                | (simp_all; omega)
                          have n18 : L 7 lz23_laws_FnNearOf [(3, .pp 2 0), (4, .v (.int .i64 y_2)), (5, .sl 4), (6, .v (.int .i64 t6)), (47, .v (.bool false)), (50, .v (.bool false)), (51, .v (.tuple #[])), (52, .v (.tuple #[])), (58, .v (.tuple #[]))] [.row false (.ints .u8 a0), .glob 0 (.ints .u8 tab0), .box [.v (.int .i64 y), .sl 3], .row true (.trips y_1), .row true (.ints .i64 y_3), .row true (.ints .i64 y_6)] := by
                            refine hL.step [(23, [], 6, lz20_laws_FnNearOf), (29, [], 6, lz22_laws_FnNearOf)] (by kernel_rfl) ⟨?_, ?_, trivial⟩
                            · simp (maxSteps := 4000000) only [go_sem, Nat.reduceBEq, Nat.reduceLT, Nat.reduceAdd, Nat.reduceLeDiff, Nat.reduceSub, Nat.reduceEqDiff, Int.reduceToNat, reduceCtorEq, ↓reduceIte, hb60, hb61, hb61d]
                              repeat' (first | refine And.intro ?_ ?_ | intro hg)
                              all_goals (try simp (disch := omega) only [wrap_fits])
                              all_goals first
                                | (refine hL.red ?_ n16; exact Red.auto)
                                | exact trivial
                                | assumption
                                | omega
                                | exact wrap_fits (by omega) (by omega)
                                | (simp (maxSteps := 4000000) only [go_sem, Nat.reduceBEq, Nat.reduceLT, Nat.reduceAdd, Nat.reduceLeDiff, Nat.reduceSub, Nat.reduceEqDiff, Int.reduceToNat, reduceCtorEq, ↓reduceIte, hb60, hb61, hb61d]
                                   repeat' (first | refine And.intro ?_ ?_ | intro hg)
                                   all_goals (try simp (disch := omega) only [wrap_fits])
                                   all_goals first | (refine hL.red ?_ n16; exact Red.auto) | exact trivial | assumption | omega | exact wrap_fits (by omega) (by omega))
                                | (simp_all; done)
                                | (simp_all; omega)
                            · simp (maxSteps := 4000000) only [go_sem, Nat.reduceBEq, Nat.reduceLT, Nat.reduceAdd, Nat.reduceLeDiff, Nat.reduceSub, Nat.reduceEqDiff, Int.reduceToNat, reduceCtorEq, ↓reduceIte, hb60, hb61, hb61d]
                              repeat' (first | refine And.intro ?_ ?_ | intro hg)
                              all_goals (try simp (disch := omega) only [wrap_fits])
                              all_goals first
                                | (refine hL.red ?_ n19; exact Red.auto)
                                | exact trivial
                                | assumption
                                | omega
                                | exact wrap_fits (by omega) (by omega)
                                | (simp (maxSteps := 4000000) only [go_sem, Nat.reduceBEq, Nat.reduceLT, Nat.reduceAdd, Nat.reduceLeDiff, Nat.reduceSub, Nat.reduceEqDiff, Int.reduceToNat, reduceCtorEq, ↓reduceIte, hb60, hb61, hb61d]
                                   repeat' (first | refine And.intro ?_ ?_ | intro hg)
                                   all_goals (try simp (disch := omega) only [wrap_fits])
                                   all_goals first | (refine hL.red ?_ n19; exact Red.auto) | exact trivial | assumption | omega | exact wrap_fits (by omega) (by omega))
                                | (simp_all; done)
                                | (simp_all; omega)
                          have n7 : L 8 lz24_laws_FnNearOf [(3, .pp 2 0), (4, .v (.int .i64 y_2)), (5, .sl 4), (6, .v (.int .i64 t6)), (47, .v (.bool false)), (50, .v (.bool false)), (51, .v (.tuple #[])), (52, .v (.tuple #[])), (56, .v (.tuple #[])), (57, .v (.tuple #[]))] [.row false (.ints .u8 a0), .glob 0 (.ints .u8 tab0), .box [.v (.int .i64 y), .sl 3], .row true (.trips y_1), .row true (.ints .i64 y_3), .row true (.ints .i64 y_6)] := by
                            refine hL.step [(23, [], 7, lz21_laws_FnNearOf), (28, [], 7, lz23_laws_FnNearOf)] (by kernel_rfl) ⟨?_, ?_, trivial⟩
                            · simp (maxSteps := 4000000) only [go_sem, Nat.reduceBEq, Nat.reduceLT, Nat.reduceAdd, Nat.reduceLeDiff, Nat.reduceSub, Nat.reduceEqDiff, Int.reduceToNat, reduceCtorEq, ↓reduceIte, hb60, hb61, hb61d]
                              repeat' (first | refine And.intro ?_ ?_ | intro hg)
                              all_goals (try simp (disch := omega) only [wrap_fits])
                              all_goals first
                                | (refine hL.red ?_ n8; exact Red.auto)
                                | exact trivial
                                | assumption
                                | omega
                                | exact wrap_fits (by omega) (by omega)
                                | (simp (maxSteps := 4000000) only [go_sem, Nat.reduceBEq, Nat.reduceLT, Nat.reduceAdd, Nat.reduceLeDiff, Nat.reduceSub, Nat.reduceEqDiff, Int.reduceToNat, reduceCtorEq, ↓reduceIte, hb60, hb61, hb61d]
                                   repeat' (first | refine And.intro ?_ ?_ | intro hg)
                                   all_goals (try simp (disch := omega) only [wrap_fits])
                                   all_goals first | (refine hL.red ?_ n8; exact Red.auto) | exact trivial | assumption | omega | exact wrap_fits (by omega) (by omega))
                                | (simp_all; done)
                                | (simp_all; omega)
                            · simp (maxSteps := 4000000) only [go_sem, Nat.reduceBEq, Nat.reduceLT, Nat.reduceAdd, Nat.reduceLeDiff, Nat.reduceSub, Nat.reduceEqDiff, Int.reduceToNat, reduceCtorEq, ↓reduceIte, hb60, hb61, hb61d]
                              repeat' (first | refine And.intro ?_ ?_ | intro hg)
                              all_goals (try simp (disch := omega) only [wrap_fits])
                              all_goals first
                                | (refine hL.red ?_ n18; exact Red.auto)
                                | exact trivial
                                | assumption
                                | omega
                                | exact wrap_fits (by omega) (by omega)
                                | (simp (maxSteps := 4000000) only [go_sem, Nat.reduceBEq, Nat.reduceLT, Nat.reduceAdd, Nat.reduceLeDiff, Nat.reduceSub, Nat.reduceEqDiff, Int.reduceToNat, reduceCtorEq, ↓reduceIte, hb60, hb61, hb61d]
                                   repeat' (first | refine And.intro ?_ ?_ | intro hg)
                                   all_goals (try simp (disch := omega) only [wrap_fits])
                                   all_goals first | (refine hL.red ?_ n18; exact Red.auto) | exact trivial | assumption | omega | exact wrap_fits (by omega) (by omega))
                                | (simp_all; done)
                                | (simp_all; omega)
                          have n6 : L 19 lz5_laws_FnNearOf [(3, .pp 2 0), (4, .v (.int .i64 y_2)), (5, .sl 4), (6, .v (.int .i64 t6)), (39, .v (.bool false)), (42, .ep 4 t6.toNat 1 0), (44, .v (.int .i64 y_2))] [.row false (.ints .u8 a0), .glob 0 (.ints .u8 tab0), .box [.v (.int .i64 y), .sl 3], .row true (.trips y_1), .row true (.ints .i64 y_3), .row true (.ints .i64 y_6)] := by
                            refine hL.step [(13, [15, 16, 17, 18, 19, 20, 21, 22, 26, 27], 8, lz24_laws_FnNearOf)] (by kernel_rfl) ⟨?_, trivial⟩
                            · simp (maxSteps := 4000000) only [go_sem, Nat.reduceBEq, Nat.reduceLT, Nat.reduceAdd, Nat.reduceLeDiff, Nat.reduceSub, Nat.reduceEqDiff, Int.reduceToNat, reduceCtorEq, ↓reduceIte, hb60, hb61, hb61d]
                              repeat' (first | refine And.intro ?_ ?_ | intro hg)
                              all_goals (try simp (disch := omega) only [wrap_fits])
                              all_goals first
                                | (refine hL.red ?_ n7; exact Red.auto)
                                | exact trivial
                                | assumption
                                | omega
                                | exact wrap_fits (by omega) (by omega)
                                | (simp (maxSteps := 4000000) only [go_sem, Nat.reduceBEq, Nat.reduceLT, Nat.reduceAdd, Nat.reduceLeDiff, Nat.reduceSub, Nat.reduceEqDiff, Int.reduceToNat, reduceCtorEq, ↓reduceIte, hb60, hb61, hb61d]
                                   repeat' (first | refine And.intro ?_ ?_ | intro hg)
                                   all_goals (try simp (disch := omega) only [wrap_fits])
                                   all_goals first | (refine hL.red ?_ n7; exact Red.auto) | exact trivial | assumption | omega | exact wrap_fits (by omega) (by omega))
                                | (simp_all; done)
                                | (simp_all; omega)
                          have n5 : L 20 lz6_laws_FnNearOf [(3, .pp 2 0), (4, .v (.int .i64 y_2)), (5, .sl 4), (6, .v (.int .i64 t6)), (39, .v (.bool false)), (40, .sl 4), (41, .v (.int .i64 t6)), (44, .v (.int .i64 y_2))] [.row false (.ints .u8 a0), .glob 0 (.ints .u8 tab0), .box [.v (.int .i64 y), .sl 3], .row true (.trips y_1), .row true (.ints .i64 y_3), .row true (.ints .i64 y_6)] := by
                            refine hL.step [(12, [], 19, lz5_laws_FnNearOf)] (by kernel_rfl) ⟨?_, trivial⟩
                            · simp (maxSteps := 4000000) only [go_sem, Nat.reduceBEq, Nat.reduceLT, Nat.reduceAdd, Nat.reduceLeDiff, Nat.reduceSub, Nat.reduceEqDiff, Int.reduceToNat, reduceCtorEq, ↓reduceIte, hb60, hb61, hb61d]
                              repeat' (first | refine And.intro ?_ ?_ | intro hg)
                              all_goals (try simp (disch := omega) only [wrap_fits])
                              all_goals first
                                | (refine hL.red ?_ n6; exact Red.auto)
                                | exact trivial
                                | assumption
                                | omega
                                | exact wrap_fits (by omega) (by omega)
                                | (simp (maxSteps := 4000000) only [go_sem, Nat.reduceBEq, Nat.reduceLT, Nat.reduceAdd, Nat.reduceLeDiff, Nat.reduceSub, Nat.reduceEqDiff, Int.reduceToNat, reduceCtorEq, ↓reduceIte, hb60, hb61, hb61d]
                                   repeat' (first | refine And.intro ?_ ?_ | intro hg)
                                   all_goals (try simp (disch := omega) only [wrap_fits])
                                   all_goals first | (refine hL.red ?_ n6; exact Red.auto) | exact trivial | assumption | omega | exact wrap_fits (by omega) (by omega))
                                | (simp_all; done)
                                | (simp_all; omega)
                          have n4 : L 26 lz7_laws_FnNearOf [(3, .pp 2 0), (4, .v (.int .i64 y_2)), (5, .sl 4), (6, .v (.int .i64 t6)), (35, .sl 5), (36, .v (.int .i64 y_2))] [.row false (.ints .u8 a0), .glob 0 (.ints .u8 tab0), .box [.v (.int .i64 y), .sl 3], .row true (.trips y_1), .row true (.ints .i64 y_3), .row true (.ints .i64 y_6)] := by
                            refine hL.step [(7, [8, 9, 10, 11, 14], 20, lz6_laws_FnNearOf)] (by kernel_rfl) ⟨?_, trivial⟩
                            · simp (maxSteps := 4000000) only [go_sem, Nat.reduceBEq, Nat.reduceLT, Nat.reduceAdd, Nat.reduceLeDiff, Nat.reduceSub, Nat.reduceEqDiff, Int.reduceToNat, reduceCtorEq, ↓reduceIte, hb60, hb61, hb61d]
                              repeat' (first | refine And.intro ?_ ?_ | intro hg)
                              all_goals (try simp (disch := omega) only [wrap_fits])
                              all_goals first
                                | (refine hL.red ?_ n5; exact Red.auto)
                                | exact trivial
                                | assumption
                                | omega
                                | exact wrap_fits (by omega) (by omega)
                                | (refine OpK_callA (k_laws_has y_6 y_2 (h := hr2)) [5] [] ?_
                                   rintro x Hc' ⟨rfl, rfl⟩ hlen
                                   simp (maxSteps := 4000000) only [go_sem, Nat.reduceBEq, Nat.reduceLT, Nat.reduceAdd, Nat.reduceLeDiff, Nat.reduceSub, Nat.reduceEqDiff, Int.reduceToNat, reduceCtorEq, ↓reduceIte, hb60, hb61, hb61d]
                                   repeat' (first | refine And.intro ?_ ?_ | intro hg)
                                   all_goals (try simp (disch := omega) only [wrap_fits])
                                   all_goals first
                                     | (refine hL.red ?_ n5; exact Red.auto)
                                     | exact trivial
                                     | assumption
                                     | omega
                                     | exact wrap_fits (by omega) (by omega)
                                     | (simp_all; done)
                                     | (simp_all; omega))
                                | (simp (maxSteps := 4000000) only [go_sem, Nat.reduceBEq, Nat.reduceLT, Nat.reduceAdd, Nat.reduceLeDiff, Nat.reduceSub, Nat.reduceEqDiff, Int.reduceToNat, reduceCtorEq, ↓reduceIte, hb60, hb61, hb61d]
                                   repeat' (first | refine And.intro ?_ ?_ | intro hg)
                                   all_goals (try simp (disch := omega) only [wrap_fits])
                                   all_goals first | (refine hL.red ?_ n5; exact Red.auto) | exact trivial | assumption | omega | exact wrap_fits (by omega) (by omega))
                                | (simp_all; done)
                                | (simp_all; omega)
                          have n3 : L 27 lz8_laws_FnNearOf [(3, .pp 2 0), (4, .v (.int .i64 y_2)), (5, .sl 4), (6, .v (.int .i64 t6)), (30, .agg [.v (.int .i64 y), .sl 3]), (34, .v (.int .i64 (y_3.getD t6.toNat 0))), (36, .v (.int .i64 y_2))] [.row false (.ints .u8 a0), .glob 0 (.ints .u8 tab0), .box [.v (.int .i64 y), .sl 3], .row true (.trips y_1), .row true (.ints .i64 y_3)] := by
                            refine hL.step [(5, [], 26, lz7_laws_FnNearOf)] (by kernel_rfl) ⟨?_, trivial⟩
                            · simp (maxSteps := 4000000) only [go_sem, Nat.reduceBEq, Nat.reduceLT, Nat.reduceAdd, Nat.reduceLeDiff, Nat.reduceSub, Nat.reduceEqDiff, Int.reduceToNat, reduceCtorEq, ↓reduceIte, hb60, hb61, hb61d]
                              repeat' (first | refine And.intro ?_ ?_ | intro hg)
                              all_goals (try simp (disch := omega) only [wrap_fits])
                              all_goals first
                                | (refine hL.red ?_ n4; exact Red.auto)
                                | exact trivial
                                | assumption
                                | omega
                                | exact wrap_fits (by omega) (by omega)
                                | (refine OpK_callA (k_impl_NearOf y y_1 (y_3.getD t6.toNat 0) (h := hr1)) [3, 1] [] ?_
                                   rintro x Hc' ⟨rfl, rfl⟩ hlen
                                   simp (maxSteps := 4000000) only [go_sem, Nat.reduceBEq, Nat.reduceLT, Nat.reduceAdd, Nat.reduceLeDiff, Nat.reduceSub, Nat.reduceEqDiff, Int.reduceToNat, reduceCtorEq, ↓reduceIte, hb60, hb61, hb61d]
                                   repeat' (first | refine And.intro ?_ ?_ | intro hg)
                                   all_goals (try simp (disch := omega) only [wrap_fits])
                                   all_goals first
                                     | (refine hL.red ?_ n4; exact Red.auto)
                                     | exact trivial
                                     | assumption
                                     | omega
                                     | exact wrap_fits (by omega) (by omega)
                                     | (simp_all; done)
                                     | (simp_all; omega))
                                | (simp (maxSteps := 4000000) only [go_sem, Nat.reduceBEq, Nat.reduceLT, Nat.reduceAdd, Nat.reduceLeDiff, Nat.reduceSub, Nat.reduceEqDiff, Int.reduceToNat, reduceCtorEq, ↓reduceIte, hb60, hb61, hb61d]
                                   repeat' (first | refine And.intro ?_ ?_ | intro hg)
                                   all_goals (try simp (disch := omega) only [wrap_fits])
                                   all_goals first | (refine hL.red ?_ n4; exact Red.auto) | exact trivial | assumption | omega | exact wrap_fits (by omega) (by omega))
                                | (simp_all; done)
                                | (simp_all; omega)
                          have n2 : L 28 lz9_laws_FnNearOf [(3, .pp 2 0), (4, .v (.int .i64 y_2)), (5, .sl 4), (6, .v (.int .i64 t6)), (30, .agg [.v (.int .i64 y), .sl 3]), (33, .ep 4 t6.toNat 1 0), (36, .v (.int .i64 y_2))] [.row false (.ints .u8 a0), .glob 0 (.ints .u8 tab0), .box [.v (.int .i64 y), .sl 3], .row true (.trips y_1), .row true (.ints .i64 y_3)] := by
                            refine hL.step [(4, [], 27, lz8_laws_FnNearOf)] (by kernel_rfl) ⟨?_, trivial⟩
                            · exact hL.edge n3
                          have n1 : L 29 lz10_laws_FnNearOf [(3, .pp 2 0), (4, .v (.int .i64 y_2)), (5, .sl 4), (6, .v (.int .i64 t6)), (30, .agg [.v (.int .i64 y), .sl 3]), (31, .sl 4), (32, .v (.int .i64 t6)), (36, .v (.int .i64 y_2))] [.row false (.ints .u8 a0), .glob 0 (.ints .u8 tab0), .box [.v (.int .i64 y), .sl 3], .row true (.trips y_1), .row true (.ints .i64 y_3)] := by
                            refine hL.step [(3, [], 28, lz9_laws_FnNearOf)] (by kernel_rfl) ⟨?_, trivial⟩
                            · exact hL.edge n2
                          have n21 : L 28 lz11_laws_FnNearOf [(3, .pp 2 0), (4, .v (.int .i64 y_2)), (5, .sl 4), (6, .v (.int .i64 t6)), (34, .v (.int .i64 (y_3.getD t6.toNat 0))), (36, .v (.int .i64 y_2))] [.row false (.ints .u8 a0), .glob 0 (.ints .u8 tab0), .box [.v (.int .i64 y), .sl 3], .row true (.trips y_1), .row true (.ints .i64 y_3)] := by
                            refine hL.step [(0, [], 27, lz8_laws_FnNearOf)] (by kernel_rfl) ⟨?_, trivial⟩
                            · exact hL.edge n3
                          have n20 : L 29 lz12_laws_FnNearOf [(3, .pp 2 0), (4, .v (.int .i64 y_2)), (5, .sl 4), (6, .v (.int .i64 t6)), (33, .ep 4 t6.toNat 1 0), (36, .v (.int .i64 y_2))] [.row false (.ints .u8 a0), .glob 0 (.ints .u8 tab0), .box [.v (.int .i64 y), .sl 3], .row true (.trips y_1), .row true (.ints .i64 y_3)] := by
                            refine hL.step [(0, [], 28, lz9_laws_FnNearOf), (4, [], 28, lz11_laws_FnNearOf)] (by kernel_rfl) ⟨?_, ?_, trivial⟩
                            · exact hL.edge n2
                            · exact hL.edge n21
                          have n0 : L 30 lz0_laws_FnNearOf [(3, .pp 2 0), (4, .v (.int .i64 y_2)), (5, .sl 4), (6, .v (.int .i64 t6)), (31, .sl 4), (32, .v (.int .i64 t6)), (36, .v (.int .i64 y_2))] [.row false (.ints .u8 a0), .glob 0 (.ints .u8 tab0), .box [.v (.int .i64 y), .sl 3], .row true (.trips y_1), .row true (.ints .i64 y_3)] := by
                            refine hL.step [(0, [], 29, lz10_laws_FnNearOf), (3, [], 29, lz12_laws_FnNearOf)] (by kernel_rfl) ⟨?_, ?_, trivial⟩
                            · exact hL.edge n1
                            · exact hL.edge n20
                          simp (maxSteps := 4000000) only [go_sem, Nat.reduceBEq, Nat.reduceLT, Nat.reduceAdd, Nat.reduceLeDiff, Nat.reduceSub, Nat.reduceEqDiff, Int.reduceToNat, reduceCtorEq, ↓reduceIte, hb60, hb61, hb61d]
                          repeat' (first | refine And.intro ?_ ?_ | intro hg)
                          all_goals (try simp (disch := omega) only [wrap_fits])
                          all_goals first
                            | (refine hL.red ?_ n0; exact Red.auto)
                            | exact trivial
                            | assumption
                            | omega
                            | exact wrap_fits (by omega) (by omega)
                            | (simp (maxSteps := 4000000) only [go_sem, Nat.reduceBEq, Nat.reduceLT, Nat.reduceAdd, Nat.reduceLeDiff, Nat.reduceSub, Nat.reduceEqDiff, Int.reduceToNat, reduceCtorEq, ↓reduceIte, hb60, hb61, hb61d]
                               repeat' (first | refine And.intro ?_ ?_ | intro hg)
                               all_goals (try simp (disch := omega) only [wrap_fits])
                               all_goals first | (refine hL.red ?_ n0; exact Red.auto) | exact trivial | assumption | omega | exact wrap_fits (by omega) (by omega))
                            | (simp_all; done)
                            | (simp_all; omega)
                        · clear hp0 hr1 hr2
                          refine awp_cond (t := 62) rfl (fun hc => by cases hc) (fun _ => ?_)
                          refine awp_skip ?_
                          (try simp only [Thn, InBlk, ↓reduceIte, Nat.reduceEqDiff])
                          (try simp only [Thn, InBlk, ↓reduceIte, Nat.reduceEqDiff])
                          refine ⟨_, h, ?_⟩
                          exact Red.selA [0, 1, 2, 3, 4] Red.auto
                · clear h
                  rintro ⟨⟩ h
                  try dsimp only at h
                  try dsimp only
                  replace h := chk_some h
                  obtain ⟨hp0, h⟩ := h
                  refine awp_regE ftCOk [(3, .pp 2 0), (4, .v (.int .i64 y_2)), (5, .sl 4), (6, .v (.int .i64 (t6 + 1)))] [.row false (.ints .u8 a0), .glob 0 (.ints .u8 tab0), .box [.v (.int .i64 y), .sl 3], .row true (.trips y_1), .row true (.ints .i64 y_3)] ?_
                  clear hp0
                  obtain rfl := Option.some.inj h
                  refine LoopQ.next ?_
                  exact Red.auto
              · replace h := bite_f h hc56
                refine awp_exit ?_
                (try simp only [Thn, InBlk, ↓reduceIte, Nat.reduceEqDiff])
                obtain rfl := Option.some.inj h
                refine LoopQ.out rfl ?_
                exact Red.auto
            · clear hx
              rcases x63 with (⟨⟩ | ⟨⟩)
              · try dsimp only [Sum.elim_inl, Sum.elim_inr] at h
                try dsimp only [Sum.elim_inl, Sum.elim_inr]
                (try simp only [Thn, InBlk, ↓reduceIte, Nat.reduceEqDiff])
                (try simp only [Thn, InBlk, ↓reduceIte, Nat.reduceEqDiff])
                (try simp only [Thn, InBlk, ↓reduceIte, Nat.reduceEqDiff])
                refine hK35 _ _ ?_
                clear hK35
                replace h := bind_some h
                obtain ⟨⟨y_8, y_9⟩, hr0, h⟩ := h
                try dsimp only at h
                replace h := bind_some h
                obtain ⟨y_10, hr1, h⟩ := h
                try dsimp only at h
                replace h := bind_some h
                obtain ⟨y_11, hr2, h⟩ := h
                try dsimp only at h
                cases y_11
                · replace h := bite_f h rfl
                  refine awp_to [(2, .v (.bool false))] [.row false (.ints .u8 a0), .glob 0 (.ints .u8 tab0), .box [.v (.int .i64 y), .sl 3], .row true (.trips y_1), .row true (.ints .i64 y_3), .row true (.trips y_9), .row true (.ints .i64 y_10)] ?_ ?_
                  · clear h
                    intro K hK
                    refine awp_region ftCOk ?_
                    simp (maxSteps := 4000000) only [go_sem, Nat.reduceBEq, Nat.reduceLT, Nat.reduceAdd, Nat.reduceLeDiff, Nat.reduceSub, Nat.reduceEqDiff, Int.reduceToNat, reduceCtorEq, ↓reduceIte]
                    repeat' (first | refine And.intro ?_ ?_ | intro hg)
                    all_goals (try simp (disch := omega) only [wrap_fits])
                    all_goals first
                      | (refine hK _ _ ?_; exact Red.auto)
                      | exact trivial
                      | assumption
                      | omega
                      | exact wrap_fits (by omega) (by omega)
                      | (refine wpA_callA (k_impl_TurnGraph y y_1 (h := hr0)) [3] [] ?_
                         rintro x Hc' ⟨rfl, rfl⟩ hlen
                         refine vcOps_sound ftCOk ?_
                         simp (maxSteps := 4000000) only [go_sem, Nat.reduceBEq, Nat.reduceLT, Nat.reduceAdd, Nat.reduceLeDiff, Nat.reduceSub, Nat.reduceEqDiff, Int.reduceToNat, reduceCtorEq, ↓reduceIte]
                         repeat' (first | refine And.intro ?_ ?_ | intro hg)
                         all_goals (try simp (disch := omega) only [wrap_fits])
                         all_goals first
                           | (refine hK _ _ ?_; exact Red.auto)
                           | exact trivial
                           | assumption
                           | omega
                           | exact wrap_fits (by omega) (by omega)
                           | (refine wpA_callA (k_impl_NearOf y_8 y_9 y_2 (h := hr1)) [5, 1] [] ?_
                              rintro x Hc' ⟨rfl, rfl⟩ hlen
                              refine vcOps_sound ftCOk ?_
                              simp (maxSteps := 4000000) only [go_sem, Nat.reduceBEq, Nat.reduceLT, Nat.reduceAdd, Nat.reduceLeDiff, Nat.reduceSub, Nat.reduceEqDiff, Int.reduceToNat, reduceCtorEq, ↓reduceIte]
                              repeat' (first | refine And.intro ?_ ?_ | intro hg)
                              all_goals (try simp (disch := omega) only [wrap_fits])
                              all_goals first
                                | (refine hK _ _ ?_; exact Red.auto)
                                | exact trivial
                                | assumption
                                | omega
                                | exact wrap_fits (by omega) (by omega)
                                | (refine wpA_callA (k_laws_sameInts y_10 y_3 (h := hr2)) [6, 4] [] ?_
                                   rintro x Hc' ⟨rfl, rfl⟩ hlen
                                   refine vcOps_sound ftCOk ?_
                                   simp (maxSteps := 4000000) only [go_sem, Nat.reduceBEq, Nat.reduceLT, Nat.reduceAdd, Nat.reduceLeDiff, Nat.reduceSub, Nat.reduceEqDiff, Int.reduceToNat, reduceCtorEq, ↓reduceIte]
                                   repeat' (first | refine And.intro ?_ ?_ | intro hg)
                                   all_goals (try simp (disch := omega) only [wrap_fits])
                                   all_goals first
                                     | (refine hK _ _ ?_; exact Red.auto)
                                     | exact trivial
                                     | assumption
                                     | omega
                                     | exact wrap_fits (by omega) (by omega)
                                     | (simp_all; done)
                                     | (simp_all; omega))
                                | (simp_all; done)
                                | (simp_all; omega))
                           | (simp_all; done)
                           | (simp_all; omega))
                      | (simp_all; done)
                      | (simp_all; omega)
                  · clear hr0 hr1 hr2
                    refine awp_ret ?_
                    (try simp only [Thn, InBlk, ↓reduceIte, Nat.reduceEqDiff])
                    obtain rfl := Option.some.inj h
                    refine ⟨by simp, _, [0, 1], (by simp only [go_sem, Nat.reduceBEq, Nat.reduceLT, Nat.reduceAdd, Nat.reduceLeDiff, Nat.reduceSub, Nat.reduceEqDiff, Int.reduceToNat, reduceCtorEq, ↓reduceIte]; exact rfl), ?_, ?_, ?_, ?_⟩
                    · first | exact trivial | exact ⟨trivial, trivial⟩ | exact ⟨trivial, trivial, trivial⟩ | exact ⟨trivial, trivial, trivial, trivial⟩ | (simp only [allP, and_true, true_and]; done) | (simp only [allP, and_true, true_and]; omega)
                    · simp [selOk, pos]
                    · simp
                    · first | exact ⟨rfl, rfl⟩ | (simp only [go_sem, Nat.reduceBEq, Nat.reduceLT, Nat.reduceAdd, Nat.reduceLeDiff, Nat.reduceSub, Nat.reduceEqDiff, Int.reduceToNat, reduceCtorEq, ↓reduceIte]; done) | (simp [go_sem, Nat.reduceBEq, Nat.reduceLT, Nat.reduceAdd, Nat.reduceLeDiff, Nat.reduceSub, Nat.reduceEqDiff, Int.reduceToNat, reduceCtorEq, ↓reduceIte]; done) | (simp only [go_sem, Nat.reduceBEq, Nat.reduceLT, Nat.reduceAdd, Nat.reduceLeDiff, Nat.reduceSub, Nat.reduceEqDiff, Int.reduceToNat, reduceCtorEq, ↓reduceIte]; exact ⟨rfl, rfl⟩) | (simp_all [go_sem, Nat.reduceBEq, Nat.reduceLT, Nat.reduceAdd, Nat.reduceLeDiff, Nat.reduceSub, Nat.reduceEqDiff, Int.reduceToNat, reduceCtorEq, ↓reduceIte]; done)
                · replace h := bite_t h rfl
                  replace h := bind_some h
                  obtain ⟨y_12, hr3, h⟩ := h
                  try dsimp only at h
                  refine awp_to [(2, .v (.bool y_12))] [.row false (.ints .u8 a0), .glob 0 (.ints .u8 tab0), .box [.v (.int .i64 y), .sl 3], .row true (.trips y_1), .row true (.ints .i64 y_3), .row true (.trips y_9), .row true (.ints .i64 y_10)] ?_ ?_
                  · clear h
                    intro K hK
                    refine awp_region ftCOk ?_
                    simp (maxSteps := 4000000) only [go_sem, Nat.reduceBEq, Nat.reduceLT, Nat.reduceAdd, Nat.reduceLeDiff, Nat.reduceSub, Nat.reduceEqDiff, Int.reduceToNat, reduceCtorEq, ↓reduceIte]
                    repeat' (first | refine And.intro ?_ ?_ | intro hg)
                    all_goals (try simp (disch := omega) only [wrap_fits])
                    all_goals first
                      | (refine hK _ _ ?_; exact Red.auto)
                      | exact trivial
                      | assumption
                      | omega
                      | exact wrap_fits (by omega) (by omega)
                      | (refine wpA_callA (k_impl_TurnGraph y y_1 (h := hr0)) [3] [] ?_
                         rintro x Hc' ⟨rfl, rfl⟩ hlen
                         refine vcOps_sound ftCOk ?_
                         simp (maxSteps := 4000000) only [go_sem, Nat.reduceBEq, Nat.reduceLT, Nat.reduceAdd, Nat.reduceLeDiff, Nat.reduceSub, Nat.reduceEqDiff, Int.reduceToNat, reduceCtorEq, ↓reduceIte]
                         repeat' (first | refine And.intro ?_ ?_ | intro hg)
                         all_goals (try simp (disch := omega) only [wrap_fits])
                         all_goals first
                           | (refine hK _ _ ?_; exact Red.auto)
                           | exact trivial
                           | assumption
                           | omega
                           | exact wrap_fits (by omega) (by omega)
                           | (refine wpA_callA (k_impl_NearOf y_8 y_9 y_2 (h := hr1)) [5, 1] [] ?_
                              rintro x Hc' ⟨rfl, rfl⟩ hlen
                              refine vcOps_sound ftCOk ?_
                              simp (maxSteps := 4000000) only [go_sem, Nat.reduceBEq, Nat.reduceLT, Nat.reduceAdd, Nat.reduceLeDiff, Nat.reduceSub, Nat.reduceEqDiff, Int.reduceToNat, reduceCtorEq, ↓reduceIte]
                              repeat' (first | refine And.intro ?_ ?_ | intro hg)
                              all_goals (try simp (disch := omega) only [wrap_fits])
                              all_goals first
                                | (refine hK _ _ ?_; exact Red.auto)
                                | exact trivial
                                | assumption
                                | omega
                                | exact wrap_fits (by omega) (by omega)
                                | (refine wpA_callA (k_laws_sameInts y_10 y_3 (h := hr2)) [6, 4] [] ?_
                                   rintro x Hc' ⟨rfl, rfl⟩ hlen
                                   refine vcOps_sound ftCOk ?_
                                   simp (maxSteps := 4000000) only [go_sem, Nat.reduceBEq, Nat.reduceLT, Nat.reduceAdd, Nat.reduceLeDiff, Nat.reduceSub, Nat.reduceEqDiff, Int.reduceToNat, reduceCtorEq, ↓reduceIte]
                                   repeat' (first | refine And.intro ?_ ?_ | intro hg)
                                   all_goals (try simp (disch := omega) only [wrap_fits])
                                   all_goals first
                                     | (refine hK _ _ ?_; exact Red.auto)
                                     | exact trivial
                                     | assumption
                                     | omega
                                     | exact wrap_fits (by omega) (by omega)
                                     | (refine wpA_guard rfl rfl ?_
                                        refine wpA_callA (k_laws_alive  (h := hr3)) [] [] ?_
                                        rintro x Hc' ⟨rfl, rfl⟩ hlen
                                        refine vcOps_sound ftCOk ?_
                                        simp (maxSteps := 4000000) only [go_sem, Nat.reduceBEq, Nat.reduceLT, Nat.reduceAdd, Nat.reduceLeDiff, Nat.reduceSub, Nat.reduceEqDiff, Int.reduceToNat, reduceCtorEq, ↓reduceIte]
                                        repeat' (first | refine And.intro ?_ ?_ | intro hg)
                                        all_goals (try simp (disch := omega) only [wrap_fits])
                                        all_goals first
                                          | (refine hK _ _ ?_; exact Red.auto)
                                          | exact trivial
                                          | assumption
                                          | omega
                                          | exact wrap_fits (by omega) (by omega)
                                          | (simp_all; done)
                                          | (simp_all; omega))
                                     | (simp_all; done)
                                     | (simp_all; omega))
                                | (simp_all; done)
                                | (simp_all; omega))
                           | (simp_all; done)
                           | (simp_all; omega))
                      | (simp_all; done)
                      | (simp_all; omega)
                  · clear hr0 hr1 hr2 hr3
                    refine awp_ret ?_
                    (try simp only [Thn, InBlk, ↓reduceIte, Nat.reduceEqDiff])
                    obtain rfl := Option.some.inj h
                    refine ⟨by simp, _, [0, 1], (by simp only [go_sem, Nat.reduceBEq, Nat.reduceLT, Nat.reduceAdd, Nat.reduceLeDiff, Nat.reduceSub, Nat.reduceEqDiff, Int.reduceToNat, reduceCtorEq, ↓reduceIte]; exact rfl), ?_, ?_, ?_, ?_⟩
                    · first | exact trivial | exact ⟨trivial, trivial⟩ | exact ⟨trivial, trivial, trivial⟩ | exact ⟨trivial, trivial, trivial, trivial⟩ | (simp only [allP, and_true, true_and]; done) | (simp only [allP, and_true, true_and]; omega)
                    · simp [selOk, pos]
                    · simp
                    · first | exact ⟨rfl, rfl⟩ | (simp only [go_sem, Nat.reduceBEq, Nat.reduceLT, Nat.reduceAdd, Nat.reduceLeDiff, Nat.reduceSub, Nat.reduceEqDiff, Int.reduceToNat, reduceCtorEq, ↓reduceIte]; done) | (simp [go_sem, Nat.reduceBEq, Nat.reduceLT, Nat.reduceAdd, Nat.reduceLeDiff, Nat.reduceSub, Nat.reduceEqDiff, Int.reduceToNat, reduceCtorEq, ↓reduceIte]; done) | (simp only [go_sem, Nat.reduceBEq, Nat.reduceLT, Nat.reduceAdd, Nat.reduceLeDiff, Nat.reduceSub, Nat.reduceEqDiff, Int.reduceToNat, reduceCtorEq, ↓reduceIte]; exact ⟨rfl, rfl⟩) | (simp_all [go_sem, Nat.reduceBEq, Nat.reduceLT, Nat.reduceAdd, Nat.reduceLeDiff, Nat.reduceSub, Nat.reduceEqDiff, Int.reduceToNat, reduceCtorEq, ↓reduceIte]; done)
              · try dsimp only [Sum.elim_inl, Sum.elim_inr] at h
                try dsimp only [Sum.elim_inl, Sum.elim_inr]
                (try simp only [Thn, InBlk, ↓reduceIte, Nat.reduceEqDiff])
                obtain rfl := Option.some.inj h
                refine ⟨by simp, _, [0, 1], (by simp only [go_sem, Nat.reduceBEq, Nat.reduceLT, Nat.reduceAdd, Nat.reduceLeDiff, Nat.reduceSub, Nat.reduceEqDiff, Int.reduceToNat, reduceCtorEq, ↓reduceIte]; exact rfl), ?_, ?_, ?_, ?_⟩
                · first | exact trivial | exact ⟨trivial, trivial⟩ | exact ⟨trivial, trivial, trivial⟩ | exact ⟨trivial, trivial, trivial, trivial⟩ | (simp only [allP, and_true, true_and]; done) | (simp only [allP, and_true, true_and]; omega)
                · simp [selOk, pos]
                · simp
                · first | exact ⟨rfl, rfl⟩ | (simp only [go_sem, Nat.reduceBEq, Nat.reduceLT, Nat.reduceAdd, Nat.reduceLeDiff, Nat.reduceSub, Nat.reduceEqDiff, Int.reduceToNat, reduceCtorEq, ↓reduceIte]; done) | (simp [go_sem, Nat.reduceBEq, Nat.reduceLT, Nat.reduceAdd, Nat.reduceLeDiff, Nat.reduceSub, Nat.reduceEqDiff, Int.reduceToNat, reduceCtorEq, ↓reduceIte]; done) | (simp only [go_sem, Nat.reduceBEq, Nat.reduceLT, Nat.reduceAdd, Nat.reduceLeDiff, Nat.reduceSub, Nat.reduceEqDiff, Int.reduceToNat, reduceCtorEq, ↓reduceIte]; exact ⟨rfl, rfl⟩) | (simp_all [go_sem, Nat.reduceBEq, Nat.reduceLT, Nat.reduceAdd, Nat.reduceLeDiff, Nat.reduceSub, Nat.reduceEqDiff, Int.reduceToNat, reduceCtorEq, ↓reduceIte]; done)
end Go.Proofs.YtdjckcedpnabpaaDoor

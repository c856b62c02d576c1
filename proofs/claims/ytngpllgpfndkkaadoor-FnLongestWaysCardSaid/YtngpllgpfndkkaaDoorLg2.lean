/- The code computes the functions that were taken out of it. -/
import Derived.Test.YtngpllgpfndkkaaDoorLg1
set_option maxRecDepth 100000
set_option maxHeartbeats 4000000
set_option linter.unusedSimpArgs false
set_option linter.unusedVariables false
namespace Go.Proofs.YtngpllgpfndkkaaDoor
open Go Go.Av
attribute [local irreducible] wpA OpK awp
attribute [local go_sem] pw8_32 pw16_32 pw24_32 pw27_32 buildQ placesOf buildCells List.toList_toArray vcQg gfind gfree gput un3_agg unI_int unB_bool unK_int guardU skipV resVs resV vcD_nil vcD_cons vcT_fin vcT_free vcT_one vcT_two opS vcD1 roH roOb ftNone ftAdd oneOrTup AV.detup AV.ren AV.ren2 AV.ren1 pos selH AObj.ren fitAll fit fit1 fit1s matchAll matchOb exIds AObj.excl Env.killp pastH setAll upId AObj.past AObj.back AV.killp AV.killp1 AV.killp2 Nat.sub_self Nat.lt_irrefl Bool.or_self vcOps vcOp vcQs vcQ dstOk quiet eff pcall plain valsOf ev ofConst argEnv List.lookup Nat.add_eq decide_true decide_false Env.put binV wrapTo unV convV loadQ indexQ callQ builtinQ rd rdI globC AObj.globC partAV isAggD isArrayD addrAdd boxE storeE storeCE makeE makeNE nestZero Cont.child Cont.setChild buildSliceE buildFold appendE sliceE boundAV subObj asCells Value.oneCell' contZero Cont.sets Cont.app Cont.sub Cont.len Cont.esz Cont.cell Cont.cells Cont.flat AV.det AV.det1 guardV AObj.unview AObj.kill Env.kill AV.kill AV.kill1 AV.kill2 fits64 Option.getD_some Option.getD_none Option.map_some Option.map_none Option.bind_some List.map_cons List.map_nil List.getElem?_cons_zero List.getElem?_cons_succ List.getElem?_nil true_and and_true List.getElem?_toArray List.cons_append List.nil_append List.length_cons List.length_nil List.set_cons_zero List.set_cons_succ List.take_succ_cons List.take_zero List.drop_succ_cons List.drop_zero List.drop_nil List.take_nil List.contains_cons List.contains_nil List.elem_cons List.elem_nil Bool.not_true Bool.not_false Bool.false_eq_true Bool.or_false Bool.or_true Bool.and_true Bool.and_false Bool.true_and Bool.false_and List.all_cons List.all_nil List.size_toArray Nat.lt_add_one Nat.zero_lt_succ Nat.one_ne_zero Nat.zero_ne_one and_self List.replicate_succ List.replicate_zero Int.toNat_natCast Int.toNat_zero Value.cells false_implies true_implies forall_const Thn InBlk Nat.zero_add Nat.add_zero Int.zero_add Ele Env.ren Option.some.injEq AV.v.injEq AV.sl.injEq AV.pp.injEq AV.ep.injEq AV.agg.injEq List.cons.injEq Value.int.injEq Value.bool.injEq Value.string.injEq true_or or_true or_false false_or tsz0 tby0 tz0 Tryd.underlying0 tsz1 tby1 tz1 Tryd.underlying1 tsz2 tby2 tz2 Tryd.underlying2 tsz3 tby3 tz3 Tryd.underlying3 tsz4 tby4 tz4 Tryd.underlying4 tsz5 tby5 tz5 Tryd.underlying5 tsz6 tby6 tz6 Tryd.underlying6 tsz7 tby7 tz7 Tryd.underlying7 fo7_0 fo7_1 fo7_2 fo7_3 tsz8 tby8 tz8 Tryd.underlying8 fo8_0 fo8_1 fo8_2 fo8_3 tsz9 tby9 Tryd.underlying9 tsz10 tby10 Tryd.underlying10 tsz11 tby11 Tryd.underlying11 tsz12 tby12 tz12 Tryd.underlying12 tsz13 tby13 Tryd.underlying13 fo13_0 fo13_1 tsz14 tby14 Tryd.underlying14 fo14_0 fo14_1 tsz15 tby15 tz15 Tryd.underlying15 tsz16 tby16 tz16 Tryd.underlying16 tsz17 tby17 tz17 Tryd.underlying17 tsz18 tby18 tz18 Tryd.underlying18 fo18_0 tsz19 tby19 tz19 Tryd.underlying19 fo19_0 tsz20 tby20 tz20 Tryd.underlying20 tsz21 tby21 tz21 Tryd.underlying21 tsz22 tby22 tz22 Tryd.underlying22 tsz23 tby23 tz23 Tryd.underlying23 fo23_0 fo23_1 tsz24 tby24 tz24 Tryd.underlying24 fo24_0 fo24_1 tsz25 tby25 tz25 Tryd.underlying25 tsz26 tby26 tz26 Tryd.underlying26 tsz27 tby27 tz27 Tryd.underlying27 tsz28 tby28 tz28 Tryd.underlying28 tsz29 tby29 tz29 Tryd.underlying29 fo29_0 fo29_1 tsz30 tby30 tz30 Tryd.underlying30 fo30_0 fo30_1 tsz31 tby31 tz31 Tryd.underlying31 tsz32 tby32 tz32 Tryd.underlying32 tsz33 tby33 tz33 Tryd.underlying33 tsz34 tby34 tz34 Tryd.underlying34 tsz35 tby35 tz35 Tryd.underlying35 tsz36 tby36 tz36 Tryd.underlying36 tsz37 tby37 tz37 Tryd.underlying37 tsz38 tby38 tz38 Tryd.underlying38 tsz39 tby39 tz39 Tryd.underlying39 tsz40 tby40 tz40 Tryd.underlying40 tsz41 tby41 tz41 Tryd.underlying41 tsz42 tby42 tz42 Tryd.underlying42 tsz43 tby43 tz43 Tryd.underlying43 tsz44 tby44 tz44 Tryd.underlying44 tsz45 tby45 tz45 Tryd.underlying45 fo45_0 fo45_1 fo45_2 tsz46 tby46 tz46 Tryd.underlying46 fo46_0 fo46_1 fo46_2 tsz47 tby47 tz47 Tryd.underlying47 tsz48 tby48 tz48 Tryd.underlying48 tsz49 tby49 tz49 Tryd.underlying49 tsz50 tby50 tz50 Tryd.underlying50 tsz51 tby51 tz51 Tryd.underlying51 tsz52 tby52 tz52 Tryd.underlying52 tsz53 tby53 tz53 Tryd.underlying53 tsz54 tby54 tz54 Tryd.underlying54 tsz55 tby55 tz55 Tryd.underlying55 tsz56 tby56 tz56 Tryd.underlying56 tsz57 tby57 tz57 Tryd.underlying57 tsz58 tby58 tz58 Tryd.underlying58 tsz59 tby59 tz59 Tryd.underlying59 tsz60 tby60 tz60 Tryd.underlying60 tsz61 tby61 tz61 Tryd.underlying61 tsz62 tby62 tz62 Tryd.underlying62 tsz63 tby63 tz63 Tryd.underlying63 tsz64 tby64 tz64 Tryd.underlying64 tsz65 tby65 tz65 Tryd.underlying65 tsz66 tby66 tz66 Tryd.underlying66 tsz67 tby67 tz67 Tryd.underlying67 tsz68 tby68 tz68 Tryd.underlying68 tsz69 tby69 tz69 Tryd.underlying69 tsz70 tby70 tz70 Tryd.underlying70 tsz71 tby71 tz71 Tryd.underlying71 tsz72 tby72 tz72 Tryd.underlying72 tsz73 tby73 tz73 Tryd.underlying73 tsz74 tby74 tz74 Tryd.underlying74 tsz75 tby75 tz75 Tryd.underlying75 tsz76 tby76 tz76 Tryd.underlying76 tsz77 tby77 tz77 Tryd.underlying77 tsz78 tby78 tz78 Tryd.underlying78 fo78_0 fo78_1 fo78_2 tsz79 tby79 tz79 Tryd.underlying79 tsz80 tby80 tz80 Tryd.underlying80 tsz81 tby81 tz81 Tryd.underlying81 fo81_0 fo81_1 tsz82 tby82 tz82 Tryd.underlying82 fo82_0 fo82_1 tsz83 tby83 tz83 Tryd.underlying83 tsz84 tby84 tz84 Tryd.underlying84 tsz85 tby85 tz85 Tryd.underlying85 tsz86 tby86 tz86 Tryd.underlying86 tsz87 tby87 tz87 Tryd.underlying87 tsz88 tby88 tz88 Tryd.underlying88 tsz89 tby89 tz89 Tryd.underlying89 tsz90 tby90 tz90 Tryd.underlying90 tsz91 tby91 tz91 Tryd.underlying91 tsz92 tby92 Tryd.underlying92 fo92_0 fo92_1 fo92_2 fo92_3 tsz93 tby93 Tryd.underlying93 fo93_0 fo93_1 fo93_2 fo93_3 tsz94 tby94 tz94 Tryd.underlying94 tsz95 tby95 tz95 Tryd.underlying95 tsz96 tby96 tz96 Tryd.underlying96 tsz97 tby97 tz97 Tryd.underlying97 tsz98 tby98 tz98 Tryd.underlying98 tsz99 tby99 tz99 Tryd.underlying99 tsz100 tby100 tz100 Tryd.underlying100 tsz101 tby101 tz101 Tryd.underlying101 tsz102 tby102 tz102 Tryd.underlying102 tsz103 tby103 tz103 Tryd.underlying103 fo103_0 fo103_1 fo103_2 fo103_3 fo103_4 fo103_5 fo103_6 fo103_7 fo103_8 fo103_9 fo103_10 tsz104 tby104 tz104 Tryd.underlying104 fo104_0 fo104_1 fo104_2 fo104_3 fo104_4 fo104_5 fo104_6 fo104_7 fo104_8 fo104_9 fo104_10 tsz105 tby105 tz105 Tryd.underlying105 l1InG eqEdgeG l4BeforeG isNaNG cmpIntG cmpEndsG toEdgeG ftC
theorem k_impl_BytesValid (a0 : List Int) {r : Bool} (h : impl_BytesValid a0 = some r) :
    FnA Tryd.prog 74 [.sl 0] [.row false (.ints .i64 a0)] [] (fun x H => x = .v (.bool r) ∧ H = [.row false (.ints .i64 a0)]) := by
  unfold impl_BytesValid at h
  refine FnA.of (N := 21) (pin := [0]) (rs := [.tmp 2]) Tryd.func74 rfl en74 rfl rfl (by simp) (by simp; try omega) ?_
  refine awp_reg ftCOk [(0, .sl 0)] [.row false (.ints .i64 a0)] ?_
  refine awp_seq fun K2 hK2 => ?_
  refine awp_reg ftCOk [(0, .sl 0), (7, .v (.bool (decide (2000 < (a0.length : Int)))))] [.row false (.ints .i64 a0)] ?_
  refine awp_cond (t := 7) rfl (fun hc3 => ?_) (fun hc3 => ?_)
  · replace h := bite_t h hc3
    refine awp_reg ftCOk [(2, .v (.bool false))] [.row false (.ints .i64 a0)] ?_
    refine awp_ret ?_
    (try simp only [Thn, InBlk, ↓reduceIte, Nat.reduceEqDiff])
    obtain rfl := Option.some.inj h
    refine ⟨by simp, _, [0], (by simp only [go_sem, Nat.reduceBEq, Nat.reduceLT, Nat.reduceAdd, Nat.reduceLeDiff, Nat.reduceSub, Nat.reduceEqDiff, Int.reduceToNat, reduceCtorEq, ↓reduceIte]; exact rfl), ?_, ?_, ?_, ?_⟩
    · first | exact trivial | exact ⟨trivial, trivial⟩ | exact ⟨trivial, trivial, trivial⟩ | exact ⟨trivial, trivial, trivial, trivial⟩ | (simp only [allP, and_true, true_and]; done) | (simp only [allP, and_true, true_and]; omega)
    · simp [selOk, pos]
    · simp
    · first | exact ⟨rfl, rfl⟩ | (simp only [go_sem, Nat.reduceBEq, Nat.reduceLT, Nat.reduceAdd, Nat.reduceLeDiff, Nat.reduceSub, Nat.reduceEqDiff, Int.reduceToNat, reduceCtorEq, ↓reduceIte]; done) | (simp [go_sem, Nat.reduceBEq, Nat.reduceLT, Nat.reduceAdd, Nat.reduceLeDiff, Nat.reduceSub, Nat.reduceEqDiff, Int.reduceToNat, reduceCtorEq, ↓reduceIte]; done) | (simp only [go_sem, Nat.reduceBEq, Nat.reduceLT, Nat.reduceAdd, Nat.reduceLeDiff, Nat.reduceSub, Nat.reduceEqDiff, Int.reduceToNat, reduceCtorEq, ↓reduceIte]; exact ⟨rfl, rfl⟩) | (simp_all [go_sem, Nat.reduceBEq, Nat.reduceLT, Nat.reduceAdd, Nat.reduceLeDiff, Nat.reduceSub, Nat.reduceEqDiff, Int.reduceToNat, reduceCtorEq, ↓reduceIte]; done)
  · replace h := bite_f h hc3
    refine awp_skip ?_
    (try simp only [Thn, InBlk, ↓reduceIte, Nat.reduceEqDiff])
    refine hK2 _ _ ?_
    clear hK2
    refine awp_seq fun K23 hK23 => ?_
    refine awp_reg ftCOk [(8, .sl 0), (9, .v (.int .i64 (a0.length : Int))), (10, .v (.int .i64 0))] [.row false (.ints .i64 a0)] ?_
    refine awp_block ?_
    replace h := bind_some h
    obtain ⟨x42, hx, h⟩ := h
    refine awp_loopL hx (fun (t10 : Int) => [(8, .sl 0), (9, .v (.int .i64 (a0.length : Int))), (10, .v (.int .i64 t10))]) (fun (t10 : Int) => [.row false (.ints .i64 a0)]) (Sum.elim (fun (_ : Unit) => Exit.exit 0) (fun (_ : Unit) => Exit.ret)) (Sum.elim (fun (_ : Unit) => []) (fun (_ : Unit) => [(2, .v (.bool false))])) (Sum.elim (fun (_ : Unit) => [.row false (.ints .i64 a0)]) (fun (_ : Unit) => [.row false (.ints .i64 a0)])) ?_ ?_ ?_ ?_
    · rintro (⟨⟩ | ⟨⟩) hy <;> cases hy
    · clear h hx
      exact Red.auto
    · clear h hx
      rintro t10 r h
      unfold impl_BytesValid_b0 at h
      try dsimp only at h
      try dsimp only
      refine awp_reg ftCOk [(8, .sl 0), (9, .v (.int .i64 (a0.length : Int))), (10, .v (.int .i64 t10)), (11, .v (.bool (decide (t10 < (a0.length : Int)))))] [.row false (.ints .i64 a0)] ?_
      refine awp_seq fun K37 hK37 => ?_
      refine awp_cond (t := 11) rfl (fun hc38 => ?_) (fun hc38 => ?_)
      · replace h := bite_t h hc38
        refine awp_skip ?_
        (try simp only [Thn, InBlk, ↓reduceIte, Nat.reduceEqDiff])
        refine hK37 _ _ ?_
        clear hK37
        refine awp_seq fun K40 hK40 => ?_
        refine awp_block ?_
        replace h := chk_some h
        obtain ⟨hp0, h⟩ := h
        refine awp_reg ftCOk [(4, .v (.int .i64 (a0.getD t10.toNat 0))), (8, .sl 0), (9, .v (.int .i64 (a0.length : Int))), (10, .v (.int .i64 t10))] [.row false (.ints .i64 a0)] ?_
        clear hp0
        refine awp_reg ftCOk [(8, .sl 0), (9, .v (.int .i64 (a0.length : Int))), (10, .v (.int .i64 t10)), (19, .v (.bool ((decide ((a0.getD t10.toNat 0) < 0)) || (decide (255 < (a0.getD t10.toNat 0))))))] [.row false (.ints .i64 a0)] ?_
        refine awp_cond (t := 19) rfl (fun hc41 => ?_) (fun hc41 => ?_)
        · replace h := bite_t h hc41
          refine awp_reg ftCOk [(2, .v (.bool false))] [.row false (.ints .i64 a0)] ?_
          refine awp_ret ?_
          (try simp only [Thn, InBlk, ↓reduceIte, Nat.reduceEqDiff])
          obtain rfl := Option.some.inj h
          refine LoopQ.out rfl ?_
          exact Red.auto
        · replace h := bite_f h hc41
          refine awp_skip ?_
          (try simp only [Thn, InBlk, ↓reduceIte, Nat.reduceEqDiff])
          (try simp only [Thn, InBlk, ↓reduceIte, Nat.reduceEqDiff])
          refine hK40 _ _ ?_
          clear hK40
          replace h := chk_some h
          obtain ⟨hp0, h⟩ := h
          refine awp_regE ftCOk [(8, .sl 0), (9, .v (.int .i64 (a0.length : Int))), (10, .v (.int .i64 (t10 + 1)))] [.row false (.ints .i64 a0)] ?_
          clear hp0
          obtain rfl := Option.some.inj h
          refine LoopQ.next ?_
          exact Red.auto
      · replace h := bite_f h hc38
        refine awp_exit ?_
        (try simp only [Thn, InBlk, ↓reduceIte, Nat.reduceEqDiff])
        obtain rfl := Option.some.inj h
        refine LoopQ.out rfl ?_
        exact Red.auto
    · clear hx
      rcases x42 with (⟨⟩ | ⟨⟩)
      · try dsimp only [Sum.elim_inl, Sum.elim_inr] at h
        try dsimp only [Sum.elim_inl, Sum.elim_inr]
        (try simp only [Thn, InBlk, ↓reduceIte, Nat.reduceEqDiff])
        (try simp only [Thn, InBlk, ↓reduceIte, Nat.reduceEqDiff])
        (try simp only [Thn, InBlk, ↓reduceIte, Nat.reduceEqDiff])
        refine hK23 _ _ ?_
        clear hK23
        refine awp_reg ftCOk [(2, .v (.bool true))] [.row false (.ints .i64 a0)] ?_
        refine awp_ret ?_
        (try simp only [Thn, InBlk, ↓reduceIte, Nat.reduceEqDiff])
        obtain rfl := Option.some.inj h
        refine ⟨by simp, _, [0], (by simp only [go_sem, Nat.reduceBEq, Nat.reduceLT, Nat.reduceAdd, Nat.reduceLeDiff, Nat.reduceSub, Nat.reduceEqDiff, Int.reduceToNat, reduceCtorEq, ↓reduceIte]; exact rfl), ?_, ?_, ?_, ?_⟩
        · first | exact trivial | exact ⟨trivial, trivial⟩ | exact ⟨trivial, trivial, trivial⟩ | exact ⟨trivial, trivial, trivial, trivial⟩ | (simp only [allP, and_true, true_and]; done) | (simp only [allP, and_true, true_and]; omega)
        · simp [selOk, pos]
        · simp
        · first | exact ⟨rfl, rfl⟩ | (simp only [go_sem, Nat.reduceBEq, Nat.reduceLT, Nat.reduceAdd, Nat.reduceLeDiff, Nat.reduceSub, Nat.reduceEqDiff, Int.reduceToNat, reduceCtorEq, ↓reduceIte]; done) | (simp [go_sem, Nat.reduceBEq, Nat.reduceLT, Nat.reduceAdd, Nat.reduceLeDiff, Nat.reduceSub, Nat.reduceEqDiff, Int.reduceToNat, reduceCtorEq, ↓reduceIte]; done) | (simp only [go_sem, Nat.reduceBEq, Nat.reduceLT, Nat.reduceAdd, Nat.reduceLeDiff, Nat.reduceSub, Nat.reduceEqDiff, Int.reduceToNat, reduceCtorEq, ↓reduceIte]; exact ⟨rfl, rfl⟩) | (simp_all [go_sem, Nat.reduceBEq, Nat.reduceLT, Nat.reduceAdd, Nat.reduceLeDiff, Nat.reduceSub, Nat.reduceEqDiff, Int.reduceToNat, reduceCtorEq, ↓reduceIte]; done)
      · try dsimp only [Sum.elim_inl, Sum.elim_inr] at h
        try dsimp only [Sum.elim_inl, Sum.elim_inr]
        (try simp only [Thn, InBlk, ↓reduceIte, Nat.reduceEqDiff])
        obtain rfl := Option.some.inj h
        refine ⟨by simp, _, [0], (by simp only [go_sem, Nat.reduceBEq, Nat.reduceLT, Nat.reduceAdd, Nat.reduceLeDiff, Nat.reduceSub, Nat.reduceEqDiff, Int.reduceToNat, reduceCtorEq, ↓reduceIte]; exact rfl), ?_, ?_, ?_, ?_⟩
        · first | exact trivial | exact ⟨trivial, trivial⟩ | exact ⟨trivial, trivial, trivial⟩ | exact ⟨trivial, trivial, trivial, trivial⟩ | (simp only [allP, and_true, true_and]; done) | (simp only [allP, and_true, true_and]; omega)
        · simp [selOk, pos]
        · simp
        · first | exact ⟨rfl, rfl⟩ | (simp only [go_sem, Nat.reduceBEq, Nat.reduceLT, Nat.reduceAdd, Nat.reduceLeDiff, Nat.reduceSub, Nat.reduceEqDiff, Int.reduceToNat, reduceCtorEq, ↓reduceIte]; done) | (simp [go_sem, Nat.reduceBEq, Nat.reduceLT, Nat.reduceAdd, Nat.reduceLeDiff, Nat.reduceSub, Nat.reduceEqDiff, Int.reduceToNat, reduceCtorEq, ↓reduceIte]; done) | (simp only [go_sem, Nat.reduceBEq, Nat.reduceLT, Nat.reduceAdd, Nat.reduceLeDiff, Nat.reduceSub, Nat.reduceEqDiff, Int.reduceToNat, reduceCtorEq, ↓reduceIte]; exact ⟨rfl, rfl⟩) | (simp_all [go_sem, Nat.reduceBEq, Nat.reduceLT, Nat.reduceAdd, Nat.reduceLeDiff, Nat.reduceSub, Nat.reduceEqDiff, Int.reduceToNat, reduceCtorEq, ↓reduceIte]; done)
theorem k_impl_CheckSum (a0 : List Int) {r : Int} (h : impl_CheckSum a0 = some r) :
    FnA Tryd.prog 56 [.sl 0] [.row false (.ints .i64 a0)] [] (fun x H => x = .v (.int .i64 r) ∧ H = [.row false (.ints .i64 a0)]) := by
  unfold impl_CheckSum at h
  refine FnA.of (N := 23) (pin := [0]) (rs := [.tmp 2]) Tryd.func56 rfl en56 rfl rfl (by simp) (by simp; try omega) ?_
  refine awp_reg ftCOk [(0, .sl 0)] [.row false (.ints .i64 a0)] ?_
  refine awp_seq fun K2 hK2 => ?_
  replace h := bind_some h
  obtain ⟨y, hr0, h⟩ := h
  try dsimp only at h
  refine awp_to [(0, .sl 0), (8, .v (.bool (!y)))] [.row false (.ints .i64 a0)] ?_ ?_
  · clear h
    intro K hK
    refine awp_region ftCOk ?_
    simp (maxSteps := 4000000) only [go_sem, Nat.reduceBEq, Nat.reduceLT, Nat.reduceAdd, Nat.reduceLeDiff, Nat.reduceSub, Nat.reduceEqDiff, Int.reduceToNat, reduceCtorEq, ↓reduceIte]
    repeat' (first | refine And.intro ?_ ?_ | intro hg)
    all_goals (try simp (disch := omega) only [wrap_fits])
    all_goals first
      | (refine hK _ _ ?_; exact Red.auto)
      | exact trivial
      | assumption
      | omega
      | exact wrap_fits (by omega) (by omega)
      | (refine wpA_callA (k_impl_BytesValid a0 (h := hr0)) [0] [] ?_
         rintro x Hc' ⟨rfl, rfl⟩ hlen
         refine vcOps_sound ftCOk ?_
         simp (maxSteps := 4000000) only [go_sem, Nat.reduceBEq, Nat.reduceLT, Nat.reduceAdd, Nat.reduceLeDiff, Nat.reduceSub, Nat.reduceEqDiff, Int.reduceToNat, reduceCtorEq, ↓reduceIte]
         repeat' (first | refine And.intro ?_ ?_ | intro hg)
         all_goals (try simp (disch := omega) only [wrap_fits])
         all_goals first
           | (refine hK _ _ ?_; exact Red.auto)
           | exact trivial
           | assumption
           | omega
           | exact wrap_fits (by omega) (by omega)
           | (simp_all; done)
           | (simp_all; omega))
      | (simp_all; done)
      | (simp_all; omega)
  · clear hr0
    refine awp_cond (t := 8) rfl (fun hc3 => ?_) (fun hc3 => ?_)
    · replace h := bite_t h hc3
      refine awp_reg ftCOk [(2, .v (.int .i64 (-1)))] [.row false (.ints .i64 a0)] ?_
      refine awp_ret ?_
      (try simp only [Thn, InBlk, ↓reduceIte, Nat.reduceEqDiff])
      obtain rfl := Option.some.inj h
      refine ⟨by simp, _, [0], (by simp only [go_sem, Nat.reduceBEq, Nat.reduceLT, Nat.reduceAdd, Nat.reduceLeDiff, Nat.reduceSub, Nat.reduceEqDiff, Int.reduceToNat, reduceCtorEq, ↓reduceIte]; exact rfl), ?_, ?_, ?_, ?_⟩
      · first | exact trivial | exact ⟨trivial, trivial⟩ | exact ⟨trivial, trivial, trivial⟩ | exact ⟨trivial, trivial, trivial, trivial⟩ | (simp only [allP, and_true, true_and]; done) | (simp only [allP, and_true, true_and]; omega)
      · simp [selOk, pos]
      · simp
      · first | exact ⟨rfl, rfl⟩ | (simp only [go_sem, Nat.reduceBEq, Nat.reduceLT, Nat.reduceAdd, Nat.reduceLeDiff, Nat.reduceSub, Nat.reduceEqDiff, Int.reduceToNat, reduceCtorEq, ↓reduceIte]; done) | (simp [go_sem, Nat.reduceBEq, Nat.reduceLT, Nat.reduceAdd, Nat.reduceLeDiff, Nat.reduceSub, Nat.reduceEqDiff, Int.reduceToNat, reduceCtorEq, ↓reduceIte]; done) | (simp only [go_sem, Nat.reduceBEq, Nat.reduceLT, Nat.reduceAdd, Nat.reduceLeDiff, Nat.reduceSub, Nat.reduceEqDiff, Int.reduceToNat, reduceCtorEq, ↓reduceIte]; exact ⟨rfl, rfl⟩) | (simp_all [go_sem, Nat.reduceBEq, Nat.reduceLT, Nat.reduceAdd, Nat.reduceLeDiff, Nat.reduceSub, Nat.reduceEqDiff, Int.reduceToNat, reduceCtorEq, ↓reduceIte]; done)
    · replace h := bite_f h hc3
      refine awp_skip ?_
      (try simp only [Thn, InBlk, ↓reduceIte, Nat.reduceEqDiff])
      refine hK2 _ _ ?_
      clear hK2
      refine awp_reg ftCOk [(0, .sl 0), (3, .v (.int .i64 7))] [.row false (.ints .i64 a0)] ?_
      refine awp_seq fun K17 hK17 => ?_
      refine awp_reg ftCOk [(3, .v (.int .i64 7)), (9, .sl 0), (10, .v (.int .i64 (a0.length : Int))), (11, .v (.int .i64 0))] [.row false (.ints .i64 a0)] ?_
      refine awp_block ?_
      replace h := bind_some h
      obtain ⟨t3_1, hx, h⟩ := h
      refine awp_loopL hx (fun ((t3, t11) : Int × Int) => [(3, .v (.int .i64 t3)), (9, .sl 0), (10, .v (.int .i64 (a0.length : Int))), (11, .v (.int .i64 t11))]) (fun ((t3, t11) : Int × Int) => [.row false (.ints .i64 a0)]) (fun (t3_1 : Int) => Exit.exit 0) (fun (t3_1 : Int) => [(3, .v (.int .i64 t3_1))]) (fun (t3_1 : Int) => [.row false (.ints .i64 a0)]) ?_ ?_ ?_ ?_
      · rintro t3_1 hy <;> cases hy
      · clear h hx
        exact Red.auto
      · clear h hx
        rintro ⟨t3, t11⟩ r h
        unfold impl_CheckSum_b0 at h
        try dsimp only at h
        try dsimp only
        refine awp_reg ftCOk [(3, .v (.int .i64 t3)), (9, .sl 0), (10, .v (.int .i64 (a0.length : Int))), (11, .v (.int .i64 t11)), (12, .v (.bool (decide (t11 < (a0.length : Int)))))] [.row false (.ints .i64 a0)] ?_
        refine awp_seq fun K27 hK27 => ?_
        refine awp_cond (t := 12) rfl (fun hc28 => ?_) (fun hc28 => ?_)
        · replace h := bite_t h hc28
          refine awp_skip ?_
          (try simp only [Thn, InBlk, ↓reduceIte, Nat.reduceEqDiff])
          refine hK27 _ _ ?_
          clear hK27
          refine awp_seq fun K29 hK29 => ?_
          refine awp_block ?_
          replace h := chk_some h
          obtain ⟨hp0, h⟩ := h
          refine awp_reg ftCOk [(3, .v (.int .i64 t3)), (5, .v (.int .i64 (a0.getD t11.toNat 0))), (9, .sl 0), (10, .v (.int .i64 (a0.length : Int))), (11, .v (.int .i64 t11))] [.row false (.ints .i64 a0)] ?_
          clear hp0
          replace h := chk_some h
          obtain ⟨hp0, h⟩ := h
          replace h := chk_some h
          obtain ⟨hp1, h⟩ := h
          replace h := chk_some h
          obtain ⟨hp2, h⟩ := h
          replace h := chk_some h
          obtain ⟨hp3, h⟩ := h
          refine awp_regE ftCOk [(3, .v (.int .i64 ((((31 * t3) + (a0.getD t11.toNat 0)) + 1) % 251))), (9, .sl 0), (10, .v (.int .i64 (a0.length : Int))), (11, .v (.int .i64 t11))] [.row false (.ints .i64 a0)] ?_
          clear hp0 hp1 hp2 hp3
          (try simp only [Thn, InBlk, ↓reduceIte, Nat.reduceEqDiff])
          (try simp only [Thn, InBlk, ↓reduceIte, Nat.reduceEqDiff])
          refine hK29 _ _ ?_
          clear hK29
          replace h := chk_some h
          obtain ⟨hp0, h⟩ := h
          refine awp_regE ftCOk [(3, .v (.int .i64 ((((31 * t3) + (a0.getD t11.toNat 0)) + 1) % 251))), (9, .sl 0), (10, .v (.int .i64 (a0.length : Int))), (11, .v (.int .i64 (t11 + 1)))] [.row false (.ints .i64 a0)] ?_
          clear hp0
          obtain rfl := Option.some.inj h
          refine LoopQ.next ?_
          exact Red.auto
        · replace h := bite_f h hc28
          refine awp_exit ?_
          (try simp only [Thn, InBlk, ↓reduceIte, Nat.reduceEqDiff])
          obtain rfl := Option.some.inj h
          refine LoopQ.out rfl ?_
          exact Red.auto
      · clear hx
        skip
        · try dsimp only [Sum.elim_inl, Sum.elim_inr] at h
          try dsimp only [Sum.elim_inl, Sum.elim_inr]
          (try simp only [Thn, InBlk, ↓reduceIte, Nat.reduceEqDiff])
          (try simp only [Thn, InBlk, ↓reduceIte, Nat.reduceEqDiff])
          (try simp only [Thn, InBlk, ↓reduceIte, Nat.reduceEqDiff])
          refine hK17 _ _ ?_
          clear hK17
          refine awp_reg ftCOk [(2, .v (.int .i64 t3_1))] [.row false (.ints .i64 a0)] ?_
          refine awp_ret ?_
          (try simp only [Thn, InBlk, ↓reduceIte, Nat.reduceEqDiff])
          obtain rfl := Option.some.inj h
          refine ⟨by simp, _, [0], (by simp only [go_sem, Nat.reduceBEq, Nat.reduceLT, Nat.reduceAdd, Nat.reduceLeDiff, Nat.reduceSub, Nat.reduceEqDiff, Int.reduceToNat, reduceCtorEq, ↓reduceIte]; exact rfl), ?_, ?_, ?_, ?_⟩
          · first | exact trivial | exact ⟨trivial, trivial⟩ | exact ⟨trivial, trivial, trivial⟩ | exact ⟨trivial, trivial, trivial, trivial⟩ | (simp only [allP, and_true, true_and]; done) | (simp only [allP, and_true, true_and]; omega)
          · simp [selOk, pos]
          · simp
          · first | exact ⟨rfl, rfl⟩ | (simp only [go_sem, Nat.reduceBEq, Nat.reduceLT, Nat.reduceAdd, Nat.reduceLeDiff, Nat.reduceSub, Nat.reduceEqDiff, Int.reduceToNat, reduceCtorEq, ↓reduceIte]; done) | (simp [go_sem, Nat.reduceBEq, Nat.reduceLT, Nat.reduceAdd, Nat.reduceLeDiff, Nat.reduceSub, Nat.reduceEqDiff, Int.reduceToNat, reduceCtorEq, ↓reduceIte]; done) | (simp only [go_sem, Nat.reduceBEq, Nat.reduceLT, Nat.reduceAdd, Nat.reduceLeDiff, Nat.reduceSub, Nat.reduceEqDiff, Int.reduceToNat, reduceCtorEq, ↓reduceIte]; exact ⟨rfl, rfl⟩) | (simp_all [go_sem, Nat.reduceBEq, Nat.reduceLT, Nat.reduceAdd, Nat.reduceLeDiff, Nat.reduceSub, Nat.reduceEqDiff, Int.reduceToNat, reduceCtorEq, ↓reduceIte]; done)
theorem k_laws_alive {r : Bool} (h : laws_alive = some r) :
    FnA Tryd.prog 26 [] [] [] (fun x H => x = .v (.bool r) ∧ H = []) := by
  unfold laws_alive at h
  refine FnA.of (N := 4) (pin := []) (rs := [.tmp 0]) Tryd.func26 rfl en26 rfl rfl (by simp) (by simp; try omega) ?_
  refine awp_reg ftCOk [] [] ?_
  replace h := bind_some h
  obtain ⟨y, hr0, h⟩ := h
  try dsimp only at h
  refine awp_to [(0, .v (.bool (y == 7)))] [.row true (.ints .i64 [])] ?_ ?_
  · clear h
    intro K hK
    refine awp_region ftCOk ?_
    simp (maxSteps := 4000000) only [go_sem, Nat.reduceBEq, Nat.reduceLT, Nat.reduceAdd, Nat.reduceLeDiff, Nat.reduceSub, Nat.reduceEqDiff, Int.reduceToNat, reduceCtorEq, ↓reduceIte]
    repeat' (first | refine And.intro ?_ ?_ | intro hg)
    all_goals (try simp (disch := omega) only [wrap_fits])
    all_goals first
      | (refine hK _ _ ?_; exact Red.auto)
      | exact trivial
      | assumption
      | omega
      | exact wrap_fits (by omega) (by omega)
      | (refine wpA_callA (k_impl_CheckSum [] (h := hr0)) [0] [] ?_
         rintro x Hc' ⟨rfl, rfl⟩ hlen
         refine vcOps_sound ftCOk ?_
         simp (maxSteps := 4000000) only [go_sem, Nat.reduceBEq, Nat.reduceLT, Nat.reduceAdd, Nat.reduceLeDiff, Nat.reduceSub, Nat.reduceEqDiff, Int.reduceToNat, reduceCtorEq, ↓reduceIte]
         repeat' (first | refine And.intro ?_ ?_ | intro hg)
         all_goals (try simp (disch := omega) only [wrap_fits])
         all_goals first
           | (refine hK _ _ ?_; exact Red.auto)
           | exact trivial
           | assumption
           | omega
           | exact wrap_fits (by omega) (by omega)
           | (simp_all; done)
           | (simp_all; omega))
      | (simp_all; done)
      | (simp_all; omega)
  · clear hr0
    refine awp_ret ?_
    (try simp only [Thn, InBlk, ↓reduceIte, Nat.reduceEqDiff])
    obtain rfl := Option.some.inj h
    refine ⟨by simp, _, [], (by simp only [go_sem, Nat.reduceBEq, Nat.reduceLT, Nat.reduceAdd, Nat.reduceLeDiff, Nat.reduceSub, Nat.reduceEqDiff, Int.reduceToNat, reduceCtorEq, ↓reduceIte]; exact rfl), ?_, ?_, ?_, ?_⟩
    · first | exact trivial | exact ⟨trivial, trivial⟩ | exact ⟨trivial, trivial, trivial⟩ | exact ⟨trivial, trivial, trivial, trivial⟩ | (simp only [allP, and_true, true_and]; done) | (simp only [allP, and_true, true_and]; omega)
    · simp [selOk, pos]
    · simp
    · first | exact ⟨rfl, rfl⟩ | (simp only [go_sem, Nat.reduceBEq, Nat.reduceLT, Nat.reduceAdd, Nat.reduceLeDiff, Nat.reduceSub, Nat.reduceEqDiff, Int.reduceToNat, reduceCtorEq, ↓reduceIte]; done) | (simp [go_sem, Nat.reduceBEq, Nat.reduceLT, Nat.reduceAdd, Nat.reduceLeDiff, Nat.reduceSub, Nat.reduceEqDiff, Int.reduceToNat, reduceCtorEq, ↓reduceIte]; done) | (simp only [go_sem, Nat.reduceBEq, Nat.reduceLT, Nat.reduceAdd, Nat.reduceLeDiff, Nat.reduceSub, Nat.reduceEqDiff, Int.reduceToNat, reduceCtorEq, ↓reduceIte]; exact ⟨rfl, rfl⟩) | (simp_all [go_sem, Nat.reduceBEq, Nat.reduceLT, Nat.reduceAdd, Nat.reduceLeDiff, Nat.reduceSub, Nat.reduceEqDiff, Int.reduceToNat, reduceCtorEq, ↓reduceIte]; done)
theorem k_spec_LongestWays (a0_0 : Int) (a0_1 : List (Int × Int × Int)) {r : List Int × Bool} (h : spec_LongestWays a0_0 a0_1 = some r) :
    FnA Tryd.prog 29 [.agg [.v (.int .i64 a0_0), .sl 0]] [.row false (.trips a0_1)] [] (fun x H => x = .tup [.sl 1, .v (.bool r.2)] ∧ H = [.row false (.trips a0_1), .row true (.ints .i64 r.1)]) := by
  unfold spec_LongestWays at h
  refine FnA.of (N := 77) (pin := [0]) (rs := [.tmp 2, .tmp 3]) Tryd.func29 rfl en29 rfl rfl (by simp) (by simp; try omega) ?_
  refine awp_reg ftCOk [(1, .pp 1 0)] [.row false (.trips a0_1), .box [.v (.int .i64 a0_0), .sl 0]] ?_
  refine awp_freeze 1 (by rfl) (by rfl) (by exact rfl) ?_
  replace h := bind_some h
  obtain ⟨⟨y, y_1⟩, hr0, h⟩ := h
  try dsimp only at h
  refine awp_to [(1, .pp 1 0), (4, .sl 2), (5, .v (.bool y_1))] [.row false (.trips a0_1), .rbox [.v (.int .i64 a0_0), .sl 0], .row true (.ints .i64 y)] ?_ ?_
  · clear h
    intro K hK
    refine awp_region ftCOk ?_
    simp (maxSteps := 4000000) only [go_sem, Nat.reduceBEq, Nat.reduceLT, Nat.reduceAdd, Nat.reduceLeDiff, Nat.reduceSub, Nat.reduceEqDiff, Int.reduceToNat, reduceCtorEq, ↓reduceIte]
    repeat' (first | refine And.intro ?_ ?_ | intro hg)
    all_goals (try simp (disch := omega) only [wrap_fits])
    all_goals first
      | (refine hK _ _ ?_; exact Red.auto)
      | exact trivial
      | assumption
      | omega
      | exact wrap_fits (by omega) (by omega)
      | (refine wpA_callA (k_spec_ForwardOrder a0_0 a0_1 (h := hr0)) [0] [] ?_
         rintro x Hc' ⟨rfl, rfl⟩ hlen
         refine vcOps_sound ftCOk ?_
         simp (maxSteps := 4000000) only [go_sem, Nat.reduceBEq, Nat.reduceLT, Nat.reduceAdd, Nat.reduceLeDiff, Nat.reduceSub, Nat.reduceEqDiff, Int.reduceToNat, reduceCtorEq, ↓reduceIte]
         repeat' (first | refine And.intro ?_ ?_ | intro hg)
         all_goals (try simp (disch := omega) only [wrap_fits])
         all_goals first
           | (refine hK _ _ ?_; exact Red.auto)
           | exact trivial
           | assumption
           | omega
           | exact wrap_fits (by omega) (by omega)
           | (simp_all; done)
           | (simp_all; omega))
      | (simp_all; done)
      | (simp_all; omega)
  · clear hr0
    refine awp_seq fun K2 hK2 => ?_
    refine awp_reg ftCOk [(1, .pp 1 0), (4, .sl 2), (15, .v (.bool (!y_1)))] [.row false (.trips a0_1), .rbox [.v (.int .i64 a0_0), .sl 0], .row true (.ints .i64 y)] ?_
    refine awp_cond (t := 15) rfl (fun hc3 => ?_) (fun hc3 => ?_)
    · replace h := bite_t h hc3
      refine awp_reg ftCOk [(2, .sl 3), (3, .v (.bool false))] [.row false (.trips a0_1), .rbox [.v (.int .i64 a0_0), .sl 0], .row true (.ints .i64 y), .row true (.ints .i64 [])] ?_
      refine awp_ret ?_
      (try simp only [Thn, InBlk, ↓reduceIte, Nat.reduceEqDiff])
      obtain rfl := Option.some.inj h
      refine ⟨by simp, _, [0, 3], (by simp only [go_sem, Nat.reduceBEq, Nat.reduceLT, Nat.reduceAdd, Nat.reduceLeDiff, Nat.reduceSub, Nat.reduceEqDiff, Int.reduceToNat, reduceCtorEq, ↓reduceIte]; exact rfl), ?_, ?_, ?_, ?_⟩
      · first | exact trivial | exact ⟨trivial, trivial⟩ | exact ⟨trivial, trivial, trivial⟩ | exact ⟨trivial, trivial, trivial, trivial⟩ | (simp only [allP, and_true, true_and]; done) | (simp only [allP, and_true, true_and]; omega)
      · simp [selOk, pos]
      · simp
      · first | exact ⟨rfl, rfl⟩ | (simp only [go_sem, Nat.reduceBEq, Nat.reduceLT, Nat.reduceAdd, Nat.reduceLeDiff, Nat.reduceSub, Nat.reduceEqDiff, Int.reduceToNat, reduceCtorEq, ↓reduceIte]; done) | (simp [go_sem, Nat.reduceBEq, Nat.reduceLT, Nat.reduceAdd, Nat.reduceLeDiff, Nat.reduceSub, Nat.reduceEqDiff, Int.reduceToNat, reduceCtorEq, ↓reduceIte]; done) | (simp only [go_sem, Nat.reduceBEq, Nat.reduceLT, Nat.reduceAdd, Nat.reduceLeDiff, Nat.reduceSub, Nat.reduceEqDiff, Int.reduceToNat, reduceCtorEq, ↓reduceIte]; exact ⟨rfl, rfl⟩) | (simp_all [go_sem, Nat.reduceBEq, Nat.reduceLT, Nat.reduceAdd, Nat.reduceLeDiff, Nat.reduceSub, Nat.reduceEqDiff, Int.reduceToNat, reduceCtorEq, ↓reduceIte]; done)
    · replace h := bite_f h hc3
      refine awp_skip ?_
      (try simp only [Thn, InBlk, ↓reduceIte, Nat.reduceEqDiff])
      refine hK2 _ _ ?_
      clear hK2
      replace h := bind_some h
      obtain ⟨y_2, hr0, h⟩ := h
      try dsimp only at h
      refine awp_to [(1, .pp 1 0), (4, .sl 2), (6, .sl 3)] [.row false (.trips a0_1), .rbox [.v (.int .i64 a0_0), .sl 0], .row true (.ints .i64 y), .row true (.ints .i64 y_2)] ?_ ?_
      · clear h
        intro K hK
        refine awp_region ftCOk ?_
        simp (maxSteps := 4000000) only [go_sem, Nat.reduceBEq, Nat.reduceLT, Nat.reduceAdd, Nat.reduceLeDiff, Nat.reduceSub, Nat.reduceEqDiff, Int.reduceToNat, reduceCtorEq, ↓reduceIte]
        repeat' (first | refine And.intro ?_ ?_ | intro hg)
        all_goals (try simp (disch := omega) only [wrap_fits])
        all_goals first
          | (refine hK _ _ ?_; exact Red.auto)
          | exact trivial
          | assumption
          | omega
          | exact wrap_fits (by omega) (by omega)
          | (refine wpA_callA (k_spec_l8Fill a0_0 0 (h := hr0)) [] [] ?_
             rintro x Hc' ⟨rfl, rfl⟩ hlen
             refine vcOps_sound ftCOk ?_
             simp (maxSteps := 4000000) only [go_sem, Nat.reduceBEq, Nat.reduceLT, Nat.reduceAdd, Nat.reduceLeDiff, Nat.reduceSub, Nat.reduceEqDiff, Int.reduceToNat, reduceCtorEq, ↓reduceIte]
             repeat' (first | refine And.intro ?_ ?_ | intro hg)
             all_goals (try simp (disch := omega) only [wrap_fits])
             all_goals first
               | (refine hK _ _ ?_; exact Red.auto)
               | exact trivial
               | assumption
               | omega
               | exact wrap_fits (by omega) (by omega)
               | (simp_all; done)
               | (simp_all; omega))
          | (simp_all; done)
          | (simp_all; omega)
      · clear hr0
        refine awp_seq fun K113 hK113 => ?_
        refine awp_reg ftCOk [(1, .pp 1 0), (4, .sl 2), (6, .sl 3), (7, .v (.int .i64 0))] [.row false (.trips a0_1), .rbox [.v (.int .i64 a0_0), .sl 0], .row true (.ints .i64 y), .row true (.ints .i64 y_2)] ?_
        refine awp_block ?_
        replace h := bind_some h
        obtain ⟨t6s_1, hx, h⟩ := h
        refine awp_loopL hx (fun ((t7, t6s) : Int × List Int) => [(1, .pp 1 0), (4, .sl 2), (6, .sl 3), (7, .v (.int .i64 t7))]) (fun ((t7, t6s) : Int × List Int) => [.row false (.trips a0_1), .rbox [.v (.int .i64 a0_0), .sl 0], .row true (.ints .i64 y), .row true (.ints .i64 t6s)]) (fun (t6s_1 : List Int) => Exit.exit 0) (fun (t6s_1 : List Int) => [(6, .sl 1)]) (fun (t6s_1 : List Int) => [.row false (.trips a0_1), .row true (.ints .i64 t6s_1)]) ?_ ?_ ?_ ?_
        · rintro t6s_1 hy <;> cases hy
        · clear h hx
          exact Red.auto
        · clear h hx
          rintro ⟨t7, t6s⟩ r h
          unfold spec_LongestWays_b1 at h
          try dsimp only at h
          try dsimp only
          refine awp_seq fun K187 hK187 => ?_
          refine awp_reg ftCOk [(1, .pp 1 0), (4, .sl 2), (6, .sl 3), (7, .v (.int .i64 t7)), (23, .v (.bool (decide (t7 < (y.length : Int)))))] [.row false (.trips a0_1), .rbox [.v (.int .i64 a0_0), .sl 0], .row true (.ints .i64 y), .row true (.ints .i64 t6s)] ?_
          refine awp_cond (t := 23) rfl (fun hc188 => ?_) (fun hc188 => ?_)
          · replace h := bite_t h hc188
            refine awp_skip ?_
            (try simp only [Thn, InBlk, ↓reduceIte, Nat.reduceEqDiff])
            refine hK187 _ _ ?_
            clear hK187
            refine awp_seq fun K205 hK205 => ?_
            refine awp_block ?_
            refine awp_reg ftCOk [(1, .pp 1 0), (4, .sl 2), (6, .sl 3), (7, .v (.int .i64 t7)), (8, .v (.int .i64 0))] [.row false (.trips a0_1), .rbox [.v (.int .i64 a0_0), .sl 0], .row true (.ints .i64 y), .row true (.ints .i64 t6s)] ?_
            refine awp_block ?_
            replace h := bind_some h
            obtain ⟨t6s_3, hx, h⟩ := h
            refine awp_loopL hx (fun ((t8, t6s_2) : Int × List Int) => [(1, .pp 1 0), (4, .sl 2), (6, .sl 3), (7, .v (.int .i64 t7)), (8, .v (.int .i64 t8))]) (fun ((t8, t6s_2) : Int × List Int) => [.row false (.trips a0_1), .rbox [.v (.int .i64 a0_0), .sl 0], .row true (.ints .i64 y), .row true (.ints .i64 t6s_2)]) (fun (t6s_3 : List Int) => Exit.exit 2) (fun (t6s_3 : List Int) => [(1, .pp 1 0), (4, .sl 2), (6, .sl 3), (7, .v (.int .i64 t7))]) (fun (t6s_3 : List Int) => [.row false (.trips a0_1), .rbox [.v (.int .i64 a0_0), .sl 0], .row true (.ints .i64 y), .row true (.ints .i64 t6s_3)]) ?_ ?_ ?_ ?_
            · rintro t6s_3 hy <;> cases hy
            · clear h hx
              exact Red.auto
            · clear h hx
              rintro ⟨t8, t6s_2⟩ r h
              unfold spec_LongestWays_b0 at h
              try dsimp only at h
              try dsimp only
              refine awp_seq fun K217 hK217 => ?_
              refine awp_reg ftCOk [(1, .pp 1 0), (4, .sl 2), (6, .sl 3), (7, .v (.int .i64 t7)), (8, .v (.int .i64 t8)), (30, .v (.bool (decide (t8 < (a0_1.length : Int)))))] [.row false (.trips a0_1), .rbox [.v (.int .i64 a0_0), .sl 0], .row true (.ints .i64 y), .row true (.ints .i64 t6s_2)] ?_
              refine awp_cond (t := 30) rfl (fun hc218 => ?_) (fun hc218 => ?_)
              · replace h := bite_t h hc218
                refine awp_skip ?_
                (try simp only [Thn, InBlk, ↓reduceIte, Nat.reduceEqDiff])
                refine hK217 _ _ ?_
                clear hK217
                refine awp_join h (fun (t6s_4 : List Int) => [(1, .pp 1 0), (4, .sl 2), (6, .sl 3), (7, .v (.int .i64 t7)), (8, .v (.int .i64 t8))]) (fun (t6s_4 : List Int) => [.row false (.trips a0_1), .rbox [.v (.int .i64 a0_0), .sl 0], .row true (.ints .i64 y), .row true (.ints .i64 t6s_4)]) ?_ ?_
                · clear h
                  intro k h
                  try dsimp only at h
                  refine awp_block ?_
                  replace h := chk_some h
                  obtain ⟨hp0, h⟩ := h
                  replace h := chk_some h
                  obtain ⟨hp1, h⟩ := h
                  refine awp_regQ mixed ftCOk [(1, .pp 1 0), (4, .sl 2), (6, .sl 3), (7, .v (.int .i64 t7)), (8, .v (.int .i64 t8)), (43, .v (.bool ((a0_1.getD t8.toNat (0, 0, 0)).1 == (y.getD t7.toNat 0))))] [.row false (.trips a0_1), .rbox [.v (.int .i64 a0_0), .sl 0], .row true (.ints .i64 y), .row true (.ints .i64 t6s_2)] ?_
                  clear hp0 hp1
                  refine awp_cond (t := 43) rfl (fun hc220 => ?_) (fun hc220 => ?_)
                  · replace h := bite_t h hc220
                    replace h := chk_some h
                    obtain ⟨hp0, h⟩ := h
                    replace h := chk_some h
                    obtain ⟨hp1, h⟩ := h
                    replace h := chk_some h
                    obtain ⟨hp2, h⟩ := h
                    replace h := chk_some h
                    obtain ⟨hp3, h⟩ := h
                    replace h := chk_some h
                    obtain ⟨hp4, h⟩ := h
                    refine awp_end [(1, .pp 1 0), (4, .sl 2), (6, .sl 3), (7, .v (.int .i64 t7)), (8, .v (.int .i64 t8))] [.row false (.trips a0_1), .rbox [.v (.int .i64 a0_0), .sl 0], .row true (.ints .i64 y), .row true (.ints .i64 (t6s_2.set (((a0_1.getD t8.toNat (0, 0, 0)).2.1).toNat) (max (t6s_2.getD (((a0_1.getD t8.toNat (0, 0, 0)).2.1).toNat) 0) ((t6s_2.getD ((y.getD t7.toNat 0).toNat) 0) + (a0_1.getD t8.toNat (0, 0, 0)).2.2))))] ?_ ?_
                    · clear h
                      intro K hK
                      refine awp_drawT mixed ftCOk (.free 0 (.free 1 (.free 3 (.free 7 (.free 8 (.free 10 (.free 16 (.free 17 (.free 18 (.free 23 (.free 25 (.free 2 (.free 4 (.free 5 (.free 6 (.free 9 (.free 11 (.free 12 (.free 13 (.free 24 (.free 26 (.free 27 (.free 28 (.two 14 19 (.two 15 19 (.one 19 (.one 20 (.one 21 (.one 22 (.one 29 (.one 30 (.one 31 (.one 32 .fin)))))))) (.two 15 20 (.one 20 (.one 21 (.one 22 (.one 29 (.one 30 (.one 31 (.one 32 .fin))))))) (.two 15 21 (.one 21 (.one 22 (.one 29 (.one 30 (.one 31 (.one 32 .fin)))))) (.two 15 22 (.one 22 (.one 29 (.one 30 (.one 31 (.one 32 .fin))))) (.free 29 (.one 15 (.one 30 (.one 31 (.one 32 .fin))))))))) (.two 14 20 (.two 15 20 (.one 20 (.one 21 (.one 22 (.one 29 (.one 30 (.one 31 (.one 32 .fin))))))) (.two 15 21 (.one 21 (.one 22 (.one 29 (.one 30 (.one 31 (.one 32 .fin)))))) (.two 15 22 (.one 22 (.one 29 (.one 30 (.one 31 (.one 32 .fin))))) (.free 29 (.one 15 (.one 30 (.one 31 (.one 32 .fin)))))))) (.two 14 21 (.two 15 21 (.one 21 (.one 22 (.one 29 (.one 30 (.one 31 (.one 32 .fin)))))) (.two 15 22 (.one 22 (.one 29 (.one 30 (.one 31 (.one 32 .fin))))) (.free 29 (.one 15 (.one 30 (.one 31 (.one 32 .fin))))))) (.two 14 22 (.two 15 22 (.one 22 (.one 29 (.one 30 (.one 31 (.one 32 .fin))))) (.free 29 (.one 15 (.one 30 (.one 31 (.one 32 .fin)))))) (.free 29 (.one 14 (.one 15 (.one 30 (.one 31 (.one 32 .fin))))))))))))))))))))))))))))))))) (by kernel_rfl) (by simp) ?_
                      simp (maxSteps := 4000000) only [go_sem, Nat.reduceBEq, Nat.reduceLT, Nat.reduceAdd, Nat.reduceLeDiff, Nat.reduceSub, Nat.reduceEqDiff, Int.reduceToNat, reduceCtorEq, ↓reduceIte]
                      repeat' (first | refine And.intro ?_ ?_ | intro hg)
                      all_goals (try simp (disch := omega) only [wrap_fits])
                      all_goals first
                        | (refine hK _ _ ?_; exact Red.auto)
                        | exact trivial
                        | assumption
                        | omega
                        | exact wrap_fits (by omega) (by omega)
                        | (simp (maxSteps := 4000000) only [go_sem, Nat.reduceBEq, Nat.reduceLT, Nat.reduceAdd, Nat.reduceLeDiff, Nat.reduceSub, Nat.reduceEqDiff, Int.reduceToNat, reduceCtorEq, ↓reduceIte]
                           repeat' (first | refine And.intro ?_ ?_ | intro hg)
                           all_goals (try simp (disch := omega) only [wrap_fits])
                           all_goals first | (refine hK _ _ ?_; exact Red.auto) | exact trivial | assumption | omega | exact wrap_fits (by omega) (by omega))
                        | (simp_all; done)
                        | (simp_all; omega)
                    · clear hp0 hp1 hp2 hp3 hp4
                      (try simp only [Thn, InBlk, ↓reduceIte, Nat.reduceEqDiff])
                      (try simp only [Thn, InBlk, ↓reduceIte, Nat.reduceEqDiff])
                      refine ⟨_, h, ?_⟩
                      exact Red.auto
                  · replace h := bite_f h hc220
                    refine awp_skip ?_
                    (try simp only [Thn, InBlk, ↓reduceIte, Nat.reduceEqDiff])
                    (try simp only [Thn, InBlk, ↓reduceIte, Nat.reduceEqDiff])
                    refine ⟨_, h, ?_⟩
                    exact Red.auto
                · clear h
                  rintro t6s_4 h
                  try dsimp only at h
                  try dsimp only
                  replace h := chk_some h
                  obtain ⟨hp0, h⟩ := h
                  refine awp_regE ftCOk [(1, .pp 1 0), (4, .sl 2), (6, .sl 3), (7, .v (.int .i64 t7)), (8, .v (.int .i64 (t8 + 1)))] [.row false (.trips a0_1), .rbox [.v (.int .i64 a0_0), .sl 0], .row true (.ints .i64 y), .row true (.ints .i64 t6s_4)] ?_
                  clear hp0
                  obtain rfl := Option.some.inj h
                  refine LoopQ.next ?_
                  exact Red.auto
              · replace h := bite_f h hc218
                refine awp_exit ?_
                (try simp only [Thn, InBlk, ↓reduceIte, Nat.reduceEqDiff])
                obtain rfl := Option.some.inj h
                refine LoopQ.out rfl ?_
                exact Red.auto
            · clear hx
              skip
              · try dsimp only [Sum.elim_inl, Sum.elim_inr] at h
                try dsimp only [Sum.elim_inl, Sum.elim_inr]
                (try simp only [Thn, InBlk, ↓reduceIte, Nat.reduceEqDiff])
                (try simp only [Thn, InBlk, ↓reduceIte, Nat.reduceEqDiff])
                (try simp only [Thn, InBlk, ↓reduceIte, Nat.reduceEqDiff])
                (try simp only [Thn, InBlk, ↓reduceIte, Nat.reduceEqDiff])
                refine hK205 _ _ ?_
                clear hK205
                replace h := chk_some h
                obtain ⟨hp0, h⟩ := h
                refine awp_regE ftCOk [(1, .pp 1 0), (4, .sl 2), (6, .sl 3), (7, .v (.int .i64 (t7 + 1)))] [.row false (.trips a0_1), .rbox [.v (.int .i64 a0_0), .sl 0], .row true (.ints .i64 y), .row true (.ints .i64 t6s_3)] ?_
                clear hp0
                obtain rfl := Option.some.inj h
                refine LoopQ.next ?_
                exact Red.auto
          · replace h := bite_f h hc188
            refine awp_exit ?_
            (try simp only [Thn, InBlk, ↓reduceIte, Nat.reduceEqDiff])
            obtain rfl := Option.some.inj h
            refine LoopQ.out rfl ?_
            exact Red.selA [0, 3] Red.auto
        · clear hx
          skip
          · try dsimp only [Sum.elim_inl, Sum.elim_inr] at h
            try dsimp only [Sum.elim_inl, Sum.elim_inr]
            (try simp only [Thn, InBlk, ↓reduceIte, Nat.reduceEqDiff])
            (try simp only [Thn, InBlk, ↓reduceIte, Nat.reduceEqDiff])
            (try simp only [Thn, InBlk, ↓reduceIte, Nat.reduceEqDiff])
            refine hK113 _ _ ?_
            clear hK113
            refine awp_reg ftCOk [(2, .sl 1), (3, .v (.bool true))] [.row false (.trips a0_1), .row true (.ints .i64 t6s_1)] ?_
            refine awp_ret ?_
            (try simp only [Thn, InBlk, ↓reduceIte, Nat.reduceEqDiff])
            obtain rfl := Option.some.inj h
            refine ⟨by simp, _, [0, 1], (by simp only [go_sem, Nat.reduceBEq, Nat.reduceLT, Nat.reduceAdd, Nat.reduceLeDiff, Nat.reduceSub, Nat.reduceEqDiff, Int.reduceToNat, reduceCtorEq, ↓reduceIte]; exact rfl), ?_, ?_, ?_, ?_⟩
            · first | exact trivial | exact ⟨trivial, trivial⟩ | exact ⟨trivial, trivial, trivial⟩ | exact ⟨trivial, trivial, trivial, trivial⟩ | (simp only [allP, and_true, true_and]; done) | (simp only [allP, and_true, true_and]; omega)
            · simp [selOk, pos]
            · simp
            · first | exact ⟨rfl, rfl⟩ | (simp only [go_sem, Nat.reduceBEq, Nat.reduceLT, Nat.reduceAdd, Nat.reduceLeDiff, Nat.reduceSub, Nat.reduceEqDiff, Int.reduceToNat, reduceCtorEq, ↓reduceIte]; done) | (simp [go_sem, Nat.reduceBEq, Nat.reduceLT, Nat.reduceAdd, Nat.reduceLeDiff, Nat.reduceSub, Nat.reduceEqDiff, Int.reduceToNat, reduceCtorEq, ↓reduceIte]; done) | (simp only [go_sem, Nat.reduceBEq, Nat.reduceLT, Nat.reduceAdd, Nat.reduceLeDiff, Nat.reduceSub, Nat.reduceEqDiff, Int.reduceToNat, reduceCtorEq, ↓reduceIte]; exact ⟨rfl, rfl⟩) | (simp_all [go_sem, Nat.reduceBEq, Nat.reduceLT, Nat.reduceAdd, Nat.reduceLeDiff, Nat.reduceSub, Nat.reduceEqDiff, Int.reduceToNat, reduceCtorEq, ↓reduceIte]; done)
theorem k_impl_Graph_lists (a0_0 : Int) (a0_1 : List (Int × Int × Int)) {r : (List (List (Int × Int × Int)))} (h : impl_Graph_lists a0_0 a0_1 = some r) :
    FnA Tryd.prog 58 [.agg [.v (.int .i64 a0_0), .sl 0]] [.row false (.trips a0_1)] [] (fun x H => x = .sl 1 ∧ H = [.row false (.trips a0_1), .row true (.tripss r)]) := by
  unfold impl_Graph_lists at h
  refine FnA.of (N := 30) (pin := [0]) (rs := [.tmp 2]) Tryd.func58 rfl en58 rfl rfl (by simp) (by simp; try omega) ?_
  refine awp_reg ftCOk [(1, .pp 1 0)] [.row false (.trips a0_1), .box [.v (.int .i64 a0_0), .sl 0]] ?_
  refine awp_freeze 1 (by rfl) (by rfl) (by exact rfl) ?_
  replace h := chk_some h
  obtain ⟨hp0, h⟩ := h
  refine awp_reg ftCOk [(1, .pp 1 0), (3, .sl 2)] [.row false (.trips a0_1), .rbox [.v (.int .i64 a0_0), .sl 0], .row true (.tripss (List.replicate a0_0.toNat []))] ?_
  clear hp0
  refine awp_seq fun K20 hK20 => ?_
  refine awp_reg ftCOk [(3, .sl 2), (10, .sl 0), (11, .v (.int .i64 (a0_1.length : Int))), (12, .v (.int .i64 0))] [.row false (.trips a0_1), .rbox [.v (.int .i64 a0_0), .sl 0], .row true (.tripss (List.replicate a0_0.toNat []))] ?_
  refine awp_block ?_
  replace h := bind_some h
  obtain ⟨t3s_1, hx, h⟩ := h
  refine awp_loopL hx (fun ((t12, t3s) : Int × (List (List (Int × Int × Int)))) => [(3, .sl 1), (10, .sl 0), (11, .v (.int .i64 (a0_1.length : Int))), (12, .v (.int .i64 t12))]) (fun ((t12, t3s) : Int × (List (List (Int × Int × Int)))) => [.row false (.trips a0_1), .row true (.tripss t3s)]) (fun (t3s_1 : List (List (Int × Int × Int))) => Exit.exit 0) (fun (t3s_1 : List (List (Int × Int × Int))) => [(3, .sl 1)]) (fun (t3s_1 : List (List (Int × Int × Int))) => [.row false (.trips a0_1), .row true (.tripss t3s_1)]) ?_ ?_ ?_ ?_
  · rintro t3s_1 hy <;> cases hy
  · clear h hx
    exact Red.selA [0, 2] Red.auto
  · clear h hx
    rintro ⟨t12, t3s⟩ r h
    unfold impl_Graph_lists_b0 at h
    try dsimp only at h
    try dsimp only
    refine awp_reg ftCOk [(3, .sl 1), (10, .sl 0), (11, .v (.int .i64 (a0_1.length : Int))), (12, .v (.int .i64 t12)), (13, .v (.bool (decide (t12 < (a0_1.length : Int)))))] [.row false (.trips a0_1), .row true (.tripss t3s)] ?_
    refine awp_seq fun K34 hK34 => ?_
    refine awp_cond (t := 13) rfl (fun hc35 => ?_) (fun hc35 => ?_)
    · replace h := bite_t h hc35
      refine awp_skip ?_
      (try simp only [Thn, InBlk, ↓reduceIte, Nat.reduceEqDiff])
      refine hK34 _ _ ?_
      clear hK34
      refine awp_seq fun K37 hK37 => ?_
      refine awp_block ?_
      replace h := chk_some h
      obtain ⟨hp0, h⟩ := h
      refine awp_reg ftCOk [(3, .sl 1), (5, .pp 2 0), (10, .sl 0), (11, .v (.int .i64 (a0_1.length : Int))), (12, .v (.int .i64 t12))] [.row false (.trips a0_1), .row true (.tripss t3s), .box [.v (.int .i64 ((a0_1.getD t12.toNat (0, 0, 0)).1)), .v (.int .i64 ((a0_1.getD t12.toNat (0, 0, 0)).2.1)), .v (.int .i64 ((a0_1.getD t12.toNat (0, 0, 0)).2.2))]] ?_
      clear hp0
      refine awp_freeze 5 (by rfl) (by rfl) (by first | exact rfl | (simp only [List.map_cons, List.map_nil, List.set_cons_succ, List.set_cons_zero, AObj.unview, reduceCtorEq, ↓reduceIte, Nat.reduceEqDiff]; exact rfl)) ?_
      replace h := chk_some h
      obtain ⟨hpt38, h⟩ := h
      refine awp_take 1 (((a0_1.getD t12.toNat (0, 0, 0)).1).toNat) 0 (by rfl) (by exact hpt38) (by rfl) (by exact rfl) ?_
      clear hpt38
      replace h := chk_some h
      obtain ⟨hp0, h⟩ := h
      replace h := chk_some h
      obtain ⟨hp1, h⟩ := h
      refine awp_end [(3, .sl 1), (10, .sl 0), (11, .v (.int .i64 (a0_1.length : Int))), (12, .v (.int .i64 t12))] [.row false (.trips a0_1), .row true (.tripss (t3s.set (((a0_1.getD t12.toNat (0, 0, 0)).1).toNat) ((t3s.getD (((a0_1.getD t12.toNat (0, 0, 0)).1).toNat) []) ++ [((a0_1.getD t12.toNat (0, 0, 0)).1, (a0_1.getD t12.toNat (0, 0, 0)).2.1, (a0_1.getD t12.toNat (0, 0, 0)).2.2)]))), .rbox [.v (.int .i64 ((a0_1.getD t12.toNat (0, 0, 0)).1)), .v (.int .i64 ((a0_1.getD t12.toNat (0, 0, 0)).2.1)), .v (.int .i64 ((a0_1.getD t12.toNat (0, 0, 0)).2.2))], .view 1 (.trips ((t3s.getD (((a0_1.getD t12.toNat (0, 0, 0)).1).toNat) []) ++ [((a0_1.getD t12.toNat (0, 0, 0)).1, (a0_1.getD t12.toNat (0, 0, 0)).2.1, (a0_1.getD t12.toNat (0, 0, 0)).2.2)])), .row true (.trips [((a0_1.getD t12.toNat (0, 0, 0)).1, (a0_1.getD t12.toNat (0, 0, 0)).2.1, (a0_1.getD t12.toNat (0, 0, 0)).2.2)])] ?_ ?_
      · clear h
        intro K hK
        refine awp_drawP [0, 1, 2] (by first | rfl | kernel_rfl) (by rfl) mixed ftCOk (.free 0 (.free 1 (.free 3 (.free 4 (.free 2 (.free 5 (.free 8 (.two 6 9 (.two 7 9 (.one 9 (.one 10 (.one 11 (.one 12 .fin)))) (.one 7 (.one 10 (.one 11 (.one 12 .fin))))) (.one 6 (.one 7 (.one 10 (.one 11 (.one 12 .fin))))))))))))) (by kernel_rfl) (by simp) ?_
        simp (maxSteps := 4000000) only [go_sem, Nat.reduceBEq, Nat.reduceLT, Nat.reduceAdd, Nat.reduceLeDiff, Nat.reduceSub, Nat.reduceEqDiff, Int.reduceToNat, reduceCtorEq, ↓reduceIte]
        repeat' (first | refine And.intro ?_ ?_ | intro hg)
        all_goals (try simp (disch := omega) only [wrap_fits])
        all_goals first
          | (refine hK _ _ ?_; exact Red.auto)
          | exact trivial
          | assumption
          | omega
          | exact wrap_fits (by omega) (by omega)
          | (simp (maxSteps := 4000000) only [go_sem, Nat.reduceBEq, Nat.reduceLT, Nat.reduceAdd, Nat.reduceLeDiff, Nat.reduceSub, Nat.reduceEqDiff, Int.reduceToNat, reduceCtorEq, ↓reduceIte]
             repeat' (first | refine And.intro ?_ ?_ | intro hg)
             all_goals (try simp (disch := omega) only [wrap_fits])
             all_goals first | (refine hK _ _ ?_; exact Red.auto) | exact trivial | assumption | omega | exact wrap_fits (by omega) (by omega))
          | (simp_all; done)
          | (simp_all; omega)
      · clear hp0 hp1
        (try simp only [Thn, InBlk, ↓reduceIte, Nat.reduceEqDiff])
        (try simp only [Thn, InBlk, ↓reduceIte, Nat.reduceEqDiff])
        refine hK37 _ _ ?_
        clear hK37
        replace h := chk_some h
        obtain ⟨hp0, h⟩ := h
        refine awp_regE ftCOk [(3, .sl 1), (10, .sl 0), (11, .v (.int .i64 (a0_1.length : Int))), (12, .v (.int .i64 (t12 + 1)))] [.row false (.trips a0_1), .row true (.tripss (t3s.set (((a0_1.getD t12.toNat (0, 0, 0)).1).toNat) ((t3s.getD (((a0_1.getD t12.toNat (0, 0, 0)).1).toNat) []) ++ [((a0_1.getD t12.toNat (0, 0, 0)).1, (a0_1.getD t12.toNat (0, 0, 0)).2.1, (a0_1.getD t12.toNat (0, 0, 0)).2.2)]))), .rbox [.v (.int .i64 ((a0_1.getD t12.toNat (0, 0, 0)).1)), .v (.int .i64 ((a0_1.getD t12.toNat (0, 0, 0)).2.1)), .v (.int .i64 ((a0_1.getD t12.toNat (0, 0, 0)).2.2))], .view 1 (.trips ((t3s.getD (((a0_1.getD t12.toNat (0, 0, 0)).1).toNat) []) ++ [((a0_1.getD t12.toNat (0, 0, 0)).1, (a0_1.getD t12.toNat (0, 0, 0)).2.1, (a0_1.getD t12.toNat (0, 0, 0)).2.2)])), .row true (.trips [((a0_1.getD t12.toNat (0, 0, 0)).1, (a0_1.getD t12.toNat (0, 0, 0)).2.1, (a0_1.getD t12.toNat (0, 0, 0)).2.2)])] ?_
        clear hp0
        obtain rfl := Option.some.inj h
        refine LoopQ.next ?_
        exact Red.selA [0, 1] Red.auto
    · replace h := bite_f h hc35
      refine awp_exit ?_
      (try simp only [Thn, InBlk, ↓reduceIte, Nat.reduceEqDiff])
      obtain rfl := Option.some.inj h
      refine LoopQ.out rfl ?_
      exact Red.auto
  · clear hx
    skip
    · try dsimp only [Sum.elim_inl, Sum.elim_inr] at h
      try dsimp only [Sum.elim_inl, Sum.elim_inr]
      (try simp only [Thn, InBlk, ↓reduceIte, Nat.reduceEqDiff])
      (try simp only [Thn, InBlk, ↓reduceIte, Nat.reduceEqDiff])
      (try simp only [Thn, InBlk, ↓reduceIte, Nat.reduceEqDiff])
      refine hK20 _ _ ?_
      clear hK20
      refine awp_reg ftCOk [(2, .sl 1)] [.row false (.trips a0_1), .row true (.tripss t3s_1)] ?_
      refine awp_ret ?_
      (try simp only [Thn, InBlk, ↓reduceIte, Nat.reduceEqDiff])
      obtain rfl := Option.some.inj h
      refine ⟨by simp, _, [0, 1], (by simp only [go_sem, Nat.reduceBEq, Nat.reduceLT, Nat.reduceAdd, Nat.reduceLeDiff, Nat.reduceSub, Nat.reduceEqDiff, Int.reduceToNat, reduceCtorEq, ↓reduceIte]; exact rfl), ?_, ?_, ?_, ?_⟩
      · first | exact trivial | exact ⟨trivial, trivial⟩ | exact ⟨trivial, trivial, trivial⟩ | exact ⟨trivial, trivial, trivial, trivial⟩ | (simp only [allP, and_true, true_and]; done) | (simp only [allP, and_true, true_and]; omega)
      · simp [selOk, pos]
      · simp
      · first | exact ⟨rfl, rfl⟩ | (simp only [go_sem, Nat.reduceBEq, Nat.reduceLT, Nat.reduceAdd, Nat.reduceLeDiff, Nat.reduceSub, Nat.reduceEqDiff, Int.reduceToNat, reduceCtorEq, ↓reduceIte]; done) | (simp [go_sem, Nat.reduceBEq, Nat.reduceLT, Nat.reduceAdd, Nat.reduceLeDiff, Nat.reduceSub, Nat.reduceEqDiff, Int.reduceToNat, reduceCtorEq, ↓reduceIte]; done) | (simp only [go_sem, Nat.reduceBEq, Nat.reduceLT, Nat.reduceAdd, Nat.reduceLeDiff, Nat.reduceSub, Nat.reduceEqDiff, Int.reduceToNat, reduceCtorEq, ↓reduceIte]; exact ⟨rfl, rfl⟩) | (simp_all [go_sem, Nat.reduceBEq, Nat.reduceLT, Nat.reduceAdd, Nat.reduceLeDiff, Nat.reduceSub, Nat.reduceEqDiff, Int.reduceToNat, reduceCtorEq, ↓reduceIte]; done)
theorem k_impl_LongestWays (a0_0 : Int) (a0_1 : List (Int × Int × Int)) {r : List Int × Bool} (h : impl_LongestWays a0_0 a0_1 = some r) :
    FnA Tryd.prog 30 [.agg [.v (.int .i64 a0_0), .sl 0]] [.row false (.trips a0_1), .glob 0 (.ints .u8 tab0)] [] (fun x H => x = .tup [.sl 2, .v (.bool r.2)] ∧ H = [.row false (.trips a0_1), .glob 0 (.ints .u8 tab0), .row true (.ints .i64 r.1)]) := by
  unfold impl_LongestWays at h
  refine FnA.of (N := 59) (pin := [0, 1]) (rs := [.tmp 2, .tmp 3]) Tryd.func30 rfl en30 rfl rfl (by simp) (by simp; try omega) ?_
  refine awp_reg ftCOk [(1, .pp 2 0)] [.row false (.trips a0_1), .glob 0 (.ints .u8 tab0), .box [.v (.int .i64 a0_0), .sl 0]] ?_
  refine awp_freeze 1 (by rfl) (by rfl) (by exact rfl) ?_
  replace h := bind_some h
  obtain ⟨⟨y, y_1⟩, hr0, h⟩ := h
  try dsimp only at h
  refine awp_to [(1, .pp 2 0), (4, .sl 3), (5, .v (.bool y_1))] [.row false (.trips a0_1), .glob 0 (.ints .u8 tab0), .rbox [.v (.int .i64 a0_0), .sl 0], .row true (.ints .i64 y)] ?_ ?_
  · clear h
    intro K hK
    refine awp_region ftCOk ?_
    simp (maxSteps := 4000000) only [go_sem, Nat.reduceBEq, Nat.reduceLT, Nat.reduceAdd, Nat.reduceLeDiff, Nat.reduceSub, Nat.reduceEqDiff, Int.reduceToNat, reduceCtorEq, ↓reduceIte]
    repeat' (first | refine And.intro ?_ ?_ | intro hg)
    all_goals (try simp (disch := omega) only [wrap_fits])
    all_goals first
      | (refine hK _ _ ?_; exact Red.auto)
      | exact trivial
      | assumption
      | omega
      | exact wrap_fits (by omega) (by omega)
      | (refine wpA_callA (k_impl_ForwardOrder a0_0 a0_1 (h := hr0)) [0, 1] [] ?_
         rintro x Hc' ⟨rfl, rfl⟩ hlen
         refine vcOps_sound ftCOk ?_
         simp (maxSteps := 4000000) only [go_sem, Nat.reduceBEq, Nat.reduceLT, Nat.reduceAdd, Nat.reduceLeDiff, Nat.reduceSub, Nat.reduceEqDiff, Int.reduceToNat, reduceCtorEq, ↓reduceIte]
         repeat' (first | refine And.intro ?_ ?_ | intro hg)
         all_goals (try simp (disch := omega) only [wrap_fits])
         all_goals first
           | (refine hK _ _ ?_; exact Red.auto)
           | exact trivial
           | assumption
           | omega
           | exact wrap_fits (by omega) (by omega)
           | (simp_all; done)
           | (simp_all; omega))
      | (simp_all; done)
      | (simp_all; omega)
  · clear hr0
    refine awp_seq fun K2 hK2 => ?_
    refine awp_reg ftCOk [(1, .pp 2 0), (4, .sl 3), (18, .v (.bool (!y_1)))] [.row false (.trips a0_1), .glob 0 (.ints .u8 tab0), .rbox [.v (.int .i64 a0_0), .sl 0], .row true (.ints .i64 y)] ?_
    refine awp_cond (t := 18) rfl (fun hc3 => ?_) (fun hc3 => ?_)
    · replace h := bite_t h hc3
      refine awp_reg ftCOk [(2, .v (.slice none 0 0)), (3, .v (.bool false))] [.row false (.trips a0_1), .glob 0 (.ints .u8 tab0), .rbox [.v (.int .i64 a0_0), .sl 0], .row true (.ints .i64 y)] ?_
      refine awp_red (Red.nil (t := 2) (.ints .i64 []) rfl rfl) ?_
      refine awp_ret ?_
      (try simp only [Thn, InBlk, ↓reduceIte, Nat.reduceEqDiff])
      obtain rfl := Option.some.inj h
      refine ⟨by simp, _, [0, 1, 4], (by simp only [go_sem, Nat.reduceBEq, Nat.reduceLT, Nat.reduceAdd, Nat.reduceLeDiff, Nat.reduceSub, Nat.reduceEqDiff, Int.reduceToNat, reduceCtorEq, ↓reduceIte]; exact rfl), ?_, ?_, ?_, ?_⟩
      · first | exact trivial | exact ⟨trivial, trivial⟩ | exact ⟨trivial, trivial, trivial⟩ | exact ⟨trivial, trivial, trivial, trivial⟩ | (simp only [allP, and_true, true_and]; done) | (simp only [allP, and_true, true_and]; omega)
      · simp [selOk, pos]
      · simp
      · first | exact ⟨rfl, rfl⟩ | (simp only [go_sem, Nat.reduceBEq, Nat.reduceLT, Nat.reduceAdd, Nat.reduceLeDiff, Nat.reduceSub, Nat.reduceEqDiff, Int.reduceToNat, reduceCtorEq, ↓reduceIte]; done) | (simp [go_sem, Nat.reduceBEq, Nat.reduceLT, Nat.reduceAdd, Nat.reduceLeDiff, Nat.reduceSub, Nat.reduceEqDiff, Int.reduceToNat, reduceCtorEq, ↓reduceIte]; done) | (simp only [go_sem, Nat.reduceBEq, Nat.reduceLT, Nat.reduceAdd, Nat.reduceLeDiff, Nat.reduceSub, Nat.reduceEqDiff, Int.reduceToNat, reduceCtorEq, ↓reduceIte]; exact ⟨rfl, rfl⟩) | (simp_all [go_sem, Nat.reduceBEq, Nat.reduceLT, Nat.reduceAdd, Nat.reduceLeDiff, Nat.reduceSub, Nat.reduceEqDiff, Int.reduceToNat, reduceCtorEq, ↓reduceIte]; done)
    · replace h := bite_f h hc3
      refine awp_skip ?_
      (try simp only [Thn, InBlk, ↓reduceIte, Nat.reduceEqDiff])
      refine hK2 _ _ ?_
      clear hK2
      replace h := bind_some h
      obtain ⟨y_2, hr0, h⟩ := h
      try dsimp only at h
      refine awp_to [(1, .pp 2 0), (4, .sl 3), (6, .sl 4)] [.row false (.trips a0_1), .glob 0 (.ints .u8 tab0), .rbox [.v (.int .i64 a0_0), .sl 0], .row true (.ints .i64 y), .row true (.tripss y_2)] ?_ ?_
      · clear h
        intro K hK
        refine awp_region ftCOk ?_
        simp (maxSteps := 4000000) only [go_sem, Nat.reduceBEq, Nat.reduceLT, Nat.reduceAdd, Nat.reduceLeDiff, Nat.reduceSub, Nat.reduceEqDiff, Int.reduceToNat, reduceCtorEq, ↓reduceIte]
        repeat' (first | refine And.intro ?_ ?_ | intro hg)
        all_goals (try simp (disch := omega) only [wrap_fits])
        all_goals first
          | (refine hK _ _ ?_; exact Red.auto)
          | exact trivial
          | assumption
          | omega
          | exact wrap_fits (by omega) (by omega)
          | (refine wpA_callA (k_impl_Graph_lists a0_0 a0_1 (h := hr0)) [0] [] ?_
             rintro x Hc' ⟨rfl, rfl⟩ hlen
             refine vcOps_sound ftCOk ?_
             simp (maxSteps := 4000000) only [go_sem, Nat.reduceBEq, Nat.reduceLT, Nat.reduceAdd, Nat.reduceLeDiff, Nat.reduceSub, Nat.reduceEqDiff, Int.reduceToNat, reduceCtorEq, ↓reduceIte]
             repeat' (first | refine And.intro ?_ ?_ | intro hg)
             all_goals (try simp (disch := omega) only [wrap_fits])
             all_goals first
               | (refine hK _ _ ?_; exact Red.auto)
               | exact trivial
               | assumption
               | omega
               | exact wrap_fits (by omega) (by omega)
               | (simp_all; done)
               | (simp_all; omega))
          | (simp_all; done)
          | (simp_all; omega)
      · clear hr0
        replace h := chk_some h
        obtain ⟨hp0, h⟩ := h
        refine awp_reg ftCOk [(4, .sl 3), (6, .sl 4), (7, .sl 5)] [.row false (.trips a0_1), .glob 0 (.ints .u8 tab0), .rbox [.v (.int .i64 a0_0), .sl 0], .row true (.ints .i64 y), .row true (.tripss y_2), .row true (.ints .i64 (List.replicate a0_0.toNat 0))] ?_
        clear hp0
        refine awp_seq fun K101 hK101 => ?_
        refine awp_reg ftCOk [(6, .sl 4), (7, .sl 5), (24, .sl 3), (25, .v (.int .i64 (y.length : Int))), (26, .v (.int .i64 0))] [.row false (.trips a0_1), .glob 0 (.ints .u8 tab0), .rbox [.v (.int .i64 a0_0), .sl 0], .row true (.ints .i64 y), .row true (.tripss y_2), .row true (.ints .i64 (List.replicate a0_0.toNat 0))] ?_
        refine awp_block ?_
        replace h := bind_some h
        obtain ⟨t7s_1, hx, h⟩ := h
        refine awp_loopL hx (fun ((t26, t6s, t7s) : Int × (List (List (Int × Int × Int))) × List Int) => [(6, .sl 2), (7, .sl 3), (24, .sl 4), (25, .v (.int .i64 (y.length : Int))), (26, .v (.int .i64 t26))]) (fun ((t26, t6s, t7s) : Int × (List (List (Int × Int × Int))) × List Int) => [.row false (.trips a0_1), .glob 0 (.ints .u8 tab0), .row true (.tripss t6s), .row true (.ints .i64 t7s), .row true (.ints .i64 y)]) (fun (t7s_1 : List Int) => Exit.exit 0) (fun (t7s_1 : List Int) => [(7, .sl 2)]) (fun (t7s_1 : List Int) => [.row false (.trips a0_1), .glob 0 (.ints .u8 tab0), .row true (.ints .i64 t7s_1)]) ?_ ?_ ?_ ?_
        · rintro t7s_1 hy <;> cases hy
        · clear h hx
          exact Red.selA [0, 1, 4, 5, 3] Red.auto
        · clear h hx
          rintro ⟨t26, t6s, t7s⟩ r h
          unfold impl_LongestWays_b1 at h
          try dsimp only at h
          try dsimp only
          refine awp_reg ftCOk [(6, .sl 2), (7, .sl 3), (24, .sl 4), (25, .v (.int .i64 (y.length : Int))), (26, .v (.int .i64 t26)), (27, .v (.bool (decide (t26 < (y.length : Int)))))] [.row false (.trips a0_1), .glob 0 (.ints .u8 tab0), .row true (.tripss t6s), .row true (.ints .i64 t7s), .row true (.ints .i64 y)] ?_
          refine awp_seq fun K167 hK167 => ?_
          refine awp_cond (t := 27) rfl (fun hc168 => ?_) (fun hc168 => ?_)
          · replace h := bite_t h hc168
            refine awp_skip ?_
            (try simp only [Thn, InBlk, ↓reduceIte, Nat.reduceEqDiff])
            refine hK167 _ _ ?_
            clear hK167
            refine awp_seq fun K183 hK183 => ?_
            refine awp_block ?_
            replace h := chk_some h
            obtain ⟨hp0, h⟩ := h
            refine awp_reg ftCOk [(6, .sl 2), (7, .sl 3), (9, .v (.int .i64 (y.getD t26.toNat 0))), (24, .sl 4), (25, .v (.int .i64 (y.length : Int))), (26, .v (.int .i64 t26))] [.row false (.trips a0_1), .glob 0 (.ints .u8 tab0), .row true (.tripss t6s), .row true (.ints .i64 t7s), .row true (.ints .i64 y)] ?_
            clear hp0
            replace h := chk_some h
            obtain ⟨hpt197, h⟩ := h
            refine awp_take 2 ((y.getD t26.toNat 0).toNat) 0 (by rfl) (by exact hpt197) (by rfl) (by exact rfl) ?_
            clear hpt197
            replace h := chk_some h
            obtain ⟨hp0, h⟩ := h
            refine awp_reg ftCOk [(6, .sl 2), (7, .sl 3), (9, .v (.int .i64 (y.getD t26.toNat 0))), (24, .sl 4), (25, .v (.int .i64 (y.length : Int))), (26, .v (.int .i64 t26)), (33, .sl 5), (34, .v (.int .i64 ((t6s.getD ((y.getD t26.toNat 0).toNat) []).length : Int))), (35, .v (.int .i64 0))] [.row false (.trips a0_1), .glob 0 (.ints .u8 tab0), .tak true (.tripss t6s) ((y.getD t26.toNat 0).toNat) 0 (some 5), .row true (.ints .i64 t7s), .row true (.ints .i64 y), .row true (.trips (t6s.getD ((y.getD t26.toNat 0).toNat) []))] ?_
            clear hp0
            refine awp_block ?_
            replace h := bind_some h
            obtain ⟨t7s_3, hx, h⟩ := h
            refine awp_loopL hx (fun ((t35, t7s_2) : Int × List Int) => [(6, .sl 2), (7, .sl 3), (9, .v (.int .i64 (y.getD t26.toNat 0))), (24, .sl 4), (25, .v (.int .i64 (y.length : Int))), (26, .v (.int .i64 t26)), (33, .sl 5), (34, .v (.int .i64 ((t6s.getD ((y.getD t26.toNat 0).toNat) []).length : Int))), (35, .v (.int .i64 t35))]) (fun ((t35, t7s_2) : Int × List Int) => [.row false (.trips a0_1), .glob 0 (.ints .u8 tab0), .row true (.tripss (t6s.set ((y.getD t26.toNat 0).toNat) (t6s.getD ((y.getD t26.toNat 0).toNat) []))), .row true (.ints .i64 t7s_2), .row true (.ints .i64 y), .view 2 (.trips (t6s.getD ((y.getD t26.toNat 0).toNat) []))]) (fun (t7s_3 : List Int) => Exit.exit 2) (fun (t7s_3 : List Int) => [(6, .sl 2), (7, .sl 3), (24, .sl 4), (25, .v (.int .i64 (y.length : Int))), (26, .v (.int .i64 t26))]) (fun (t7s_3 : List Int) => [.row false (.trips a0_1), .glob 0 (.ints .u8 tab0), .row true (.tripss (t6s.set ((y.getD t26.toNat 0).toNat) (t6s.getD ((y.getD t26.toNat 0).toNat) []))), .row true (.ints .i64 t7s_3), .row true (.ints .i64 y)]) ?_ ?_ ?_ ?_
            · rintro t7s_3 hy <;> cases hy
            · clear h hx
              refine Red.trans (Red.put 2 5 (by rfl) (by rfl) (by rfl)) ?_
              exact Red.auto
            · clear h hx
              rintro ⟨t35, t7s_2⟩ r h
              unfold impl_LongestWays_b0 at h
              try dsimp only at h
              try dsimp only
              refine awp_reg ftCOk [(6, .sl 2), (7, .sl 3), (9, .v (.int .i64 (y.getD t26.toNat 0))), (24, .sl 4), (25, .v (.int .i64 (y.length : Int))), (26, .v (.int .i64 t26)), (33, .sl 5), (34, .v (.int .i64 ((t6s.getD ((y.getD t26.toNat 0).toNat) []).length : Int))), (35, .v (.int .i64 t35)), (36, .v (.bool (decide (t35 < ((t6s.getD ((y.getD t26.toNat 0).toNat) []).length : Int)))))] [.row false (.trips a0_1), .glob 0 (.ints .u8 tab0), .row true (.tripss (t6s.set ((y.getD t26.toNat 0).toNat) (t6s.getD ((y.getD t26.toNat 0).toNat) []))), .row true (.ints .i64 t7s_2), .row true (.ints .i64 y), .view 2 (.trips (t6s.getD ((y.getD t26.toNat 0).toNat) []))] ?_
              refine awp_seq fun K193 hK193 => ?_
              refine awp_cond (t := 36) rfl (fun hc194 => ?_) (fun hc194 => ?_)
              · replace h := bite_t h hc194
                refine awp_skip ?_
                (try simp only [Thn, InBlk, ↓reduceIte, Nat.reduceEqDiff])
                refine hK193 _ _ ?_
                clear hK193
                refine awp_seq fun K195 hK195 => ?_
                refine awp_block ?_
                replace h := chk_some h
                obtain ⟨hp0, h⟩ := h
                refine awp_reg ftCOk [(6, .sl 2), (7, .sl 3), (9, .v (.int .i64 (y.getD t26.toNat 0))), (11, .pp 6 0), (24, .sl 4), (25, .v (.int .i64 (y.length : Int))), (26, .v (.int .i64 t26)), (33, .sl 5), (34, .v (.int .i64 ((t6s.getD ((y.getD t26.toNat 0).toNat) []).length : Int))), (35, .v (.int .i64 t35))] [.row false (.trips a0_1), .glob 0 (.ints .u8 tab0), .row true (.tripss (t6s.set ((y.getD t26.toNat 0).toNat) (t6s.getD ((y.getD t26.toNat 0).toNat) []))), .row true (.ints .i64 t7s_2), .row true (.ints .i64 y), .view 2 (.trips (t6s.getD ((y.getD t26.toNat 0).toNat) [])), .box [.v (.int .i64 (((t6s.getD ((y.getD t26.toNat 0).toNat) []).getD t35.toNat (0, 0, 0)).1)), .v (.int .i64 (((t6s.getD ((y.getD t26.toNat 0).toNat) []).getD t35.toNat (0, 0, 0)).2.1)), .v (.int .i64 (((t6s.getD ((y.getD t26.toNat 0).toNat) []).getD t35.toNat (0, 0, 0)).2.2))]] ?_
                clear hp0
                refine awp_freeze 11 (by rfl) (by rfl) (by first | exact rfl | (simp only [List.map_cons, List.map_nil, List.set_cons_succ, List.set_cons_zero, AObj.unview, reduceCtorEq, ↓reduceIte, Nat.reduceEqDiff]; exact rfl)) ?_
                replace h := chk_some h
                obtain ⟨hp0, h⟩ := h
                replace h := chk_some h
                obtain ⟨hp1, h⟩ := h
                replace h := chk_some h
                obtain ⟨hp2, h⟩ := h
                refine awp_end [(6, .sl 2), (7, .sl 3), (9, .v (.int .i64 (y.getD t26.toNat 0))), (24, .sl 4), (25, .v (.int .i64 (y.length : Int))), (26, .v (.int .i64 t26)), (33, .sl 5), (34, .v (.int .i64 ((t6s.getD ((y.getD t26.toNat 0).toNat) []).length : Int))), (35, .v (.int .i64 t35))] [.row false (.trips a0_1), .glob 0 (.ints .u8 tab0), .row true (.tripss (t6s.set ((y.getD t26.toNat 0).toNat) (t6s.getD ((y.getD t26.toNat 0).toNat) []))), .row true (.ints .i64 (t7s_2.set ((((t6s.getD ((y.getD t26.toNat 0).toNat) []).getD t35.toNat (0, 0, 0)).2.1).toNat) (max (t7s_2.getD ((((t6s.getD ((y.getD t26.toNat 0).toNat) []).getD t35.toNat (0, 0, 0)).2.1).toNat) 0) ((t7s_2.getD ((y.getD t26.toNat 0).toNat) 0) + ((t6s.getD ((y.getD t26.toNat 0).toNat) []).getD t35.toNat (0, 0, 0)).2.2)))), .row true (.ints .i64 y), .view 2 (.trips (t6s.getD ((y.getD t26.toNat 0).toNat) [])), .rbox [.v (.int .i64 (((t6s.getD ((y.getD t26.toNat 0).toNat) []).getD t35.toNat (0, 0, 0)).1)), .v (.int .i64 (((t6s.getD ((y.getD t26.toNat 0).toNat) []).getD t35.toNat (0, 0, 0)).2.1)), .v (.int .i64 (((t6s.getD ((y.getD t26.toNat 0).toNat) []).getD t35.toNat (0, 0, 0)).2.2))]] ?_ ?_
                · clear h
                  intro K hK
                  refine awp_drawT mixed ftCOk (.free 0 (.free 1 (.free 3 (.free 4 (.free 8 (.free 9 (.free 12 (.free 2 (.free 5 (.free 13 (.two 6 10 (.two 7 10 (.one 10 (.one 11 (.one 14 (.one 15 (.one 16 (.one 17 .fin)))))) (.two 7 11 (.one 11 (.one 14 (.one 15 (.one 16 (.one 17 .fin))))) (.free 14 (.one 7 (.one 15 (.one 16 (.one 17 .fin))))))) (.two 6 11 (.two 7 11 (.one 11 (.one 14 (.one 15 (.one 16 (.one 17 .fin))))) (.free 14 (.one 7 (.one 15 (.one 16 (.one 17 .fin)))))) (.free 14 (.one 6 (.one 7 (.one 15 (.one 16 (.one 17 .fin)))))))))))))))))) (by kernel_rfl) (by simp) ?_
                  simp (maxSteps := 4000000) only [go_sem, Nat.reduceBEq, Nat.reduceLT, Nat.reduceAdd, Nat.reduceLeDiff, Nat.reduceSub, Nat.reduceEqDiff, Int.reduceToNat, reduceCtorEq, ↓reduceIte]
                  repeat' (first | refine And.intro ?_ ?_ | intro hg)
                  all_goals (try simp (disch := omega) only [wrap_fits])
                  all_goals first
                    | (refine hK _ _ ?_; exact Red.auto)
                    | exact trivial
                    | assumption
                    | omega
                    | exact wrap_fits (by omega) (by omega)
                    | (simp (maxSteps := 4000000) only [go_sem, Nat.reduceBEq, Nat.reduceLT, Nat.reduceAdd, Nat.reduceLeDiff, Nat.reduceSub, Nat.reduceEqDiff, Int.reduceToNat, reduceCtorEq, ↓reduceIte]
                       repeat' (first | refine And.intro ?_ ?_ | intro hg)
                       all_goals (try simp (disch := omega) only [wrap_fits])
                       all_goals first | (refine hK _ _ ?_; exact Red.auto) | exact trivial | assumption | omega | exact wrap_fits (by omega) (by omega))
                    | (simp_all; done)
                    | (simp_all; omega)
                · clear hp0 hp1 hp2
                  (try simp only [Thn, InBlk, ↓reduceIte, Nat.reduceEqDiff])
                  (try simp only [Thn, InBlk, ↓reduceIte, Nat.reduceEqDiff])
                  refine hK195 _ _ ?_
                  clear hK195
                  replace h := chk_some h
                  obtain ⟨hp0, h⟩ := h
                  refine awp_regE ftCOk [(6, .sl 2), (7, .sl 3), (9, .v (.int .i64 (y.getD t26.toNat 0))), (24, .sl 4), (25, .v (.int .i64 (y.length : Int))), (26, .v (.int .i64 t26)), (33, .sl 5), (34, .v (.int .i64 ((t6s.getD ((y.getD t26.toNat 0).toNat) []).length : Int))), (35, .v (.int .i64 (t35 + 1)))] [.row false (.trips a0_1), .glob 0 (.ints .u8 tab0), .row true (.tripss (t6s.set ((y.getD t26.toNat 0).toNat) (t6s.getD ((y.getD t26.toNat 0).toNat) []))), .row true (.ints .i64 (t7s_2.set ((((t6s.getD ((y.getD t26.toNat 0).toNat) []).getD t35.toNat (0, 0, 0)).2.1).toNat) (max (t7s_2.getD ((((t6s.getD ((y.getD t26.toNat 0).toNat) []).getD t35.toNat (0, 0, 0)).2.1).toNat) 0) ((t7s_2.getD ((y.getD t26.toNat 0).toNat) 0) + ((t6s.getD ((y.getD t26.toNat 0).toNat) []).getD t35.toNat (0, 0, 0)).2.2)))), .row true (.ints .i64 y), .view 2 (.trips (t6s.getD ((y.getD t26.toNat 0).toNat) [])), .rbox [.v (.int .i64 (((t6s.getD ((y.getD t26.toNat 0).toNat) []).getD t35.toNat (0, 0, 0)).1)), .v (.int .i64 (((t6s.getD ((y.getD t26.toNat 0).toNat) []).getD t35.toNat (0, 0, 0)).2.1)), .v (.int .i64 (((t6s.getD ((y.getD t26.toNat 0).toNat) []).getD t35.toNat (0, 0, 0)).2.2))]] ?_
                  clear hp0
                  obtain rfl := Option.some.inj h
                  refine LoopQ.next ?_
                  exact Red.selA [0, 1, 2, 3, 4, 5] Red.auto
              · replace h := bite_f h hc194
                refine awp_exit ?_
                (try simp only [Thn, InBlk, ↓reduceIte, Nat.reduceEqDiff])
                obtain rfl := Option.some.inj h
                refine LoopQ.out rfl ?_
                exact Red.selA [0, 1, 2, 3, 4] Red.auto
            · clear hx
              skip
              · try dsimp only [Sum.elim_inl, Sum.elim_inr] at h
                try dsimp only [Sum.elim_inl, Sum.elim_inr]
                (try simp only [Thn, InBlk, ↓reduceIte, Nat.reduceEqDiff])
                (try simp only [Thn, InBlk, ↓reduceIte, Nat.reduceEqDiff])
                (try simp only [Thn, InBlk, ↓reduceIte, Nat.reduceEqDiff])
                (try simp only [Thn, InBlk, ↓reduceIte, Nat.reduceEqDiff])
                refine hK183 _ _ ?_
                clear hK183
                replace h := chk_some h
                obtain ⟨hp0, h⟩ := h
                refine awp_regE ftCOk [(6, .sl 2), (7, .sl 3), (24, .sl 4), (25, .v (.int .i64 (y.length : Int))), (26, .v (.int .i64 (t26 + 1)))] [.row false (.trips a0_1), .glob 0 (.ints .u8 tab0), .row true (.tripss (t6s.set ((y.getD t26.toNat 0).toNat) (t6s.getD ((y.getD t26.toNat 0).toNat) []))), .row true (.ints .i64 t7s_3), .row true (.ints .i64 y)] ?_
                clear hp0
                obtain rfl := Option.some.inj h
                refine LoopQ.next ?_
                exact Red.auto
          · replace h := bite_f h hc168
            refine awp_exit ?_
            (try simp only [Thn, InBlk, ↓reduceIte, Nat.reduceEqDiff])
            obtain rfl := Option.some.inj h
            refine LoopQ.out rfl ?_
            exact Red.selA [0, 1, 3] Red.auto
        · clear hx
          skip
          · try dsimp only [Sum.elim_inl, Sum.elim_inr] at h
            try dsimp only [Sum.elim_inl, Sum.elim_inr]
            (try simp only [Thn, InBlk, ↓reduceIte, Nat.reduceEqDiff])
            (try simp only [Thn, InBlk, ↓reduceIte, Nat.reduceEqDiff])
            (try simp only [Thn, InBlk, ↓reduceIte, Nat.reduceEqDiff])
            refine hK101 _ _ ?_
            clear hK101
            refine awp_reg ftCOk [(2, .sl 2), (3, .v (.bool true))] [.row false (.trips a0_1), .glob 0 (.ints .u8 tab0), .row true (.ints .i64 t7s_1)] ?_
            refine awp_ret ?_
            (try simp only [Thn, InBlk, ↓reduceIte, Nat.reduceEqDiff])
            obtain rfl := Option.some.inj h
            refine ⟨by simp, _, [0, 1, 2], (by simp only [go_sem, Nat.reduceBEq, Nat.reduceLT, Nat.reduceAdd, Nat.reduceLeDiff, Nat.reduceSub, Nat.reduceEqDiff, Int.reduceToNat, reduceCtorEq, ↓reduceIte]; exact rfl), ?_, ?_, ?_, ?_⟩
            · first | exact trivial | exact ⟨trivial, trivial⟩ | exact ⟨trivial, trivial, trivial⟩ | exact ⟨trivial, trivial, trivial, trivial⟩ | (simp only [allP, and_true, true_and]; done) | (simp only [allP, and_true, true_and]; omega)
            · simp [selOk, pos]
            · simp
            · first | exact ⟨rfl, rfl⟩ | (simp only [go_sem, Nat.reduceBEq, Nat.reduceLT, Nat.reduceAdd, Nat.reduceLeDiff, Nat.reduceSub, Nat.reduceEqDiff, Int.reduceToNat, reduceCtorEq, ↓reduceIte]; done) | (simp [go_sem, Nat.reduceBEq, Nat.reduceLT, Nat.reduceAdd, Nat.reduceLeDiff, Nat.reduceSub, Nat.reduceEqDiff, Int.reduceToNat, reduceCtorEq, ↓reduceIte]; done) | (simp only [go_sem, Nat.reduceBEq, Nat.reduceLT, Nat.reduceAdd, Nat.reduceLeDiff, Nat.reduceSub, Nat.reduceEqDiff, Int.reduceToNat, reduceCtorEq, ↓reduceIte]; exact ⟨rfl, rfl⟩) | (simp_all [go_sem, Nat.reduceBEq, Nat.reduceLT, Nat.reduceAdd, Nat.reduceLeDiff, Nat.reduceSub, Nat.reduceEqDiff, Int.reduceToNat, reduceCtorEq, ↓reduceIte]; done)
theorem k_spec_l20Forward (a0_0 : List Int) (a0_1 : Int) {r : Int × (List (Int × Int × Int)) × Int} (h : spec_l20Forward a0_0 a0_1 = some r) :
    FnA Tryd.prog 59 [.pp 0 0] [.box [.sl 1, .v (.int .i64 a0_1)], .row false (.ints .u8 a0_0)] [] (fun x H => x = .agg [.v (.int .i64 r.1), .sl 2] ∧ H = [.box [.sl 1, .v (.int .i64 r.2.2)], .row false (.ints .u8 a0_0), .row true (.trips r.2.1)]) := by
  unfold spec_l20Forward at h
  refine FnA.of (N := 52) (pin := [0, 1]) (rs := [.cell 2 30]) Tryd.func59 rfl en59 rfl rfl (by simp) (by simp; try omega) ?_
  refine awp_reg ftCOk [(0, .pp 0 0), (2, .pp 2 0)] [.box [.sl 1, .v (.int .i64 a0_1)], .row false (.ints .u8 a0_0), .box [.v (.int .i64 0), .v (.slice none 0 0)]] ?_
  replace h := bind_some h
  obtain ⟨⟨y, y_1, y_2⟩, hr0, h⟩ := h
  try dsimp only at h
  refine awp_to [(0, .pp 0 0), (2, .pp 2 0), (3, .pp 4 0)] [.box [.sl 1, .v (.int .i64 y_2)], .row false (.ints .u8 a0_0), .box [.v (.int .i64 0), .v (.slice none 0 0)], .row true (.trips y_1), .box [.v (.int .i64 y), .sl 3]] ?_ ?_
  · clear h
    intro K hK
    refine awp_region ftCOk ?_
    simp (maxSteps := 4000000) only [go_sem, Nat.reduceBEq, Nat.reduceLT, Nat.reduceAdd, Nat.reduceLeDiff, Nat.reduceSub, Nat.reduceEqDiff, Int.reduceToNat, reduceCtorEq, ↓reduceIte]
    repeat' (first | refine And.intro ?_ ?_ | intro hg)
    all_goals (try simp (disch := omega) only [wrap_fits])
    all_goals first
      | (refine hK _ _ ?_; exact Red.auto)
      | exact trivial
      | assumption
      | omega
      | exact wrap_fits (by omega) (by omega)
      | (refine wpA_callA (k_spec_l20Graph a0_0 a0_1 14 (h := hr0)) [0, 1] [] ?_
         rintro x Hc' ⟨rfl, rfl⟩ hlen
         refine vcOps_sound ftCOk ?_
         simp (maxSteps := 4000000) only [go_sem, Nat.reduceBEq, Nat.reduceLT, Nat.reduceAdd, Nat.reduceLeDiff, Nat.reduceSub, Nat.reduceEqDiff, Int.reduceToNat, reduceCtorEq, ↓reduceIte]
         repeat' (first | refine And.intro ?_ ?_ | intro hg)
         all_goals (try simp (disch := omega) only [wrap_fits])
         all_goals first
           | (refine hK _ _ ?_; exact Red.auto)
           | exact trivial
           | assumption
           | omega
           | exact wrap_fits (by omega) (by omega)
           | (simp_all; done)
           | (simp_all; omega))
      | (simp_all; done)
      | (simp_all; omega)
  · clear hr0
    refine awp_seq fun K2 hK2 => ?_
    replace h := bind_some h
    obtain ⟨⟨y_3, y_4⟩, hr0, h⟩ := h
    try dsimp only at h
    replace h := bind_some h
    obtain ⟨y_5, hr1, h⟩ := h
    try dsimp only at h
    refine awp_to [(2, .pp 2 0), (3, .pp 4 0), (16, .v (.bool ((y_3 == 0) || (!y_5))))] [.box [.sl 1, .v (.int .i64 y_4)], .row false (.ints .u8 a0_0), .box [.v (.int .i64 0), .v (.slice none 0 0)], .row true (.trips y_1), .box [.v (.int .i64 y), .sl 3]] ?_ ?_
    · clear h
      intro K hK
      refine awp_region ftCOk ?_
      simp (maxSteps := 4000000) only [go_sem, Nat.reduceBEq, Nat.reduceLT, Nat.reduceAdd, Nat.reduceLeDiff, Nat.reduceSub, Nat.reduceEqDiff, Int.reduceToNat, reduceCtorEq, ↓reduceIte]
      repeat' (first | refine And.intro ?_ ?_ | intro hg)
      all_goals (try simp (disch := omega) only [wrap_fits])
      all_goals first
        | (refine hK _ _ ?_; exact Red.auto)
        | exact trivial
        | assumption
        | omega
        | exact wrap_fits (by omega) (by omega)
        | (refine wpA_callA (k_spec_l20Rd_pick a0_0 y_2 4 (h := hr0)) [0, 1] [] ?_
           rintro x Hc' ⟨rfl, rfl⟩ hlen
           refine vcOps_sound ftCOk ?_
           simp (maxSteps := 4000000) only [go_sem, Nat.reduceBEq, Nat.reduceLT, Nat.reduceAdd, Nat.reduceLeDiff, Nat.reduceSub, Nat.reduceEqDiff, Int.reduceToNat, reduceCtorEq, ↓reduceIte]
           repeat' (first | refine And.intro ?_ ?_ | intro hg)
           all_goals (try simp (disch := omega) only [wrap_fits])
           all_goals first
             | (refine hK _ _ ?_; exact Red.auto)
             | exact trivial
             | assumption
             | omega
             | exact wrap_fits (by omega) (by omega)
             | (refine wpA_guard rfl rfl ?_
                refine wpA_callA (k_spec_GraphValid y y_1 (h := (bite_t hr1 (by rw [Bool.not_eq_true']; exact (by first | assumption | (simp only [*, Bool.false_or, Bool.true_or, Bool.or_false, Bool.or_true, Bool.false_and, Bool.true_and, Bool.and_false, Bool.and_true, Bool.not_true, Bool.not_false, beq_self_eq_true]; done) | (simp_all; done)))))) [3] [] ?_
                rintro x Hc' ⟨rfl, rfl⟩ hlen
                refine vcOps_sound ftCOk ?_
                simp (maxSteps := 4000000) only [go_sem, Nat.reduceBEq, Nat.reduceLT, Nat.reduceAdd, Nat.reduceLeDiff, Nat.reduceSub, Nat.reduceEqDiff, Int.reduceToNat, reduceCtorEq, ↓reduceIte]
                repeat' (first | refine And.intro ?_ ?_ | intro hg)
                all_goals (try simp (disch := omega) only [wrap_fits])
                all_goals first
                  | (refine hK _ _ ?_; exact Red.auto)
                  | exact trivial
                  | assumption
                  | omega
                  | exact wrap_fits (by omega) (by omega)
                  | (simp_all; done)
                  | (simp_all; omega))
             | (simp_all; done)
             | (simp_all; omega))
        | (simp_all; done)
        | (simp_all; omega)
    · clear hr0 hr1
      refine awp_cond (t := 16) rfl (fun hc3 => ?_) (fun hc3 => ?_)
      · replace h := bite_t h hc3
        refine awp_reg ftCOk [(2, .pp 2 0)] [.box [.sl 1, .v (.int .i64 y_4)], .row false (.ints .u8 a0_0), .box [.v (.int .i64 y), .sl 3], .row true (.trips y_1), .box [.v (.int .i64 y), .sl 3]] ?_
        refine awp_ret ?_
        (try simp only [Thn, InBlk, ↓reduceIte, Nat.reduceEqDiff])
        obtain rfl := Option.some.inj h
        refine ⟨by simp, _, [0, 1, 3], (by simp only [go_sem, Nat.reduceBEq, Nat.reduceLT, Nat.reduceAdd, Nat.reduceLeDiff, Nat.reduceSub, Nat.reduceEqDiff, Int.reduceToNat, reduceCtorEq, ↓reduceIte]; exact rfl), ?_, ?_, ?_, ?_⟩
        · first | exact trivial | exact ⟨trivial, trivial⟩ | exact ⟨trivial, trivial, trivial⟩ | exact ⟨trivial, trivial, trivial, trivial⟩ | (simp only [allP, and_true, true_and]; done) | (simp only [allP, and_true, true_and]; omega)
        · simp [selOk, pos]
        · simp
        · first | exact ⟨rfl, rfl⟩ | (simp only [go_sem, Nat.reduceBEq, Nat.reduceLT, Nat.reduceAdd, Nat.reduceLeDiff, Nat.reduceSub, Nat.reduceEqDiff, Int.reduceToNat, reduceCtorEq, ↓reduceIte]; done) | (simp [go_sem, Nat.reduceBEq, Nat.reduceLT, Nat.reduceAdd, Nat.reduceLeDiff, Nat.reduceSub, Nat.reduceEqDiff, Int.reduceToNat, reduceCtorEq, ↓reduceIte]; done) | (simp only [go_sem, Nat.reduceBEq, Nat.reduceLT, Nat.reduceAdd, Nat.reduceLeDiff, Nat.reduceSub, Nat.reduceEqDiff, Int.reduceToNat, reduceCtorEq, ↓reduceIte]; exact ⟨rfl, rfl⟩) | (simp_all [go_sem, Nat.reduceBEq, Nat.reduceLT, Nat.reduceAdd, Nat.reduceLeDiff, Nat.reduceSub, Nat.reduceEqDiff, Int.reduceToNat, reduceCtorEq, ↓reduceIte]; done)
      · replace h := bite_f h hc3
        refine awp_skip ?_
        (try simp only [Thn, InBlk, ↓reduceIte, Nat.reduceEqDiff])
        refine hK2 _ _ ?_
        clear hK2
        refine awp_reg ftCOk [(2, .pp 2 0), (3, .pp 4 0), (4, .pp 5 0)] [.box [.sl 1, .v (.int .i64 y_4)], .row false (.ints .u8 a0_0), .box [.v (.int .i64 0), .v (.slice none 0 0)], .row true (.trips y_1), .box [.v (.int .i64 y), .sl 3], .box [.v (.int .i64 y), .v (.slice none 0 0)]] ?_
        refine awp_seq fun K21 hK21 => ?_
        refine awp_reg ftCOk [(2, .pp 2 0), (3, .pp 4 0), (4, .pp 5 0), (5, .v (.int .i64 0))] [.box [.sl 1, .v (.int .i64 y_4)], .row false (.ints .u8 a0_0), .box [.v (.int .i64 0), .v (.slice none 0 0)], .row true (.trips y_1), .box [.v (.int .i64 y), .sl 3], .box [.v (.int .i64 y), .v (.slice none 0 0)]] ?_
        refine awp_block ?_
        replace h := bind_some h
        obtain ⟨x38, hx, h⟩ := h
        refine awp_loopL hx (fun ((t5, t4_0, t4_1s) : Int × Int × (List (Int × Int × Int))) => [(2, .pp 2 0), (3, .pp 4 0), (4, .pp 6 0), (5, .v (.int .i64 t5))]) (fun ((t5, t4_0, t4_1s) : Int × Int × (List (Int × Int × Int))) => [.box [.sl 1, .v (.int .i64 y_4)], .row false (.ints .u8 a0_0), .box [.v (.int .i64 0), .sl 3], .row true (.trips []), .box [.v (.int .i64 y), .sl 5], .row true (.trips y_1), .box [.v (.int .i64 t4_0), .sl 7], .row true (.trips t4_1s)]) (fun ((t4_0_1, t4_1s_1) : Int × (List (Int × Int × Int))) => Exit.exit 0) (fun ((t4_0_1, t4_1s_1) : Int × (List (Int × Int × Int))) => [(2, .pp 2 0), (4, .pp 4 0)]) (fun ((t4_0_1, t4_1s_1) : Int × (List (Int × Int × Int))) => [.box [.sl 1, .v (.int .i64 y_4)], .row false (.ints .u8 a0_0), .box [.v (.int .i64 0), .sl 3], .row true (.trips []), .box [.v (.int .i64 t4_0_1), .sl 5], .row true (.trips t4_1s_1)]) ?_ ?_ ?_ ?_
        · rintro ⟨t4_0_1, t4_1s_1⟩ hy <;> cases hy
        · clear h hx
          refine Red.trans (Red.nilCell (o := 2) (i := 1) (.trips []) rfl rfl rfl) ?_
          refine Red.trans (Red.nilCell (o := 5) (i := 1) (.trips []) rfl rfl rfl) ?_
          exact Red.selA [0, 1, 2, 6, 4, 3, 5, 7] Red.auto
        · clear h hx
          rintro ⟨t5, t4_0, t4_1s⟩ r h
          unfold spec_l20Forward_b0 at h
          try dsimp only at h
          try dsimp only
          refine awp_seq fun K35 hK35 => ?_
          refine awp_reg ftCOk [(2, .pp 2 0), (3, .pp 4 0), (4, .pp 6 0), (5, .v (.int .i64 t5)), (25, .v (.bool (decide (t5 < (y_1.length : Int)))))] [.box [.sl 1, .v (.int .i64 y_4)], .row false (.ints .u8 a0_0), .box [.v (.int .i64 0), .sl 3], .row true (.trips []), .box [.v (.int .i64 y), .sl 5], .row true (.trips y_1), .box [.v (.int .i64 t4_0), .sl 7], .row true (.trips t4_1s)] ?_
          refine awp_cond (t := 25) rfl (fun hc36 => ?_) (fun hc36 => ?_)
          · replace h := bite_t h hc36
            refine awp_skip ?_
            (try simp only [Thn, InBlk, ↓reduceIte, Nat.reduceEqDiff])
            refine hK35 _ _ ?_
            clear hK35
            refine awp_seq fun K37 hK37 => ?_
            refine awp_block ?_
            replace h := chk_some h
            obtain ⟨hp0, h⟩ := h
            refine awp_reg ftCOk [(2, .pp 2 0), (3, .pp 4 0), (4, .pp 6 0), (5, .v (.int .i64 t5)), (6, .pp 8 0)] [.box [.sl 1, .v (.int .i64 y_4)], .row false (.ints .u8 a0_0), .box [.v (.int .i64 0), .sl 3], .row true (.trips []), .box [.v (.int .i64 y), .sl 5], .row true (.trips y_1), .box [.v (.int .i64 t4_0), .sl 7], .row true (.trips t4_1s), .box [.v (.int .i64 ((y_1.getD t5.toNat (0, 0, 0)).1)), .v (.int .i64 ((y_1.getD t5.toNat (0, 0, 0)).2.1)), .v (.int .i64 ((y_1.getD t5.toNat (0, 0, 0)).2.2))]] ?_
            clear hp0
            replace h := bind_some h
            obtain ⟨⟨y_6, y_7, y_8⟩, hr0, h⟩ := h
            try dsimp only at h
            refine awp_end [(2, .pp 2 0), (3, .pp 4 0), (4, .pp 6 0), (5, .v (.int .i64 t5))] [.box [.sl 1, .v (.int .i64 y_4)], .row false (.ints .u8 a0_0), .box [.v (.int .i64 0), .sl 3], .row true (.trips []), .box [.v (.int .i64 y), .sl 5], .row true (.trips y_1), .box [.v (.int .i64 y_6), .sl 9], .row true (.trips t4_1s), .box [.v (.int .i64 ((y_1.getD t5.toNat (0, 0, 0)).1)), .v (.int .i64 ((y_1.getD t5.toNat (0, 0, 0)).2.1)), .v (.int .i64 ((y_1.getD t5.toNat (0, 0, 0)).2.2))], .row true (.trips y_7)] ?_ ?_
            · clear h
              intro K hK
              refine awp_region ftCOk ?_
              simp (maxSteps := 4000000) only [go_sem, Nat.reduceBEq, Nat.reduceLT, Nat.reduceAdd, Nat.reduceLeDiff, Nat.reduceSub, Nat.reduceEqDiff, Int.reduceToNat, reduceCtorEq, ↓reduceIte]
              repeat' (first | refine And.intro ?_ ?_ | intro hg)
              all_goals (try simp (disch := omega) only [wrap_fits])
              all_goals first
                | (refine hK _ _ ?_; exact Red.auto)
                | exact trivial
                | assumption
                | omega
                | exact wrap_fits (by omega) (by omega)
                | (refine wpA_callA (k_spec_AddEdge t4_0 t4_1s (min ((y_1.getD t5.toNat (0, 0, 0)).1) ((y_1.getD t5.toNat (0, 0, 0)).2.1)) (max ((y_1.getD t5.toNat (0, 0, 0)).1) ((y_1.getD t5.toNat (0, 0, 0)).2.1)) ((y_1.getD t5.toNat (0, 0, 0)).2.2) (h := hr0)) [7] [] ?_
                   rintro x Hc' ⟨rfl, rfl⟩ hlen
                   refine vcOps_sound ftCOk ?_
                   simp (maxSteps := 4000000) only [go_sem, Nat.reduceBEq, Nat.reduceLT, Nat.reduceAdd, Nat.reduceLeDiff, Nat.reduceSub, Nat.reduceEqDiff, Int.reduceToNat, reduceCtorEq, ↓reduceIte]
                   repeat' (first | refine And.intro ?_ ?_ | intro hg)
                   all_goals (try simp (disch := omega) only [wrap_fits])
                   all_goals first
                     | (refine hK _ _ ?_; exact Red.auto)
                     | exact trivial
                     | assumption
                     | omega
                     | exact wrap_fits (by omega) (by omega)
                     | (simp_all; done)
                     | (simp_all; omega))
                | (simp_all; done)
                | (simp_all; omega)
            · clear hr0
              (try simp only [Thn, InBlk, ↓reduceIte, Nat.reduceEqDiff])
              (try simp only [Thn, InBlk, ↓reduceIte, Nat.reduceEqDiff])
              refine hK37 _ _ ?_
              clear hK37
              replace h := chk_some h
              obtain ⟨hp0, h⟩ := h
              refine awp_regE ftCOk [(2, .pp 2 0), (3, .pp 4 0), (4, .pp 6 0), (5, .v (.int .i64 (t5 + 1)))] [.box [.sl 1, .v (.int .i64 y_4)], .row false (.ints .u8 a0_0), .box [.v (.int .i64 0), .sl 3], .row true (.trips []), .box [.v (.int .i64 y), .sl 5], .row true (.trips y_1), .box [.v (.int .i64 y_6), .sl 9], .row true (.trips t4_1s), .box [.v (.int .i64 ((y_1.getD t5.toNat (0, 0, 0)).1)), .v (.int .i64 ((y_1.getD t5.toNat (0, 0, 0)).2.1)), .v (.int .i64 ((y_1.getD t5.toNat (0, 0, 0)).2.2))], .row true (.trips y_7)] ?_
              clear hp0
              obtain rfl := Option.some.inj h
              refine LoopQ.next ?_
              exact Red.selA [0, 1, 2, 3, 4, 5, 6, 9] Red.auto
          · replace h := bite_f h hc36
            refine awp_exit ?_
            (try simp only [Thn, InBlk, ↓reduceIte, Nat.reduceEqDiff])
            obtain rfl := Option.some.inj h
            refine LoopQ.out rfl ?_
            exact Red.selA [0, 1, 2, 3, 6, 7] Red.auto
        · clear hx
          rcases x38 with ⟨t4_0_1, t4_1s_1⟩
          · try dsimp only [Sum.elim_inl, Sum.elim_inr] at h
            try dsimp only [Sum.elim_inl, Sum.elim_inr]
            (try simp only [Thn, InBlk, ↓reduceIte, Nat.reduceEqDiff])
            (try simp only [Thn, InBlk, ↓reduceIte, Nat.reduceEqDiff])
            (try simp only [Thn, InBlk, ↓reduceIte, Nat.reduceEqDiff])
            refine hK21 _ _ ?_
            clear hK21
            refine awp_reg ftCOk [(2, .pp 2 0)] [.box [.sl 1, .v (.int .i64 y_4)], .row false (.ints .u8 a0_0), .box [.v (.int .i64 t4_0_1), .sl 5], .row true (.trips []), .box [.v (.int .i64 t4_0_1), .sl 5], .row true (.trips t4_1s_1)] ?_
            refine awp_ret ?_
            (try simp only [Thn, InBlk, ↓reduceIte, Nat.reduceEqDiff])
            obtain rfl := Option.some.inj h
            refine ⟨by simp, _, [0, 1, 5], (by simp only [go_sem, Nat.reduceBEq, Nat.reduceLT, Nat.reduceAdd, Nat.reduceLeDiff, Nat.reduceSub, Nat.reduceEqDiff, Int.reduceToNat, reduceCtorEq, ↓reduceIte]; exact rfl), ?_, ?_, ?_, ?_⟩
            · first | exact trivial | exact ⟨trivial, trivial⟩ | exact ⟨trivial, trivial, trivial⟩ | exact ⟨trivial, trivial, trivial, trivial⟩ | (simp only [allP, and_true, true_and]; done) | (simp only [allP, and_true, true_and]; omega)
            · simp [selOk, pos]
            · simp
            · first | exact ⟨rfl, rfl⟩ | (simp only [go_sem, Nat.reduceBEq, Nat.reduceLT, Nat.reduceAdd, Nat.reduceLeDiff, Nat.reduceSub, Nat.reduceEqDiff, Int.reduceToNat, reduceCtorEq, ↓reduceIte]; done) | (simp [go_sem, Nat.reduceBEq, Nat.reduceLT, Nat.reduceAdd, Nat.reduceLeDiff, Nat.reduceSub, Nat.reduceEqDiff, Int.reduceToNat, reduceCtorEq, ↓reduceIte]; done) | (simp only [go_sem, Nat.reduceBEq, Nat.reduceLT, Nat.reduceAdd, Nat.reduceLeDiff, Nat.reduceSub, Nat.reduceEqDiff, Int.reduceToNat, reduceCtorEq, ↓reduceIte]; exact ⟨rfl, rfl⟩) | (simp_all [go_sem, Nat.reduceBEq, Nat.reduceLT, Nat.reduceAdd, Nat.reduceLeDiff, Nat.reduceSub, Nat.reduceEqDiff, Int.reduceToNat, reduceCtorEq, ↓reduceIte]; done)
theorem k_spec_l20Open_v1 (a0 : List Int) {r : List Int × Int} (h : spec_l20Open_v1 a0 = some r) :
    FnA Tryd.prog 50 [.sl 0] [.row false (.ints .u8 a0), .box [.v (.int .i64 0), .v (.slice none 0 0)]] [] (fun x H => x = .pp 2 0 ∧ H = [.row false (.ints .u8 a0), .box [.v (.int .i64 0), .v (.slice none 0 0)], .box [.sl 3, .v (.int .i64 r.2)], .row false (.ints .u8 r.1)]) := by
  unfold spec_l20Open_v1 at h
  refine FnA.of (N := 11) (pin := [0, 1]) (rs := [.tmp 2]) Tryd.func50 rfl en50 rfl rfl (by simp) (by simp; try omega) ?_
  refine awp_reg ftCOk [(0, .sl 0)] [.row false (.ints .u8 a0), .box [.v (.int .i64 0), .v (.slice none 0 0)]] ?_
  refine awp_join h (fun (t0s : List Int) => [(0, .sl 2)]) (fun (t0s : List Int) => [.row false (.ints .u8 a0), .box [.v (.int .i64 0), .v (.slice none 0 0)], .row false (.ints .u8 t0s)]) ?_ ?_
  · clear h
    intro k h
    try dsimp only at h
    refine awp_reg ftCOk [(0, .sl 0), (5, .v (.bool (decide (2000 < (a0.length : Int)))))] [.row false (.ints .u8 a0), .box [.v (.int .i64 0), .v (.slice none 0 0)]] ?_
    refine awp_cond (t := 5) rfl (fun hc2 => ?_) (fun hc2 => ?_)
    · replace h := bite_t h hc2
      replace h := chk_some h
      obtain ⟨hp0, h⟩ := h
      refine awp_regE ftCOk [(0, .sl 2)] [.row false (.ints .u8 a0), .box [.v (.int .i64 0), .v (.slice none 0 0)], .row false (.ints .u8 ((a0.take 2000).drop 0))] ?_
      clear hp0
      (try simp only [Thn, InBlk, ↓reduceIte, Nat.reduceEqDiff])
      refine ⟨_, h, ?_⟩
      exact Red.auto
    · replace h := bite_f h hc2
      refine awp_skip ?_
      (try simp only [Thn, InBlk, ↓reduceIte, Nat.reduceEqDiff])
      refine ⟨_, h, ?_⟩
      refine Red.trans (Red.dup (t := 0) rfl rfl) ?_
      exact Red.auto
  · clear h
    rintro t0s h
    try dsimp only at h
    try dsimp only
    refine awp_reg ftCOk [(2, .pp 3 0)] [.row false (.ints .u8 a0), .box [.v (.int .i64 0), .v (.slice none 0 0)], .row false (.ints .u8 t0s), .box [.sl 2, .v (.int .i64 0)]] ?_
    refine awp_ret ?_
    (try simp only [Thn, InBlk, ↓reduceIte, Nat.reduceEqDiff])
    obtain rfl := Option.some.inj h
    refine ⟨by simp, _, [0, 1, 3, 2], (by simp only [go_sem, Nat.reduceBEq, Nat.reduceLT, Nat.reduceAdd, Nat.reduceLeDiff, Nat.reduceSub, Nat.reduceEqDiff, Int.reduceToNat, reduceCtorEq, ↓reduceIte]; exact rfl), ?_, ?_, ?_, ?_⟩
    · first | exact trivial | exact ⟨trivial, trivial⟩ | exact ⟨trivial, trivial, trivial⟩ | exact ⟨trivial, trivial, trivial, trivial⟩ | (simp only [allP, and_true, true_and]; done) | (simp only [allP, and_true, true_and]; omega)
    · simp [selOk, pos]
    · simp
    · first | exact ⟨rfl, rfl⟩ | (simp only [go_sem, Nat.reduceBEq, Nat.reduceLT, Nat.reduceAdd, Nat.reduceLeDiff, Nat.reduceSub, Nat.reduceEqDiff, Int.reduceToNat, reduceCtorEq, ↓reduceIte]; done) | (simp [go_sem, Nat.reduceBEq, Nat.reduceLT, Nat.reduceAdd, Nat.reduceLeDiff, Nat.reduceSub, Nat.reduceEqDiff, Int.reduceToNat, reduceCtorEq, ↓reduceIte]; done) | (simp only [go_sem, Nat.reduceBEq, Nat.reduceLT, Nat.reduceAdd, Nat.reduceLeDiff, Nat.reduceSub, Nat.reduceEqDiff, Int.reduceToNat, reduceCtorEq, ↓reduceIte]; exact ⟨rfl, rfl⟩) | (simp_all [go_sem, Nat.reduceBEq, Nat.reduceLT, Nat.reduceAdd, Nat.reduceLeDiff, Nat.reduceSub, Nat.reduceEqDiff, Int.reduceToNat, reduceCtorEq, ↓reduceIte]; done)
theorem k_spec_DrawLongestWays (a0 : List Int) {r : Int × (List (Int × Int × Int))} (h : spec_DrawLongestWays a0 = some r) :
    FnA Tryd.prog 31 [.sl 0] [.row false (.ints .u8 a0)] [] (fun x H => x = .agg [.v (.int .i64 r.1), .sl 1] ∧ H = [.row false (.ints .u8 a0), .row true (.trips r.2)]) := by
  unfold spec_DrawLongestWays at h
  refine FnA.of (N := 6) (pin := [0]) (rs := [.cell 2 30]) Tryd.func31 rfl en31 rfl rfl (by simp) (by simp; try omega) ?_
  refine awp_reg ftCOk [(0, .sl 0), (2, .pp 1 0)] [.row false (.ints .u8 a0), .box [.v (.int .i64 0), .v (.slice none 0 0)]] ?_
  replace h := bind_some h
  obtain ⟨⟨y, y_1⟩, hr0, h⟩ := h
  try dsimp only at h
  replace h := bind_some h
  obtain ⟨⟨y_2, y_3, y_4⟩, hr1, h⟩ := h
  try dsimp only at h
  refine awp_to [(2, .pp 1 0)] [.row false (.ints .u8 a0), .box [.v (.int .i64 y_2), .sl 4], .box [.sl 3, .v (.int .i64 y_4)], .row false (.ints .u8 y), .row true (.trips y_3)] ?_ ?_
  · clear h
    intro K hK
    refine awp_region ftCOk ?_
    simp (maxSteps := 4000000) only [go_sem, Nat.reduceBEq, Nat.reduceLT, Nat.reduceAdd, Nat.reduceLeDiff, Nat.reduceSub, Nat.reduceEqDiff, Int.reduceToNat, reduceCtorEq, ↓reduceIte]
    repeat' (first | refine And.intro ?_ ?_ | intro hg)
    all_goals (try simp (disch := omega) only [wrap_fits])
    all_goals first
      | (refine hK _ _ ?_; exact Red.auto)
      | exact trivial
      | assumption
      | omega
      | exact wrap_fits (by omega) (by omega)
      | (refine wpA_here (k_spec_l20Open_v1 a0 (h := hr0)) ?_
         rintro x Hc' ⟨rfl, rfl⟩ hlen
         refine vcOps_sound ftCOk ?_
         simp (maxSteps := 4000000) only [go_sem, Nat.reduceBEq, Nat.reduceLT, Nat.reduceAdd, Nat.reduceLeDiff, Nat.reduceSub, Nat.reduceEqDiff, Int.reduceToNat, reduceCtorEq, ↓reduceIte]
         repeat' (first | refine And.intro ?_ ?_ | intro hg)
         all_goals (try simp (disch := omega) only [wrap_fits])
         all_goals first
           | (refine hK _ _ ?_; exact Red.auto)
           | exact trivial
           | assumption
           | omega
           | exact wrap_fits (by omega) (by omega)
           | (refine wpA_callA (k_spec_l20Forward y y_1 (h := hr1)) [2, 3] [] ?_
              rintro x Hc' ⟨rfl, rfl⟩ hlen
              refine vcOps_sound ftCOk ?_
              simp (maxSteps := 4000000) only [go_sem, Nat.reduceBEq, Nat.reduceLT, Nat.reduceAdd, Nat.reduceLeDiff, Nat.reduceSub, Nat.reduceEqDiff, Int.reduceToNat, reduceCtorEq, ↓reduceIte]
              repeat' (first | refine And.intro ?_ ?_ | intro hg)
              all_goals (try simp (disch := omega) only [wrap_fits])
              all_goals first
                | (refine hK _ _ ?_; exact Red.auto)
                | exact trivial
                | assumption
                | omega
                | exact wrap_fits (by omega) (by omega)
                | (simp_all; done)
                | (simp_all; omega))
           | (simp_all; done)
           | (simp_all; omega))
      | (simp_all; done)
      | (simp_all; omega)
  · clear hr0 hr1
    refine awp_ret ?_
    (try simp only [Thn, InBlk, ↓reduceIte, Nat.reduceEqDiff])
    obtain rfl := Option.some.inj h
    refine ⟨by simp, _, [0, 4], (by simp only [go_sem, Nat.reduceBEq, Nat.reduceLT, Nat.reduceAdd, Nat.reduceLeDiff, Nat.reduceSub, Nat.reduceEqDiff, Int.reduceToNat, reduceCtorEq, ↓reduceIte]; exact rfl), ?_, ?_, ?_, ?_⟩
    · first | exact trivial | exact ⟨trivial, trivial⟩ | exact ⟨trivial, trivial, trivial⟩ | exact ⟨trivial, trivial, trivial, trivial⟩ | (simp only [allP, and_true, true_and]; done) | (simp only [allP, and_true, true_and]; omega)
    · simp [selOk, pos]
    · simp
    · first | exact ⟨rfl, rfl⟩ | (simp only [go_sem, Nat.reduceBEq, Nat.reduceLT, Nat.reduceAdd, Nat.reduceLeDiff, Nat.reduceSub, Nat.reduceEqDiff, Int.reduceToNat, reduceCtorEq, ↓reduceIte]; done) | (simp [go_sem, Nat.reduceBEq, Nat.reduceLT, Nat.reduceAdd, Nat.reduceLeDiff, Nat.reduceSub, Nat.reduceEqDiff, Int.reduceToNat, reduceCtorEq, ↓reduceIte]; done) | (simp only [go_sem, Nat.reduceBEq, Nat.reduceLT, Nat.reduceAdd, Nat.reduceLeDiff, Nat.reduceSub, Nat.reduceEqDiff, Int.reduceToNat, reduceCtorEq, ↓reduceIte]; exact ⟨rfl, rfl⟩) | (simp_all [go_sem, Nat.reduceBEq, Nat.reduceLT, Nat.reduceAdd, Nat.reduceLeDiff, Nat.reduceSub, Nat.reduceEqDiff, Int.reduceToNat, reduceCtorEq, ↓reduceIte]; done)
theorem k_laws_FnLongestWays (a0 : List Int) {r : Bool} (h : laws_FnLongestWays a0 = some r) :
    FnA Tryd.prog 8 [.sl 0] [.row false (.ints .u8 a0), .glob 0 (.ints .u8 tab0)] [] (fun x H => x = .v (.bool r) ∧ H = [.row false (.ints .u8 a0), .glob 0 (.ints .u8 tab0)]) := by
  unfold laws_FnLongestWays at h
  refine FnA.of (N := 115) (pin := [0, 1]) (rs := [.tmp 2]) Tryd.func8 rfl en8 rfl rfl (by simp) (by simp; try omega) ?_
  refine awp_reg ftCOk [(0, .sl 0)] [.row false (.ints .u8 a0), .glob 0 (.ints .u8 tab0)] ?_
  refine awp_seq fun K2 hK2 => ?_
  refine awp_reg ftCOk [(0, .sl 0), (14, .v (.bool (decide (1048576 < (a0.length : Int)))))] [.row false (.ints .u8 a0), .glob 0 (.ints .u8 tab0)] ?_
  refine awp_cond (t := 14) rfl (fun hc3 => ?_) (fun hc3 => ?_)
  · replace h := bite_t h hc3
    refine awp_reg ftCOk [(2, .v (.bool true))] [.row false (.ints .u8 a0), .glob 0 (.ints .u8 tab0)] ?_
    refine awp_ret ?_
    (try simp only [Thn, InBlk, ↓reduceIte, Nat.reduceEqDiff])
    obtain rfl := Option.some.inj h
    refine ⟨by simp, _, [0, 1], (by simp only [go_sem, Nat.reduceBEq, Nat.reduceLT, Nat.reduceAdd, Nat.reduceLeDiff, Nat.reduceSub, Nat.reduceEqDiff, Int.reduceToNat, reduceCtorEq, ↓reduceIte]; exact rfl), ?_, ?_, ?_, ?_⟩
    · first | exact trivial | exact ⟨trivial, trivial⟩ | exact ⟨trivial, trivial, trivial⟩ | exact ⟨trivial, trivial, trivial, trivial⟩ | (simp only [allP, and_true, true_and]; done) | (simp only [allP, and_true, true_and]; omega)
    · simp [selOk, pos]
    · simp
    · first | exact ⟨rfl, rfl⟩ | (simp only [go_sem, Nat.reduceBEq, Nat.reduceLT, Nat.reduceAdd, Nat.reduceLeDiff, Nat.reduceSub, Nat.reduceEqDiff, Int.reduceToNat, reduceCtorEq, ↓reduceIte]; done) | (simp [go_sem, Nat.reduceBEq, Nat.reduceLT, Nat.reduceAdd, Nat.reduceLeDiff, Nat.reduceSub, Nat.reduceEqDiff, Int.reduceToNat, reduceCtorEq, ↓reduceIte]; done) | (simp only [go_sem, Nat.reduceBEq, Nat.reduceLT, Nat.reduceAdd, Nat.reduceLeDiff, Nat.reduceSub, Nat.reduceEqDiff, Int.reduceToNat, reduceCtorEq, ↓reduceIte]; exact ⟨rfl, rfl⟩) | (simp_all [go_sem, Nat.reduceBEq, Nat.reduceLT, Nat.reduceAdd, Nat.reduceLeDiff, Nat.reduceSub, Nat.reduceEqDiff, Int.reduceToNat, reduceCtorEq, ↓reduceIte]; done)
  · replace h := bite_f h hc3
    refine awp_skip ?_
    (try simp only [Thn, InBlk, ↓reduceIte, Nat.reduceEqDiff])
    refine hK2 _ _ ?_
    clear hK2
    replace h := bind_some h
    obtain ⟨⟨y, y_1⟩, hr0, h⟩ := h
    try dsimp only at h
    refine awp_to [(3, .pp 3 0)] [.row false (.ints .u8 a0), .glob 0 (.ints .u8 tab0), .row true (.trips y_1), .box [.v (.int .i64 y), .sl 2]] ?_ ?_
    · clear h
      intro K hK
      refine awp_region ftCOk ?_
      simp (maxSteps := 4000000) only [go_sem, Nat.reduceBEq, Nat.reduceLT, Nat.reduceAdd, Nat.reduceLeDiff, Nat.reduceSub, Nat.reduceEqDiff, Int.reduceToNat, reduceCtorEq, ↓reduceIte]
      repeat' (first | refine And.intro ?_ ?_ | intro hg)
      all_goals (try simp (disch := omega) only [wrap_fits])
      all_goals first
        | (refine hK _ _ ?_; exact Red.auto)
        | exact trivial
        | assumption
        | omega
        | exact wrap_fits (by omega) (by omega)
        | (refine wpA_callA (k_spec_DrawLongestWays a0 (h := hr0)) [0] [] ?_
           rintro x Hc' ⟨rfl, rfl⟩ hlen
           refine vcOps_sound ftCOk ?_
           simp (maxSteps := 4000000) only [go_sem, Nat.reduceBEq, Nat.reduceLT, Nat.reduceAdd, Nat.reduceLeDiff, Nat.reduceSub, Nat.reduceEqDiff, Int.reduceToNat, reduceCtorEq, ↓reduceIte]
           repeat' (first | refine And.intro ?_ ?_ | intro hg)
           all_goals (try simp (disch := omega) only [wrap_fits])
           all_goals first
             | (refine hK _ _ ?_; exact Red.auto)
             | exact trivial
             | assumption
             | omega
             | exact wrap_fits (by omega) (by omega)
             | (simp_all; done)
             | (simp_all; omega))
        | (simp_all; done)
        | (simp_all; omega)
    · clear hr0
      replace h := bind_some h
      obtain ⟨⟨y_2, y_3⟩, hr0, h⟩ := h
      try dsimp only at h
      refine awp_to [(3, .pp 3 0), (4, .sl 4), (5, .v (.bool y_3))] [.row false (.ints .u8 a0), .glob 0 (.ints .u8 tab0), .row true (.trips y_1), .box [.v (.int .i64 y), .sl 2], .row true (.ints .i64 y_2)] ?_ ?_
      · clear h
        intro K hK
        refine awp_region ftCOk ?_
        simp (maxSteps := 4000000) only [go_sem, Nat.reduceBEq, Nat.reduceLT, Nat.reduceAdd, Nat.reduceLeDiff, Nat.reduceSub, Nat.reduceEqDiff, Int.reduceToNat, reduceCtorEq, ↓reduceIte]
        repeat' (first | refine And.intro ?_ ?_ | intro hg)
        all_goals (try simp (disch := omega) only [wrap_fits])
        all_goals first
          | (refine hK _ _ ?_; exact Red.auto)
          | exact trivial
          | assumption
          | omega
          | exact wrap_fits (by omega) (by omega)
          | (refine wpA_callA (k_impl_LongestWays y y_1 (h := hr0)) [2, 1] [] ?_
             rintro x Hc' ⟨rfl, rfl⟩ hlen
             refine vcOps_sound ftCOk ?_
             simp (maxSteps := 4000000) only [go_sem, Nat.reduceBEq, Nat.reduceLT, Nat.reduceAdd, Nat.reduceLeDiff, Nat.reduceSub, Nat.reduceEqDiff, Int.reduceToNat, reduceCtorEq, ↓reduceIte]
             repeat' (first | refine And.intro ?_ ?_ | intro hg)
             all_goals (try simp (disch := omega) only [wrap_fits])
             all_goals first
               | (refine hK _ _ ?_; exact Red.auto)
               | exact trivial
               | assumption
               | omega
               | exact wrap_fits (by omega) (by omega)
               | (simp_all; done)
               | (simp_all; omega))
          | (simp_all; done)
          | (simp_all; omega)
      · clear hr0
        replace h := bind_some h
        obtain ⟨⟨y_4, y_5⟩, hr0, h⟩ := h
        try dsimp only at h
        refine awp_to [(3, .pp 3 0), (4, .sl 4), (5, .v (.bool y_3)), (6, .sl 5), (7, .v (.bool y_5))] [.row false (.ints .u8 a0), .glob 0 (.ints .u8 tab0), .row true (.trips y_1), .box [.v (.int .i64 y), .sl 2], .row true (.ints .i64 y_2), .row true (.ints .i64 y_4)] ?_ ?_
        · clear h
          intro K hK
          refine awp_region ftCOk ?_
          simp (maxSteps := 4000000) only [go_sem, Nat.reduceBEq, Nat.reduceLT, Nat.reduceAdd, Nat.reduceLeDiff, Nat.reduceSub, Nat.reduceEqDiff, Int.reduceToNat, reduceCtorEq, ↓reduceIte]
          repeat' (first | refine And.intro ?_ ?_ | intro hg)
          all_goals (try simp (disch := omega) only [wrap_fits])
          all_goals first
            | (refine hK _ _ ?_; exact Red.auto)
            | exact trivial
            | assumption
            | omega
            | exact wrap_fits (by omega) (by omega)
            | (refine wpA_callA (k_spec_LongestWays y y_1 (h := hr0)) [2] [] ?_
               rintro x Hc' ⟨rfl, rfl⟩ hlen
               refine vcOps_sound ftCOk ?_
               simp (maxSteps := 4000000) only [go_sem, Nat.reduceBEq, Nat.reduceLT, Nat.reduceAdd, Nat.reduceLeDiff, Nat.reduceSub, Nat.reduceEqDiff, Int.reduceToNat, reduceCtorEq, ↓reduceIte]
               repeat' (first | refine And.intro ?_ ?_ | intro hg)
               all_goals (try simp (disch := omega) only [wrap_fits])
               all_goals first
                 | (refine hK _ _ ?_; exact Red.auto)
                 | exact trivial
                 | assumption
                 | omega
                 | exact wrap_fits (by omega) (by omega)
                 | (simp_all; done)
                 | (simp_all; omega))
            | (simp_all; done)
            | (simp_all; omega)
        · clear hr0
          refine awp_seq fun K5 hK5 => ?_
          replace h := bind_some h
          obtain ⟨y_6, hr0, h⟩ := h
          try dsimp only at h
          refine awp_to [(3, .pp 3 0), (4, .sl 4), (5, .v (.bool y_3)), (35, .v (.bool ((!y_6) || (!(y_3 == y_5)))))] [.row false (.ints .u8 a0), .glob 0 (.ints .u8 tab0), .row true (.trips y_1), .box [.v (.int .i64 y), .sl 2], .row true (.ints .i64 y_2), .row true (.ints .i64 y_4)] ?_ ?_
          · clear h
            intro K hK
            refine awp_region ftCOk ?_
            simp (maxSteps := 4000000) only [go_sem, Nat.reduceBEq, Nat.reduceLT, Nat.reduceAdd, Nat.reduceLeDiff, Nat.reduceSub, Nat.reduceEqDiff, Int.reduceToNat, reduceCtorEq, ↓reduceIte]
            repeat' (first | refine And.intro ?_ ?_ | intro hg)
            all_goals (try simp (disch := omega) only [wrap_fits])
            all_goals first
              | (refine hK _ _ ?_; exact Red.auto)
              | exact trivial
              | assumption
              | omega
              | exact wrap_fits (by omega) (by omega)
              | (refine wpA_callA (k_laws_sameInts y_2 y_4 (h := hr0)) [4, 5] [] ?_
                 rintro x Hc' ⟨rfl, rfl⟩ hlen
                 refine vcOps_sound ftCOk ?_
                 simp (maxSteps := 4000000) only [go_sem, Nat.reduceBEq, Nat.reduceLT, Nat.reduceAdd, Nat.reduceLeDiff, Nat.reduceSub, Nat.reduceEqDiff, Int.reduceToNat, reduceCtorEq, ↓reduceIte]
                 repeat' (first | refine And.intro ?_ ?_ | intro hg)
                 all_goals (try simp (disch := omega) only [wrap_fits])
                 all_goals first
                   | (refine hK _ _ ?_; exact Red.auto)
                   | exact trivial
                   | assumption
                   | omega
                   | exact wrap_fits (by omega) (by omega)
                   | (simp_all; done)
                   | (simp_all; omega))
              | (simp_all; done)
              | (simp_all; omega)
          · clear hr0
            refine awp_cond (t := 35) rfl (fun hc6 => ?_) (fun hc6 => ?_)
            · replace h := bite_t h hc6
              refine awp_reg ftCOk [(2, .v (.bool false))] [.row false (.ints .u8 a0), .glob 0 (.ints .u8 tab0), .row true (.trips y_1), .box [.v (.int .i64 y), .sl 2], .row true (.ints .i64 y_2), .row true (.ints .i64 y_4)] ?_
              refine awp_ret ?_
              (try simp only [Thn, InBlk, ↓reduceIte, Nat.reduceEqDiff])
              obtain rfl := Option.some.inj h
              refine ⟨by simp, _, [0, 1], (by simp only [go_sem, Nat.reduceBEq, Nat.reduceLT, Nat.reduceAdd, Nat.reduceLeDiff, Nat.reduceSub, Nat.reduceEqDiff, Int.reduceToNat, reduceCtorEq, ↓reduceIte]; exact rfl), ?_, ?_, ?_, ?_⟩
              · first | exact trivial | exact ⟨trivial, trivial⟩ | exact ⟨trivial, trivial, trivial⟩ | exact ⟨trivial, trivial, trivial, trivial⟩ | (simp only [allP, and_true, true_and]; done) | (simp only [allP, and_true, true_and]; omega)
              · simp [selOk, pos]
              · simp
              · first | exact ⟨rfl, rfl⟩ | (simp only [go_sem, Nat.reduceBEq, Nat.reduceLT, Nat.reduceAdd, Nat.reduceLeDiff, Nat.reduceSub, Nat.reduceEqDiff, Int.reduceToNat, reduceCtorEq, ↓reduceIte]; done) | (simp [go_sem, Nat.reduceBEq, Nat.reduceLT, Nat.reduceAdd, Nat.reduceLeDiff, Nat.reduceSub, Nat.reduceEqDiff, Int.reduceToNat, reduceCtorEq, ↓reduceIte]; done) | (simp only [go_sem, Nat.reduceBEq, Nat.reduceLT, Nat.reduceAdd, Nat.reduceLeDiff, Nat.reduceSub, Nat.reduceEqDiff, Int.reduceToNat, reduceCtorEq, ↓reduceIte]; exact ⟨rfl, rfl⟩) | (simp_all [go_sem, Nat.reduceBEq, Nat.reduceLT, Nat.reduceAdd, Nat.reduceLeDiff, Nat.reduceSub, Nat.reduceEqDiff, Int.reduceToNat, reduceCtorEq, ↓reduceIte]; done)
            · replace h := bite_f h hc6
              refine awp_skip ?_
              (try simp only [Thn, InBlk, ↓reduceIte, Nat.reduceEqDiff])
              refine hK5 _ _ ?_
              clear hK5
              refine awp_seq fun K8 hK8 => ?_
              refine awp_reg ftCOk [(3, .pp 3 0), (4, .sl 4), (37, .v (.bool (!y_3)))] [.row false (.ints .u8 a0), .glob 0 (.ints .u8 tab0), .row true (.trips y_1), .box [.v (.int .i64 y), .sl 2], .row true (.ints .i64 y_2), .row true (.ints .i64 y_4)] ?_
              refine awp_cond (t := 37) rfl (fun hc9 => ?_) (fun hc9 => ?_)
              · replace h := bite_t h hc9
                replace h := bind_some h
                obtain ⟨y_7, hr0, h⟩ := h
                try dsimp only at h
                refine awp_to [(2, .v (.bool (((y_2.length : Int) == 0) && y_7)))] [.row false (.ints .u8 a0), .glob 0 (.ints .u8 tab0), .row true (.trips y_1), .box [.v (.int .i64 y), .sl 2], .row true (.ints .i64 y_2), .row true (.ints .i64 y_4)] ?_ ?_
                · clear h
                  intro K hK
                  refine awp_region ftCOk ?_
                  simp (maxSteps := 4000000) only [go_sem, Nat.reduceBEq, Nat.reduceLT, Nat.reduceAdd, Nat.reduceLeDiff, Nat.reduceSub, Nat.reduceEqDiff, Int.reduceToNat, reduceCtorEq, ↓reduceIte]
                  repeat' (first | refine And.intro ?_ ?_ | intro hg)
                  all_goals (try simp (disch := omega) only [wrap_fits])
                  all_goals first
                    | (refine hK _ _ ?_; exact Red.auto)
                    | exact trivial
                    | assumption
                    | omega
                    | exact wrap_fits (by omega) (by omega)
                    | (refine wpA_guard rfl rfl ?_
                       refine wpA_callA (k_laws_alive  (h := (bite_t hr0 (by first | assumption | (simp only [*, Bool.false_or, Bool.true_or, Bool.or_false, Bool.or_true, Bool.false_and, Bool.true_and, Bool.and_false, Bool.and_true, Bool.not_true, Bool.not_false, beq_self_eq_true]; done) | (simp_all; done))))) [] [] ?_
                       rintro x Hc' ⟨rfl, rfl⟩ hlen
                       refine vcOps_sound ftCOk ?_
                       simp (maxSteps := 4000000) only [go_sem, Nat.reduceBEq, Nat.reduceLT, Nat.reduceAdd, Nat.reduceLeDiff, Nat.reduceSub, Nat.reduceEqDiff, Int.reduceToNat, reduceCtorEq, ↓reduceIte]
                       repeat' (first | refine And.intro ?_ ?_ | intro hg)
                       all_goals (try simp (disch := omega) only [wrap_fits])
                       all_goals first
                         | (refine hK _ _ ?_; exact Red.auto)
                         | exact trivial
                         | assumption
                         | omega
                         | exact wrap_fits (by omega) (by omega)
                         | (simp_all; done)
                         | (simp_all; omega))
                    | (simp_all; done)
                    | (simp_all; omega)
                · clear hr0
                  refine awp_ret ?_
                  (try simp only [Thn, InBlk, ↓reduceIte, Nat.reduceEqDiff])
                  obtain rfl := Option.some.inj h
                  refine ⟨by simp, _, [0, 1], (by simp only [go_sem, Nat.reduceBEq, Nat.reduceLT, Nat.reduceAdd, Nat.reduceLeDiff, Nat.reduceSub, Nat.reduceEqDiff, Int.reduceToNat, reduceCtorEq, ↓reduceIte]; exact rfl), ?_, ?_, ?_, ?_⟩
                  · first | exact trivial | exact ⟨trivial, trivial⟩ | exact ⟨trivial, trivial, trivial⟩ | exact ⟨trivial, trivial, trivial, trivial⟩ | (simp only [allP, and_true, true_and]; done) | (simp only [allP, and_true, true_and]; omega)
                  · simp [selOk, pos]
                  · simp
                  · first | exact ⟨rfl, rfl⟩ | (simp only [go_sem, Nat.reduceBEq, Nat.reduceLT, Nat.reduceAdd, Nat.reduceLeDiff, Nat.reduceSub, Nat.reduceEqDiff, Int.reduceToNat, reduceCtorEq, ↓reduceIte]; done) | (simp [go_sem, Nat.reduceBEq, Nat.reduceLT, Nat.reduceAdd, Nat.reduceLeDiff, Nat.reduceSub, Nat.reduceEqDiff, Int.reduceToNat, reduceCtorEq, ↓reduceIte]; done) | (simp only [go_sem, Nat.reduceBEq, Nat.reduceLT, Nat.reduceAdd, Nat.reduceLeDiff, Nat.reduceSub, Nat.reduceEqDiff, Int.reduceToNat, reduceCtorEq, ↓reduceIte]; exact ⟨rfl, rfl⟩) | (simp_all [go_sem, Nat.reduceBEq, Nat.reduceLT, Nat.reduceAdd, Nat.reduceLeDiff, Nat.reduceSub, Nat.reduceEqDiff, Int.reduceToNat, reduceCtorEq, ↓reduceIte]; done)
              · replace h := bite_f h hc9
                refine awp_skip ?_
                (try simp only [Thn, InBlk, ↓reduceIte, Nat.reduceEqDiff])
                refine hK8 _ _ ?_
                clear hK8
                refine awp_seq fun K11 hK11 => ?_
                refine awp_reg ftCOk [(3, .pp 3 0), (4, .sl 4), (48, .v (.bool ((y_2.length : Int) != y)))] [.row false (.ints .u8 a0), .glob 0 (.ints .u8 tab0), .row true (.trips y_1), .box [.v (.int .i64 y), .sl 2], .row true (.ints .i64 y_2), .row true (.ints .i64 y_4)] ?_
                refine awp_cond (t := 48) rfl (fun hc12 => ?_) (fun hc12 => ?_)
                · replace h := bite_t h hc12
                  refine awp_reg ftCOk [(2, .v (.bool false))] [.row false (.ints .u8 a0), .glob 0 (.ints .u8 tab0), .row true (.trips y_1), .box [.v (.int .i64 y), .sl 2], .row true (.ints .i64 y_2), .row true (.ints .i64 y_4)] ?_
                  refine awp_ret ?_
                  (try simp only [Thn, InBlk, ↓reduceIte, Nat.reduceEqDiff])
                  obtain rfl := Option.some.inj h
                  refine ⟨by simp, _, [0, 1], (by simp only [go_sem, Nat.reduceBEq, Nat.reduceLT, Nat.reduceAdd, Nat.reduceLeDiff, Nat.reduceSub, Nat.reduceEqDiff, Int.reduceToNat, reduceCtorEq, ↓reduceIte]; exact rfl), ?_, ?_, ?_, ?_⟩
                  · first | exact trivial | exact ⟨trivial, trivial⟩ | exact ⟨trivial, trivial, trivial⟩ | exact ⟨trivial, trivial, trivial, trivial⟩ | (simp only [allP, and_true, true_and]; done) | (simp only [allP, and_true, true_and]; omega)
                  · simp [selOk, pos]
                  · simp
                  · first | exact ⟨rfl, rfl⟩ | (simp only [go_sem, Nat.reduceBEq, Nat.reduceLT, Nat.reduceAdd, Nat.reduceLeDiff, Nat.reduceSub, Nat.reduceEqDiff, Int.reduceToNat, reduceCtorEq, ↓reduceIte]; done) | (simp [go_sem, Nat.reduceBEq, Nat.reduceLT, Nat.reduceAdd, Nat.reduceLeDiff, Nat.reduceSub, Nat.reduceEqDiff, Int.reduceToNat, reduceCtorEq, ↓reduceIte]; done) | (simp only [go_sem, Nat.reduceBEq, Nat.reduceLT, Nat.reduceAdd, Nat.reduceLeDiff, Nat.reduceSub, Nat.reduceEqDiff, Int.reduceToNat, reduceCtorEq, ↓reduceIte]; exact ⟨rfl, rfl⟩) | (simp_all [go_sem, Nat.reduceBEq, Nat.reduceLT, Nat.reduceAdd, Nat.reduceLeDiff, Nat.reduceSub, Nat.reduceEqDiff, Int.reduceToNat, reduceCtorEq, ↓reduceIte]; done)
                · replace h := bite_f h hc12
                  refine awp_skip ?_
                  (try simp only [Thn, InBlk, ↓reduceIte, Nat.reduceEqDiff])
                  refine hK11 _ _ ?_
                  clear hK11
                  refine awp_seq fun K410 hK410 => ?_
                  refine awp_reg ftCOk [(3, .pp 3 0), (4, .sl 4), (8, .v (.int .i64 0))] [.row false (.ints .u8 a0), .glob 0 (.ints .u8 tab0), .row true (.trips y_1), .box [.v (.int .i64 y), .sl 2], .row true (.ints .i64 y_2), .row true (.ints .i64 y_4)] ?_
                  refine awp_block ?_
                  replace h := bind_some h
                  obtain ⟨x807, hx, h⟩ := h
                  refine awp_loopL hx (fun (t8 : Int) => [(3, .pp 2 0), (4, .sl 4), (8, .v (.int .i64 t8))]) (fun (t8 : Int) => [.row false (.ints .u8 a0), .glob 0 (.ints .u8 tab0), .box [.v (.int .i64 y), .sl 3], .row true (.trips y_1), .row true (.ints .i64 y_2)]) (Sum.elim (fun (_ : Unit) => Exit.exit 0) (fun (_ : Unit) => Exit.ret)) (Sum.elim (fun (_ : Unit) => []) (fun (_ : Unit) => [(2, .v (.bool false))])) (Sum.elim (fun (_ : Unit) => [.row false (.ints .u8 a0), .glob 0 (.ints .u8 tab0)]) (fun (_ : Unit) => [.row false (.ints .u8 a0), .glob 0 (.ints .u8 tab0)])) ?_ ?_ ?_ ?_
                  · rintro (⟨⟩ | ⟨⟩) hy <;> cases hy
                  · clear h hx
                    exact Red.selA [0, 1, 3, 2, 4] Red.auto
                  · clear h hx
                    rintro t8 r h
                    unfold laws_FnLongestWays_b1 at h
                    try dsimp only at h
                    try dsimp only
                    refine awp_seq fun K676 hK676 => ?_
                    refine awp_reg ftCOk [(3, .pp 2 0), (4, .sl 4), (8, .v (.int .i64 t8)), (52, .v (.bool (decide (t8 < y))))] [.row false (.ints .u8 a0), .glob 0 (.ints .u8 tab0), .box [.v (.int .i64 y), .sl 3], .row true (.trips y_1), .row true (.ints .i64 y_2)] ?_
                    refine awp_cond (t := 52) rfl (fun hc677 => ?_) (fun hc677 => ?_)
                    · replace h := bite_t h hc677
                      refine awp_skip ?_
                      (try simp only [Thn, InBlk, ↓reduceIte, Nat.reduceEqDiff])
                      refine hK676 _ _ ?_
                      clear hK676
                      refine awp_seq fun K742 hK742 => ?_
                      refine awp_block ?_
                      replace h := chk_some h
                      obtain ⟨hp0, h⟩ := h
                      refine awp_reg ftCOk [(3, .pp 2 0), (4, .sl 4), (8, .v (.int .i64 t8)), (9, .v (.bool ((y_2.getD t8.toNat 0) == 0)))] [.row false (.ints .u8 a0), .glob 0 (.ints .u8 tab0), .box [.v (.int .i64 y), .sl 3], .row true (.trips y_1), .row true (.ints .i64 y_2)] ?_
                      clear hp0
                      refine awp_seq fun K774 hK774 => ?_
                      refine awp_reg ftCOk [(3, .pp 2 0), (4, .sl 4), (8, .v (.int .i64 t8)), (9, .v (.bool ((y_2.getD t8.toNat 0) == 0))), (10, .v (.int .i64 0))] [.row false (.ints .u8 a0), .glob 0 (.ints .u8 tab0), .box [.v (.int .i64 y), .sl 3], .row true (.trips y_1), .row true (.ints .i64 y_2)] ?_
                      refine awp_block ?_
                      replace h := bind_some h
                      obtain ⟨x805, hx, h⟩ := h
                      refine awp_loopL hx (fun ((t9, t10) : Bool × Int) => [(3, .pp 2 0), (4, .sl 4), (8, .v (.int .i64 t8)), (9, .v (.bool t9)), (10, .v (.int .i64 t10))]) (fun ((t9, t10) : Bool × Int) => [.row false (.ints .u8 a0), .glob 0 (.ints .u8 tab0), .box [.v (.int .i64 y), .sl 3], .row true (.trips y_1), .row true (.ints .i64 y_2)]) (Sum.elim (fun (t9_1 : Bool) => Exit.exit 2) (fun (_ : Unit) => Exit.ret)) (Sum.elim (fun (t9_1 : Bool) => [(3, .pp 2 0), (4, .sl 4), (8, .v (.int .i64 t8)), (9, .v (.bool t9_1))]) (fun (_ : Unit) => [(2, .v (.bool false))])) (Sum.elim (fun (t9_1 : Bool) => [.row false (.ints .u8 a0), .glob 0 (.ints .u8 tab0), .box [.v (.int .i64 y), .sl 3], .row true (.trips y_1), .row true (.ints .i64 y_2)]) (fun (_ : Unit) => [.row false (.ints .u8 a0), .glob 0 (.ints .u8 tab0)])) ?_ ?_ ?_ ?_
                      · rintro (t9_1 | ⟨⟩) hy <;> cases hy
                      · clear h hx
                        exact Red.auto
                      · clear h hx
                        rintro ⟨t9, t10⟩ r h
                        unfold laws_FnLongestWays_b0 at h
                        try dsimp only at h
                        try dsimp only
                        refine awp_seq fun K796 hK796 => ?_
                        refine awp_reg ftCOk [(3, .pp 2 0), (4, .sl 4), (8, .v (.int .i64 t8)), (9, .v (.bool t9)), (10, .v (.int .i64 t10)), (64, .v (.bool (decide (t10 < (y_1.length : Int)))))] [.row false (.ints .u8 a0), .glob 0 (.ints .u8 tab0), .box [.v (.int .i64 y), .sl 3], .row true (.trips y_1), .row true (.ints .i64 y_2)] ?_
                        refine awp_cond (t := 64) rfl (fun hc797 => ?_) (fun hc797 => ?_)
                        · replace h := bite_t h hc797
                          refine awp_skip ?_
                          (try simp only [Thn, InBlk, ↓reduceIte, Nat.reduceEqDiff])
                          refine hK796 _ _ ?_
                          clear hK796
                          refine awp_seq fun K801 hK801 => ?_
                          refine awp_block ?_
                          replace h := chk_some h
                          obtain ⟨hp0, h⟩ := h
                          refine awp_reg ftCOk [(3, .pp 2 0), (4, .sl 4), (8, .v (.int .i64 t8)), (9, .v (.bool t9)), (10, .v (.int .i64 t10)), (11, .pp 5 0)] [.row false (.ints .u8 a0), .glob 0 (.ints .u8 tab0), .box [.v (.int .i64 y), .sl 3], .row true (.trips y_1), .row true (.ints .i64 y_2), .box [.v (.int .i64 ((y_1.getD t10.toNat (0, 0, 0)).1)), .v (.int .i64 ((y_1.getD t10.toNat (0, 0, 0)).2.1)), .v (.int .i64 ((y_1.getD t10.toNat (0, 0, 0)).2.2))]] ?_
                          clear hp0
                          refine awp_seq fun K803 hK803 => ?_
                          replace h := chk_some h
                          obtain ⟨hp0, h⟩ := h
                          replace h := chk_some h
                          obtain ⟨hp1, h⟩ := h
                          replace h := chk_some h
                          obtain ⟨hp2, h⟩ := h
                          refine awp_to [(3, .pp 2 0), (4, .sl 4), (8, .v (.int .i64 t8)), (9, .v (.bool t9)), (10, .v (.int .i64 t10)), (11, .pp 5 0), (90, .v (.bool (((y_1.getD t10.toNat (0, 0, 0)).2.1 == t8) && (decide ((y_2.getD t8.toNat 0) < ((y_2.getD (((y_1.getD t10.toNat (0, 0, 0)).1).toNat) 0) + (y_1.getD t10.toNat (0, 0, 0)).2.2))))))] [.row false (.ints .u8 a0), .glob 0 (.ints .u8 tab0), .box [.v (.int .i64 y), .sl 3], .row true (.trips y_1), .row true (.ints .i64 y_2), .box [.v (.int .i64 ((y_1.getD t10.toNat (0, 0, 0)).1)), .v (.int .i64 ((y_1.getD t10.toNat (0, 0, 0)).2.1)), .v (.int .i64 ((y_1.getD t10.toNat (0, 0, 0)).2.2))]] ?_ ?_
                          · clear h
                            intro K hK
                            refine awp_quietg mixed ftCOk (by kernel_rfl) ?_
                            simp (maxSteps := 4000000) only [go_sem, Nat.reduceBEq, Nat.reduceLT, Nat.reduceAdd, Nat.reduceLeDiff, Nat.reduceSub, Nat.reduceEqDiff, Int.reduceToNat, reduceCtorEq, ↓reduceIte]
                            repeat' (first | refine And.intro ?_ ?_ | intro hg)
                            all_goals (try simp (disch := omega) only [wrap_fits])
                            all_goals first
                              | (refine hK _ _ ?_; exact Red.auto)
                              | exact trivial
                              | assumption
                              | omega
                              | exact wrap_fits (by omega) (by omega)
                              | (have hq := hp0 (by first | assumption | (simp only [*, Bool.false_or, Bool.true_or, Bool.or_false, Bool.or_true, Bool.false_and, Bool.true_and, Bool.and_false, Bool.and_true, Bool.not_true, Bool.not_false, beq_self_eq_true]; done) | (simp_all; done)); omega)
                              | (have hq := hp1 (by first | assumption | (simp only [*, Bool.false_or, Bool.true_or, Bool.or_false, Bool.or_true, Bool.false_and, Bool.true_and, Bool.and_false, Bool.and_true, Bool.not_true, Bool.not_false, beq_self_eq_true]; done) | (simp_all; done)); omega)
                              | (have hq := hp2 (by first | assumption | (simp only [*, Bool.false_or, Bool.true_or, Bool.or_false, Bool.or_true, Bool.false_and, Bool.true_and, Bool.and_false, Bool.and_true, Bool.not_true, Bool.not_false, beq_self_eq_true]; done) | (simp_all; done)); omega)
                              | (simp_all; done)
                              | (simp_all; omega)
                          · clear hp0 hp1 hp2
                            refine awp_cond (t := 90) rfl (fun hc804 => ?_) (fun hc804 => ?_)
                            · replace h := bite_t h hc804
                              refine awp_reg ftCOk [(2, .v (.bool false))] [.row false (.ints .u8 a0), .glob 0 (.ints .u8 tab0), .box [.v (.int .i64 y), .sl 3], .row true (.trips y_1), .row true (.ints .i64 y_2), .box [.v (.int .i64 ((y_1.getD t10.toNat (0, 0, 0)).1)), .v (.int .i64 ((y_1.getD t10.toNat (0, 0, 0)).2.1)), .v (.int .i64 ((y_1.getD t10.toNat (0, 0, 0)).2.2))]] ?_
                              refine awp_ret ?_
                              (try simp only [Thn, InBlk, ↓reduceIte, Nat.reduceEqDiff])
                              obtain rfl := Option.some.inj h
                              refine LoopQ.out rfl ?_
                              exact Red.selA [0, 1] Red.auto
                            · replace h := bite_f h hc804
                              refine awp_skip ?_
                              (try simp only [Thn, InBlk, ↓reduceIte, Nat.reduceEqDiff])
                              refine hK803 _ _ ?_
                              clear hK803
                              replace h := chk_some h
                              obtain ⟨hp0, h⟩ := h
                              replace h := chk_some h
                              obtain ⟨hp1, h⟩ := h
                              replace h := chk_some h
                              obtain ⟨hp2, h⟩ := h
                              refine awp_end [(3, .pp 2 0), (4, .sl 4), (8, .v (.int .i64 t8)), (9, .v (.bool (t9 || (((y_1.getD t10.toNat (0, 0, 0)).2.1 == t8) && (((y_2.getD (((y_1.getD t10.toNat (0, 0, 0)).1).toNat) 0) + (y_1.getD t10.toNat (0, 0, 0)).2.2) == (y_2.getD t8.toNat 0)))))), (10, .v (.int .i64 t10))] [.row false (.ints .u8 a0), .glob 0 (.ints .u8 tab0), .box [.v (.int .i64 y), .sl 3], .row true (.trips y_1), .row true (.ints .i64 y_2), .box [.v (.int .i64 ((y_1.getD t10.toNat (0, 0, 0)).1)), .v (.int .i64 ((y_1.getD t10.toNat (0, 0, 0)).2.1)), .v (.int .i64 ((y_1.getD t10.toNat (0, 0, 0)).2.2))]] ?_ ?_
                              · clear h
                                intro K hK
                                refine awp_quietg mixed ftCOk (by kernel_rfl) ?_
                                simp (maxSteps := 4000000) only [go_sem, Nat.reduceBEq, Nat.reduceLT, Nat.reduceAdd, Nat.reduceLeDiff, Nat.reduceSub, Nat.reduceEqDiff, Int.reduceToNat, reduceCtorEq, ↓reduceIte]
                                repeat' (first | refine And.intro ?_ ?_ | intro hg)
                                all_goals (try simp (disch := omega) only [wrap_fits])
                                all_goals first
                                  | (refine hK _ _ ?_; exact Red.auto)
                                  | exact trivial
                                  | assumption
                                  | omega
                                  | exact wrap_fits (by omega) (by omega)
                                  | (have hq := hp0 (by first | assumption | (simp only [*, Bool.false_or, Bool.true_or, Bool.or_false, Bool.or_true, Bool.false_and, Bool.true_and, Bool.and_false, Bool.and_true, Bool.not_true, Bool.not_false, beq_self_eq_true]; done) | (simp_all; done)) (by first | assumption | (simp only [*, Bool.false_or, Bool.true_or, Bool.or_false, Bool.or_true, Bool.false_and, Bool.true_and, Bool.and_false, Bool.and_true, Bool.not_true, Bool.not_false, beq_self_eq_true]; done) | (simp_all; done)); omega)
                                  | (have hq := hp1 (by first | assumption | (simp only [*, Bool.false_or, Bool.true_or, Bool.or_false, Bool.or_true, Bool.false_and, Bool.true_and, Bool.and_false, Bool.and_true, Bool.not_true, Bool.not_false, beq_self_eq_true]; done) | (simp_all; done)) (by first | assumption | (simp only [*, Bool.false_or, Bool.true_or, Bool.or_false, Bool.or_true, Bool.false_and, Bool.true_and, Bool.and_false, Bool.and_true, Bool.not_true, Bool.not_false, beq_self_eq_true]; done) | (simp_all; done)); omega)
                                  | (have hq := hp2 (by first | assumption | (simp only [*, Bool.false_or, Bool.true_or, Bool.or_false, Bool.or_true, Bool.false_and, Bool.true_and, Bool.and_false, Bool.and_true, Bool.not_true, Bool.not_false, beq_self_eq_true]; done) | (simp_all; done)) (by first | assumption | (simp only [*, Bool.false_or, Bool.true_or, Bool.or_false, Bool.or_true, Bool.false_and, Bool.true_and, Bool.and_false, Bool.and_true, Bool.not_true, Bool.not_false, beq_self_eq_true]; done) | (simp_all; done)); omega)
                                  | (simp_all; done)
                                  | (simp_all; omega)
                              · clear hp0 hp1 hp2
                                (try simp only [Thn, InBlk, ↓reduceIte, Nat.reduceEqDiff])
                                (try simp only [Thn, InBlk, ↓reduceIte, Nat.reduceEqDiff])
                                refine hK801 _ _ ?_
                                clear hK801
                                replace h := chk_some h
                                obtain ⟨hp0, h⟩ := h
                                refine awp_regE ftCOk [(3, .pp 2 0), (4, .sl 4), (8, .v (.int .i64 t8)), (9, .v (.bool (t9 || (((y_1.getD t10.toNat (0, 0, 0)).2.1 == t8) && (((y_2.getD (((y_1.getD t10.toNat (0, 0, 0)).1).toNat) 0) + (y_1.getD t10.toNat (0, 0, 0)).2.2) == (y_2.getD t8.toNat 0)))))), (10, .v (.int .i64 (t10 + 1)))] [.row false (.ints .u8 a0), .glob 0 (.ints .u8 tab0), .box [.v (.int .i64 y), .sl 3], .row true (.trips y_1), .row true (.ints .i64 y_2), .box [.v (.int .i64 ((y_1.getD t10.toNat (0, 0, 0)).1)), .v (.int .i64 ((y_1.getD t10.toNat (0, 0, 0)).2.1)), .v (.int .i64 ((y_1.getD t10.toNat (0, 0, 0)).2.2))]] ?_
                                clear hp0
                                obtain rfl := Option.some.inj h
                                refine LoopQ.next ?_
                                exact Red.selA [0, 1, 2, 3, 4] Red.auto
                        · replace h := bite_f h hc797
                          refine awp_exit ?_
                          (try simp only [Thn, InBlk, ↓reduceIte, Nat.reduceEqDiff])
                          obtain rfl := Option.some.inj h
                          refine LoopQ.out rfl ?_
                          exact Red.auto
                      · clear hx
                        rcases x805 with (t9_1 | ⟨⟩)
                        · try dsimp only [Sum.elim_inl, Sum.elim_inr] at h
                          try dsimp only [Sum.elim_inl, Sum.elim_inr]
                          (try simp only [Thn, InBlk, ↓reduceIte, Nat.reduceEqDiff])
                          (try simp only [Thn, InBlk, ↓reduceIte, Nat.reduceEqDiff])
                          (try simp only [Thn, InBlk, ↓reduceIte, Nat.reduceEqDiff])
                          refine hK774 _ _ ?_
                          clear hK774
                          refine awp_reg ftCOk [(3, .pp 2 0), (4, .sl 4), (8, .v (.int .i64 t8)), (114, .v (.bool (!t9_1)))] [.row false (.ints .u8 a0), .glob 0 (.ints .u8 tab0), .box [.v (.int .i64 y), .sl 3], .row true (.trips y_1), .row true (.ints .i64 y_2)] ?_
                          refine awp_cond (t := 114) rfl (fun hc806 => ?_) (fun hc806 => ?_)
                          · replace h := bite_t h hc806
                            refine awp_reg ftCOk [(2, .v (.bool false))] [.row false (.ints .u8 a0), .glob 0 (.ints .u8 tab0), .box [.v (.int .i64 y), .sl 3], .row true (.trips y_1), .row true (.ints .i64 y_2)] ?_
                            refine awp_ret ?_
                            (try simp only [Thn, InBlk, ↓reduceIte, Nat.reduceEqDiff])
                            obtain rfl := Option.some.inj h
                            refine LoopQ.out rfl ?_
                            exact Red.selA [0, 1] Red.auto
                          · replace h := bite_f h hc806
                            refine awp_skip ?_
                            (try simp only [Thn, InBlk, ↓reduceIte, Nat.reduceEqDiff])
                            (try simp only [Thn, InBlk, ↓reduceIte, Nat.reduceEqDiff])
                            refine hK742 _ _ ?_
                            clear hK742
                            replace h := chk_some h
                            obtain ⟨hp0, h⟩ := h
                            refine awp_regE ftCOk [(3, .pp 2 0), (4, .sl 4), (8, .v (.int .i64 (t8 + 1)))] [.row false (.ints .u8 a0), .glob 0 (.ints .u8 tab0), .box [.v (.int .i64 y), .sl 3], .row true (.trips y_1), .row true (.ints .i64 y_2)] ?_
                            clear hp0
                            obtain rfl := Option.some.inj h
                            refine LoopQ.next ?_
                            exact Red.auto
                        · try dsimp only [Sum.elim_inl, Sum.elim_inr] at h
                          try dsimp only [Sum.elim_inl, Sum.elim_inr]
                          (try simp only [Thn, InBlk, ↓reduceIte, Nat.reduceEqDiff])
                          obtain rfl := Option.some.inj h
                          refine LoopQ.out rfl ?_
                          exact Red.auto
                    · replace h := bite_f h hc677
                      refine awp_exit ?_
                      (try simp only [Thn, InBlk, ↓reduceIte, Nat.reduceEqDiff])
                      obtain rfl := Option.some.inj h
                      refine LoopQ.out rfl ?_
                      exact Red.selA [0, 1] Red.auto
                  · clear hx
                    rcases x807 with (⟨⟩ | ⟨⟩)
                    · try dsimp only [Sum.elim_inl, Sum.elim_inr] at h
                      try dsimp only [Sum.elim_inl, Sum.elim_inr]
                      (try simp only [Thn, InBlk, ↓reduceIte, Nat.reduceEqDiff])
                      (try simp only [Thn, InBlk, ↓reduceIte, Nat.reduceEqDiff])
                      (try simp only [Thn, InBlk, ↓reduceIte, Nat.reduceEqDiff])
                      refine hK410 _ _ ?_
                      clear hK410
                      refine awp_reg ftCOk [(2, .v (.bool true))] [.row false (.ints .u8 a0), .glob 0 (.ints .u8 tab0)] ?_
                      refine awp_ret ?_
                      (try simp only [Thn, InBlk, ↓reduceIte, Nat.reduceEqDiff])
                      obtain rfl := Option.some.inj h
                      refine ⟨by simp, _, [0, 1], (by simp only [go_sem, Nat.reduceBEq, Nat.reduceLT, Nat.reduceAdd, Nat.reduceLeDiff, Nat.reduceSub, Nat.reduceEqDiff, Int.reduceToNat, reduceCtorEq, ↓reduceIte]; exact rfl), ?_, ?_, ?_, ?_⟩
                      · first | exact trivial | exact ⟨trivial, trivial⟩ | exact ⟨trivial, trivial, trivial⟩ | exact ⟨trivial, trivial, trivial, trivial⟩ | (simp only [allP, and_true, true_and]; done) | (simp only [allP, and_true, true_and]; omega)
                      · simp [selOk, pos]
                      · simp
                      · first | exact ⟨rfl, rfl⟩ | (simp only [go_sem, Nat.reduceBEq, Nat.reduceLT, Nat.reduceAdd, Nat.reduceLeDiff, Nat.reduceSub, Nat.reduceEqDiff, Int.reduceToNat, reduceCtorEq, ↓reduceIte]; done) | (simp [go_sem, Nat.reduceBEq, Nat.reduceLT, Nat.reduceAdd, Nat.reduceLeDiff, Nat.reduceSub, Nat.reduceEqDiff, Int.reduceToNat, reduceCtorEq, ↓reduceIte]; done) | (simp only [go_sem, Nat.reduceBEq, Nat.reduceLT, Nat.reduceAdd, Nat.reduceLeDiff, Nat.reduceSub, Nat.reduceEqDiff, Int.reduceToNat, reduceCtorEq, ↓reduceIte]; exact ⟨rfl, rfl⟩) | (simp_all [go_sem, Nat.reduceBEq, Nat.reduceLT, Nat.reduceAdd, Nat.reduceLeDiff, Nat.reduceSub, Nat.reduceEqDiff, Int.reduceToNat, reduceCtorEq, ↓reduceIte]; done)
                    · try dsimp only [Sum.elim_inl, Sum.elim_inr] at h
                      try dsimp only [Sum.elim_inl, Sum.elim_inr]
                      (try simp only [Thn, InBlk, ↓reduceIte, Nat.reduceEqDiff])
                      obtain rfl := Option.some.inj h
                      refine ⟨by simp, _, [0, 1], (by simp only [go_sem, Nat.reduceBEq, Nat.reduceLT, Nat.reduceAdd, Nat.reduceLeDiff, Nat.reduceSub, Nat.reduceEqDiff, Int.reduceToNat, reduceCtorEq, ↓reduceIte]; exact rfl), ?_, ?_, ?_, ?_⟩
                      · first | exact trivial | exact ⟨trivial, trivial⟩ | exact ⟨trivial, trivial, trivial⟩ | exact ⟨trivial, trivial, trivial, trivial⟩ | (simp only [allP, and_true, true_and]; done) | (simp only [allP, and_true, true_and]; omega)
                      · simp [selOk, pos]
                      · simp
                      · first | exact ⟨rfl, rfl⟩ | (simp only [go_sem, Nat.reduceBEq, Nat.reduceLT, Nat.reduceAdd, Nat.reduceLeDiff, Nat.reduceSub, Nat.reduceEqDiff, Int.reduceToNat, reduceCtorEq, ↓reduceIte]; done) | (simp [go_sem, Nat.reduceBEq, Nat.reduceLT, Nat.reduceAdd, Nat.reduceLeDiff, Nat.reduceSub, Nat.reduceEqDiff, Int.reduceToNat, reduceCtorEq, ↓reduceIte]; done) | (simp only [go_sem, Nat.reduceBEq, Nat.reduceLT, Nat.reduceAdd, Nat.reduceLeDiff, Nat.reduceSub, Nat.reduceEqDiff, Int.reduceToNat, reduceCtorEq, ↓reduceIte]; exact ⟨rfl, rfl⟩) | (simp_all [go_sem, Nat.reduceBEq, Nat.reduceLT, Nat.reduceAdd, Nat.reduceLeDiff, Nat.reduceSub, Nat.reduceEqDiff, Int.reduceToNat, reduceCtorEq, ↓reduceIte]; done)
end Go.Proofs.YtngpllgpfndkkaaDoor

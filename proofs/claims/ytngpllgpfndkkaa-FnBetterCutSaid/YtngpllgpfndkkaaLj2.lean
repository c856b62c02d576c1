/- The code computes the functions that were taken out of it. -/
import Derived.Test.YtngpllgpfndkkaaLj1
set_option maxRecDepth 100000
set_option maxHeartbeats 4000000
set_option linter.unusedSimpArgs false
set_option linter.unusedVariables false
namespace Go.Proofs.Ytngpllgpfndkkaa
open Go Go.Av
attribute [local irreducible] wpA OpK awp
attribute [local go_sem] pw8_32 pw16_32 pw24_32 pw27_32 buildQ placesOf buildCells List.toList_toArray vcQg gfind gfree gput un3_agg unI_int unB_bool unK_int guardU skipV resVs resV vcD_nil vcD_cons vcT_fin vcT_free vcT_one vcT_two opS vcD1 roH roOb ftNone ftAdd oneOrTup AV.detup AV.ren AV.ren2 AV.ren1 pos selH AObj.ren fitAll fit fit1 fit1s matchAll matchOb exIds AObj.excl Env.killp pastH setAll upId AObj.past AObj.back AV.killp AV.killp1 AV.killp2 Nat.sub_self Nat.lt_irrefl Bool.or_self vcOps vcOp vcQs vcQ dstOk quiet eff pcall plain valsOf ev ofConst argEnv List.lookup Nat.add_eq decide_true decide_false Env.put binV wrapTo unV convV loadQ indexQ callQ builtinQ rd globC AObj.globC partAV isAggD isArrayD addrAdd boxE storeE makeE buildSliceE buildFold appendE sliceE boundAV subObj asCells Value.oneCell' contZero Cont.sets Cont.app Cont.sub Cont.len Cont.esz Cont.cell Cont.cells Cont.flat AV.det AV.det1 guardV AObj.unview AObj.kill Env.kill AV.kill AV.kill1 AV.kill2 fits64 Option.getD_some Option.getD_none Option.map_some Option.map_none Option.bind_some List.map_cons List.map_nil List.getElem?_cons_zero List.getElem?_cons_succ List.getElem?_nil true_and and_true List.getElem?_toArray List.cons_append List.nil_append List.length_cons List.length_nil List.set_cons_zero List.set_cons_succ List.take_succ_cons List.take_zero List.drop_succ_cons List.drop_zero List.drop_nil List.take_nil List.contains_cons List.contains_nil List.elem_cons List.elem_nil Bool.not_true Bool.not_false Bool.false_eq_true Bool.or_false Bool.or_true Bool.and_true Bool.and_false Bool.true_and Bool.false_and List.all_cons List.all_nil List.size_toArray Nat.lt_add_one Nat.zero_lt_succ Nat.one_ne_zero Nat.zero_ne_one and_self List.replicate_succ List.replicate_zero Int.toNat_natCast Int.toNat_zero Value.cells false_implies true_implies forall_const Thn InBlk Nat.zero_add Nat.add_zero Int.zero_add Ele Env.ren Option.some.injEq AV.v.injEq AV.sl.injEq AV.pp.injEq AV.ep.injEq AV.agg.injEq List.cons.injEq Value.int.injEq Value.bool.injEq Value.string.injEq true_or or_true or_false false_or tsz0 tby0 tz0 Try.underlying0 tsz1 tby1 tz1 Try.underlying1 tsz2 tby2 tz2 Try.underlying2 tsz3 tby3 tz3 Try.underlying3 tsz4 tby4 tz4 Try.underlying4 tsz5 tby5 tz5 Try.underlying5 tsz6 tby6 tz6 Try.underlying6 tsz7 tby7 tz7 Try.underlying7 fo7_0 fo7_1 fo7_2 fo7_3 tsz8 tby8 tz8 Try.underlying8 fo8_0 fo8_1 fo8_2 fo8_3 tsz9 tby9 Try.underlying9 tsz10 tby10 Try.underlying10 tsz11 tby11 Try.underlying11 tsz12 tby12 tz12 Try.underlying12 tsz13 tby13 Try.underlying13 fo13_0 fo13_1 tsz14 tby14 Try.underlying14 fo14_0 fo14_1 tsz15 tby15 tz15 Try.underlying15 tsz16 tby16 tz16 Try.underlying16 tsz17 tby17 tz17 Try.underlying17 tsz18 tby18 tz18 Try.underlying18 fo18_0 tsz19 tby19 tz19 Try.underlying19 fo19_0 tsz20 tby20 tz20 Try.underlying20 tsz21 tby21 tz21 Try.underlying21 tsz22 tby22 tz22 Try.underlying22 tsz23 tby23 tz23 Try.underlying23 fo23_0 fo23_1 tsz24 tby24 tz24 Try.underlying24 fo24_0 fo24_1 tsz25 tby25 tz25 Try.underlying25 tsz26 tby26 tz26 Try.underlying26 tsz27 tby27 tz27 Try.underlying27 tsz28 tby28 tz28 Try.underlying28 tsz29 tby29 tz29 Try.underlying29 fo29_0 fo29_1 tsz30 tby30 tz30 Try.underlying30 fo30_0 fo30_1 tsz31 tby31 tz31 Try.underlying31 tsz32 tby32 tz32 Try.underlying32 tsz33 tby33 tz33 Try.underlying33 tsz34 tby34 tz34 Try.underlying34 tsz35 tby35 tz35 Try.underlying35 tsz36 tby36 tz36 Try.underlying36 tsz37 tby37 tz37 Try.underlying37 tsz38 tby38 tz38 Try.underlying38 tsz39 tby39 tz39 Try.underlying39 tsz40 tby40 tz40 Try.underlying40 tsz41 tby41 tz41 Try.underlying41 tsz42 tby42 tz42 Try.underlying42 tsz43 tby43 tz43 Try.underlying43 tsz44 tby44 tz44 Try.underlying44 tsz45 tby45 tz45 Try.underlying45 tsz46 tby46 tz46 Try.underlying46 tsz47 tby47 tz47 Try.underlying47 tsz48 tby48 tz48 Try.underlying48 tsz49 tby49 tz49 Try.underlying49 tsz50 tby50 tz50 Try.underlying50 tsz51 tby51 tz51 Try.underlying51 tsz52 tby52 tz52 Try.underlying52 tsz53 tby53 tz53 Try.underlying53 tsz54 tby54 tz54 Try.underlying54 tsz55 tby55 tz55 Try.underlying55 tsz56 tby56 tz56 Try.underlying56 tsz57 tby57 tz57 Try.underlying57 tsz58 tby58 tz58 Try.underlying58 tsz59 tby59 tz59 Try.underlying59 fo59_0 fo59_1 fo59_2 tsz60 tby60 tz60 Try.underlying60 fo60_0 fo60_1 fo60_2 tsz61 tby61 tz61 Try.underlying61 tsz62 tby62 tz62 Try.underlying62 tsz63 tby63 tz63 Try.underlying63 tsz64 tby64 tz64 Try.underlying64 tsz65 tby65 tz65 Try.underlying65 tsz66 tby66 tz66 Try.underlying66 tsz67 tby67 tz67 Try.underlying67 tsz68 tby68 tz68 Try.underlying68 tsz69 tby69 tz69 Try.underlying69 tsz70 tby70 tz70 Try.underlying70 tsz71 tby71 tz71 Try.underlying71 tsz72 tby72 tz72 Try.underlying72 tsz73 tby73 tz73 Try.underlying73 tsz74 tby74 tz74 Try.underlying74 tsz75 tby75 tz75 Try.underlying75 tsz76 tby76 tz76 Try.underlying76 tsz77 tby77 tz77 Try.underlying77 tsz78 tby78 tz78 Try.underlying78 tsz79 tby79 tz79 Try.underlying79 tsz80 tby80 tz80 Try.underlying80 tsz81 tby81 tz81 Try.underlying81 fo81_0 fo81_1 fo81_2 tsz82 tby82 tz82 Try.underlying82 tsz83 tby83 tz83 Try.underlying83 fo83_0 fo83_1 tsz84 tby84 tz84 Try.underlying84 fo84_0 fo84_1 tsz85 tby85 tz85 Try.underlying85 tsz86 tby86 tz86 Try.underlying86 tsz87 tby87 tz87 Try.underlying87 tsz88 tby88 tz88 Try.underlying88 tsz89 tby89 tz89 Try.underlying89 tsz90 tby90 tz90 Try.underlying90 tsz91 tby91 tz91 Try.underlying91 tsz92 tby92 tz92 Try.underlying92 tsz93 tby93 tz93 Try.underlying93 tsz94 tby94 tz94 Try.underlying94 tsz95 tby95 tz95 Try.underlying95 tsz96 tby96 Try.underlying96 fo96_0 fo96_1 fo96_2 fo96_3 tsz97 tby97 Try.underlying97 fo97_0 fo97_1 fo97_2 fo97_3 tsz98 tby98 tz98 Try.underlying98 tsz99 tby99 tz99 Try.underlying99 tsz100 tby100 tz100 Try.underlying100 tsz101 tby101 tz101 Try.underlying101 tsz102 tby102 tz102 Try.underlying102 tsz103 tby103 tz103 Try.underlying103 tsz104 tby104 tz104 Try.underlying104 tsz105 tby105 tz105 Try.underlying105 tsz106 tby106 tz106 Try.underlying106 tsz107 tby107 tz107 Try.underlying107 tsz108 tby108 tz108 Try.underlying108 fo108_0 fo108_1 fo108_2 fo108_3 fo108_4 fo108_5 fo108_6 fo108_7 fo108_8 fo108_9 fo108_10 tsz109 tby109 tz109 Try.underlying109 fo109_0 fo109_1 fo109_2 fo109_3 fo109_4 fo109_5 fo109_6 fo109_7 fo109_8 fo109_9 fo109_10 tsz110 tby110 tz110 Try.underlying110 l1InG eqEdgeG l4BeforeG isNaNG cmpIntG cmpEndsG toEdgeG ftC
theorem k_spec_DrawBetterCut (a0 : List Int) {r : Int × (List (Int × Int × Int)) × List Bool} (h : spec_DrawBetterCut a0 = some r) :
    FnA Try.prog 26 [.sl 0] [.row false (.ints .u8 a0)] [] (fun x H => x = .tup [.agg [.v (.int .i64 r.1), .sl 1], .sl 2] ∧ H = [.row false (.ints .u8 a0), .row true (.trips r.2.1), .row true (.bools r.2.2)]) := by
  unfold spec_DrawBetterCut at h
  refine FnA.of (N := 8) (pin := [0]) (rs := [.cell 2 30, .tmp 3]) Try.func26 rfl en26 rfl rfl (by simp) (by simp; try omega) ?_
  refine awp_reg ftCOk [(0, .sl 0), (2, .pp 1 0)] [.row false (.ints .u8 a0), .box [.v (.int .i64 0), .v (.slice none 0 0)]] ?_
  replace h := bind_some h
  obtain ⟨⟨y, y_1, y_2⟩, hr0, h⟩ := h
  try dsimp only at h
  refine awp_to [(2, .pp 1 0), (3, .sl 3)] [.row false (.ints .u8 a0), .box [.v (.int .i64 y), .sl 2], .row true (.trips y_1), .row true (.bools y_2)] ?_ ?_
  · clear h
    intro K hK
    refine awp_region ftCOk ?_
    simp (maxSteps := 4000000) only [go_sem, Nat.reduceBEq, Nat.reduceLT, Nat.reduceAdd, Nat.reduceLeDiff, Nat.reduceSub, Nat.reduceEqDiff, Int.reduceToNat, reduceCtorEq, ↓reduceIte]
    repeat' (first | refine And.intro ?_ ?_ | intro hg)
    all_goals (try simp (disch := omega) only [wrap_fits])
    all_goals first
      | (refine hK _ _ ?_; exact Red.auto)
      | exact trivial
      | assumption
      | omega
      | exact wrap_fits (by omega) (by omega)
      | (refine wpA_callA (k_spec_DrawCutWeight a0 (h := hr0)) [0] [] ?_
         rintro x Hc' ⟨rfl, rfl⟩ hlen
         refine vcOps_sound ftCOk ?_
         simp (maxSteps := 4000000) only [go_sem, Nat.reduceBEq, Nat.reduceLT, Nat.reduceAdd, Nat.reduceLeDiff, Nat.reduceSub, Nat.reduceEqDiff, Int.reduceToNat, reduceCtorEq, ↓reduceIte]
         repeat' (first | refine And.intro ?_ ?_ | intro hg)
         all_goals (try simp (disch := omega) only [wrap_fits])
         all_goals first
           | (refine hK _ _ ?_; exact Red.auto)
           | exact trivial
           | assumption
           | omega
           | exact wrap_fits (by omega) (by omega)
           | (simp_all; done)
           | (simp_all; omega))
      | (simp_all; done)
      | (simp_all; omega)
  · clear hr0
    refine awp_ret ?_
    (try simp only [Thn, InBlk, ↓reduceIte, Nat.reduceEqDiff])
    obtain rfl := Option.some.inj h
    refine ⟨by simp, _, [0, 2, 3], (by simp only [go_sem, Nat.reduceBEq, Nat.reduceLT, Nat.reduceAdd, Nat.reduceLeDiff, Nat.reduceSub, Nat.reduceEqDiff, Int.reduceToNat, reduceCtorEq, ↓reduceIte]; exact rfl), ?_, ?_, ?_, ?_⟩
    · first | exact trivial | exact ⟨trivial, trivial⟩ | exact ⟨trivial, trivial, trivial⟩ | exact ⟨trivial, trivial, trivial, trivial⟩ | (simp only [allP, and_true, true_and]; done) | (simp only [allP, and_true, true_and]; omega)
    · simp [selOk, pos]
    · simp
    · first | exact ⟨rfl, rfl⟩ | (simp only [go_sem, Nat.reduceBEq, Nat.reduceLT, Nat.reduceAdd, Nat.reduceLeDiff, Nat.reduceSub, Nat.reduceEqDiff, Int.reduceToNat, reduceCtorEq, ↓reduceIte]; done) | (simp [go_sem, Nat.reduceBEq, Nat.reduceLT, Nat.reduceAdd, Nat.reduceLeDiff, Nat.reduceSub, Nat.reduceEqDiff, Int.reduceToNat, reduceCtorEq, ↓reduceIte]; done) | (simp only [go_sem, Nat.reduceBEq, Nat.reduceLT, Nat.reduceAdd, Nat.reduceLeDiff, Nat.reduceSub, Nat.reduceEqDiff, Int.reduceToNat, reduceCtorEq, ↓reduceIte]; exact ⟨rfl, rfl⟩) | (simp_all [go_sem, Nat.reduceBEq, Nat.reduceLT, Nat.reduceAdd, Nat.reduceLeDiff, Nat.reduceSub, Nat.reduceEqDiff, Int.reduceToNat, reduceCtorEq, ↓reduceIte]; done)
theorem k_laws_sameFlags (a0 : List Bool) (a1 : List Bool) {r : Bool} (h : laws_sameFlags a0 a1 = some r) :
    FnA Try.prog 27 [.sl 0, .sl 1] [.row false (.bools a0), .row false (.bools a1)] [] (fun x H => x = .v (.bool r) ∧ H = [.row false (.bools a0), .row false (.bools a1)]) := by
  unfold laws_sameFlags at h
  refine FnA.of (N := 26) (pin := [0, 1]) (rs := [.tmp 4]) Try.func27 rfl en27 rfl rfl (by simp) (by simp; try omega) ?_
  refine awp_reg ftCOk [(0, .sl 0), (1, .sl 1)] [.row false (.bools a0), .row false (.bools a1)] ?_
  refine awp_seq fun K2 hK2 => ?_
  refine awp_reg ftCOk [(0, .sl 0), (1, .sl 1), (10, .v (.bool ((a0.length : Int) != (a1.length : Int))))] [.row false (.bools a0), .row false (.bools a1)] ?_
  refine awp_cond (t := 10) rfl (fun hc3 => ?_) (fun hc3 => ?_)
  · replace h := bite_t h hc3
    refine awp_reg ftCOk [(4, .v (.bool false))] [.row false (.bools a0), .row false (.bools a1)] ?_
    refine awp_ret ?_
    (try simp only [Thn, InBlk, ↓reduceIte, Nat.reduceEqDiff])
    obtain rfl := Option.some.inj h
    refine ⟨by simp, _, [0, 1], (by simp only [go_sem, Nat.reduceBEq, Nat.reduceLT, Nat.reduceAdd, Nat.reduceLeDiff, Nat.reduceSub, Nat.reduceEqDiff, Int.reduceToNat, reduceCtorEq, ↓reduceIte]; exact rfl), ?_, ?_, ?_, ?_⟩
    · first | exact trivial | exact ⟨trivial, trivial⟩ | exact ⟨trivial, trivial, trivial⟩ | exact ⟨trivial, trivial, trivial, trivial⟩ | (simp only [allP, and_true, true_and]; done) | (simp only [allP, and_true, true_and]; omega)
    · simp [selOk, pos]
    · simp
    · first | exact ⟨rfl, rfl⟩ | (simp only [go_sem, Nat.reduceBEq, Nat.reduceLT, Nat.reduceAdd, Nat.reduceLeDiff, Nat.reduceSub, Nat.reduceEqDiff, Int.reduceToNat, reduceCtorEq, ↓reduceIte]; done) | (simp [go_sem, Nat.reduceBEq, Nat.reduceLT, Nat.reduceAdd, Nat.reduceLeDiff, Nat.reduceSub, Nat.reduceEqDiff, Int.reduceToNat, reduceCtorEq, ↓reduceIte]; done) | (simp only [go_sem, Nat.reduceBEq, Nat.reduceLT, Nat.reduceAdd, Nat.reduceLeDiff, Nat.reduceSub, Nat.reduceEqDiff, Int.reduceToNat, reduceCtorEq, ↓reduceIte]; exact ⟨rfl, rfl⟩) | (simp_all [go_sem, Nat.reduceBEq, Nat.reduceLT, Nat.reduceAdd, Nat.reduceLeDiff, Nat.reduceSub, Nat.reduceEqDiff, Int.reduceToNat, reduceCtorEq, ↓reduceIte]; done)
  · replace h := bite_f h hc3
    refine awp_skip ?_
    (try simp only [Thn, InBlk, ↓reduceIte, Nat.reduceEqDiff])
    refine hK2 _ _ ?_
    clear hK2
    refine awp_seq fun K23 hK23 => ?_
    refine awp_reg ftCOk [(0, .sl 0), (1, .sl 1), (5, .v (.int .i64 0))] [.row false (.bools a0), .row false (.bools a1)] ?_
    refine awp_block ?_
    replace h := bind_some h
    obtain ⟨x42, hx, h⟩ := h
    refine awp_loopL hx (fun (t5 : Int) => [(0, .sl 0), (1, .sl 1), (5, .v (.int .i64 t5))]) (fun (t5 : Int) => [.row false (.bools a0), .row false (.bools a1)]) (Sum.elim (fun (_ : Unit) => Exit.exit 0) (fun (_ : Unit) => Exit.ret)) (Sum.elim (fun (_ : Unit) => []) (fun (_ : Unit) => [(4, .v (.bool false))])) (Sum.elim (fun (_ : Unit) => [.row false (.bools a0), .row false (.bools a1)]) (fun (_ : Unit) => [.row false (.bools a0), .row false (.bools a1)])) ?_ ?_ ?_ ?_
    · rintro (⟨⟩ | ⟨⟩) hy <;> cases hy
    · clear h hx
      exact Red.auto
    · clear h hx
      rintro t5 r h
      unfold laws_sameFlags_b0 at h
      try dsimp only at h
      try dsimp only
      refine awp_seq fun K37 hK37 => ?_
      refine awp_reg ftCOk [(0, .sl 0), (1, .sl 1), (5, .v (.int .i64 t5)), (14, .v (.bool (decide (t5 < (a0.length : Int)))))] [.row false (.bools a0), .row false (.bools a1)] ?_
      refine awp_cond (t := 14) rfl (fun hc38 => ?_) (fun hc38 => ?_)
      · replace h := bite_t h hc38
        refine awp_skip ?_
        (try simp only [Thn, InBlk, ↓reduceIte, Nat.reduceEqDiff])
        refine hK37 _ _ ?_
        clear hK37
        refine awp_seq fun K40 hK40 => ?_
        refine awp_block ?_
        replace h := chk_some h
        obtain ⟨hp0, h⟩ := h
        replace h := chk_some h
        obtain ⟨hp1, h⟩ := h
        refine awp_regQ mixed ftCOk [(0, .sl 0), (1, .sl 1), (5, .v (.int .i64 t5)), (25, .v (.bool (!((a0.getD t5.toNat false) == (a1.getD t5.toNat false)))))] [.row false (.bools a0), .row false (.bools a1)] ?_
        clear hp0 hp1
        refine awp_cond (t := 25) rfl (fun hc41 => ?_) (fun hc41 => ?_)
        · replace h := bite_t h hc41
          refine awp_reg ftCOk [(4, .v (.bool false))] [.row false (.bools a0), .row false (.bools a1)] ?_
          refine awp_ret ?_
          (try simp only [Thn, InBlk, ↓reduceIte, Nat.reduceEqDiff])
          obtain rfl := Option.some.inj h
          refine LoopQ.out rfl ?_
          exact Red.auto
        · replace h := bite_f h hc41
          refine awp_skip ?_
          (try simp only [Thn, InBlk, ↓reduceIte, Nat.reduceEqDiff])
          (try simp only [Thn, InBlk, ↓reduceIte, Nat.reduceEqDiff])
          refine hK40 _ _ ?_
          clear hK40
          replace h := chk_some h
          obtain ⟨hp0, h⟩ := h
          refine awp_regE ftCOk [(0, .sl 0), (1, .sl 1), (5, .v (.int .i64 (t5 + 1)))] [.row false (.bools a0), .row false (.bools a1)] ?_
          clear hp0
          obtain rfl := Option.some.inj h
          refine LoopQ.next ?_
          exact Red.auto
      · replace h := bite_f h hc38
        refine awp_exit ?_
        (try simp only [Thn, InBlk, ↓reduceIte, Nat.reduceEqDiff])
        obtain rfl := Option.some.inj h
        refine LoopQ.out rfl ?_
        exact Red.auto
    · clear hx
      rcases x42 with (⟨⟩ | ⟨⟩)
      · try dsimp only [Sum.elim_inl, Sum.elim_inr] at h
        try dsimp only [Sum.elim_inl, Sum.elim_inr]
        (try simp only [Thn, InBlk, ↓reduceIte, Nat.reduceEqDiff])
        (try simp only [Thn, InBlk, ↓reduceIte, Nat.reduceEqDiff])
        (try simp only [Thn, InBlk, ↓reduceIte, Nat.reduceEqDiff])
        refine hK23 _ _ ?_
        clear hK23
        refine awp_reg ftCOk [(4, .v (.bool true))] [.row false (.bools a0), .row false (.bools a1)] ?_
        refine awp_ret ?_
        (try simp only [Thn, InBlk, ↓reduceIte, Nat.reduceEqDiff])
        obtain rfl := Option.some.inj h
        refine ⟨by simp, _, [0, 1], (by simp only [go_sem, Nat.reduceBEq, Nat.reduceLT, Nat.reduceAdd, Nat.reduceLeDiff, Nat.reduceSub, Nat.reduceEqDiff, Int.reduceToNat, reduceCtorEq, ↓reduceIte]; exact rfl), ?_, ?_, ?_, ?_⟩
        · first | exact trivial | exact ⟨trivial, trivial⟩ | exact ⟨trivial, trivial, trivial⟩ | exact ⟨trivial, trivial, trivial, trivial⟩ | (simp only [allP, and_true, true_and]; done) | (simp only [allP, and_true, true_and]; omega)
        · simp [selOk, pos]
        · simp
        · first | exact ⟨rfl, rfl⟩ | (simp only [go_sem, Nat.reduceBEq, Nat.reduceLT, Nat.reduceAdd, Nat.reduceLeDiff, Nat.reduceSub, Nat.reduceEqDiff, Int.reduceToNat, reduceCtorEq, ↓reduceIte]; done) | (simp [go_sem, Nat.reduceBEq, Nat.reduceLT, Nat.reduceAdd, Nat.reduceLeDiff, Nat.reduceSub, Nat.reduceEqDiff, Int.reduceToNat, reduceCtorEq, ↓reduceIte]; done) | (simp only [go_sem, Nat.reduceBEq, Nat.reduceLT, Nat.reduceAdd, Nat.reduceLeDiff, Nat.reduceSub, Nat.reduceEqDiff, Int.reduceToNat, reduceCtorEq, ↓reduceIte]; exact ⟨rfl, rfl⟩) | (simp_all [go_sem, Nat.reduceBEq, Nat.reduceLT, Nat.reduceAdd, Nat.reduceLeDiff, Nat.reduceSub, Nat.reduceEqDiff, Int.reduceToNat, reduceCtorEq, ↓reduceIte]; done)
      · try dsimp only [Sum.elim_inl, Sum.elim_inr] at h
        try dsimp only [Sum.elim_inl, Sum.elim_inr]
        (try simp only [Thn, InBlk, ↓reduceIte, Nat.reduceEqDiff])
        obtain rfl := Option.some.inj h
        refine ⟨by simp, _, [0, 1], (by simp only [go_sem, Nat.reduceBEq, Nat.reduceLT, Nat.reduceAdd, Nat.reduceLeDiff, Nat.reduceSub, Nat.reduceEqDiff, Int.reduceToNat, reduceCtorEq, ↓reduceIte]; exact rfl), ?_, ?_, ?_, ?_⟩
        · first | exact trivial | exact ⟨trivial, trivial⟩ | exact ⟨trivial, trivial, trivial⟩ | exact ⟨trivial, trivial, trivial, trivial⟩ | (simp only [allP, and_true, true_and]; done) | (simp only [allP, and_true, true_and]; omega)
        · simp [selOk, pos]
        · simp
        · first | exact ⟨rfl, rfl⟩ | (simp only [go_sem, Nat.reduceBEq, Nat.reduceLT, Nat.reduceAdd, Nat.reduceLeDiff, Nat.reduceSub, Nat.reduceEqDiff, Int.reduceToNat, reduceCtorEq, ↓reduceIte]; done) | (simp [go_sem, Nat.reduceBEq, Nat.reduceLT, Nat.reduceAdd, Nat.reduceLeDiff, Nat.reduceSub, Nat.reduceEqDiff, Int.reduceToNat, reduceCtorEq, ↓reduceIte]; done) | (simp only [go_sem, Nat.reduceBEq, Nat.reduceLT, Nat.reduceAdd, Nat.reduceLeDiff, Nat.reduceSub, Nat.reduceEqDiff, Int.reduceToNat, reduceCtorEq, ↓reduceIte]; exact ⟨rfl, rfl⟩) | (simp_all [go_sem, Nat.reduceBEq, Nat.reduceLT, Nat.reduceAdd, Nat.reduceLeDiff, Nat.reduceSub, Nat.reduceEqDiff, Int.reduceToNat, reduceCtorEq, ↓reduceIte]; done)
theorem k_impl_CutGain (a0_0 : Int) (a0_1 : List (Int × Int × Int)) (a1 : List Bool) (a2 : Int) {r : Int} (h : impl_CutGain a0_0 a0_1 a1 a2 = some r) :
    FnA Try.prog 29 [.agg [.v (.int .i64 a0_0), .sl 0], .sl 1, .v (.int .i64 a2)] [.row false (.trips a0_1), .row false (.bools a1)] [] (fun x H => x = .v (.int .i64 r) ∧ H = [.row false (.trips a0_1), .row false (.bools a1)]) := by
  unfold impl_CutGain at h
  refine FnA.of (N := 21) (pin := [0, 1]) (rs := [.tmp 6]) Try.func29 rfl en29 rfl rfl (by simp) (by simp; try omega) ?_
  refine awp_reg ftCOk [(1, .sl 1), (2, .v (.int .i64 a2)), (3, .pp 2 0)] [.row false (.trips a0_1), .row false (.bools a1), .box [.v (.int .i64 a0_0), .sl 0]] ?_
  refine awp_freeze 3 (by rfl) (by rfl) (by exact rfl) ?_
  refine awp_seq fun K2 hK2 => ?_
  replace h := bind_some h
  obtain ⟨y, hr0, h⟩ := h
  try dsimp only at h
  replace h := bind_some h
  obtain ⟨y_1, hr1, h⟩ := h
  try dsimp only at h
  refine awp_to [(1, .sl 1), (2, .v (.int .i64 a2)), (3, .pp 2 0), (16, .v (.bool ((!y) || (!y_1))))] [.row false (.trips a0_1), .row false (.bools a1), .rbox [.v (.int .i64 a0_0), .sl 0]] ?_ ?_
  · clear h
    intro K hK
    refine awp_region ftCOk ?_
    simp (maxSteps := 4000000) only [go_sem, Nat.reduceBEq, Nat.reduceLT, Nat.reduceAdd, Nat.reduceLeDiff, Nat.reduceSub, Nat.reduceEqDiff, Int.reduceToNat, reduceCtorEq, ↓reduceIte]
    repeat' (first | refine And.intro ?_ ?_ | intro hg)
    all_goals (try simp (disch := omega) only [wrap_fits])
    all_goals first
      | (refine hK _ _ ?_; exact Red.auto)
      | exact trivial
      | assumption
      | omega
      | exact wrap_fits (by omega) (by omega)
      | (refine wpA_callA (k_impl_sidesFit a0_0 a0_1 a1 (h := hr0)) [0, 1] [] ?_
         rintro x Hc' ⟨rfl, rfl⟩ hlen
         refine vcOps_sound ftCOk ?_
         simp (maxSteps := 4000000) only [go_sem, Nat.reduceBEq, Nat.reduceLT, Nat.reduceAdd, Nat.reduceLeDiff, Nat.reduceSub, Nat.reduceEqDiff, Int.reduceToNat, reduceCtorEq, ↓reduceIte]
         repeat' (first | refine And.intro ?_ ?_ | intro hg)
         all_goals (try simp (disch := omega) only [wrap_fits])
         all_goals first
           | (refine hK _ _ ?_; exact Red.auto)
           | exact trivial
           | assumption
           | omega
           | exact wrap_fits (by omega) (by omega)
           | (refine wpA_guard rfl rfl ?_
              refine wpA_callA (k_impl_Graph_has a0_0 a0_1 a2 (h := (bite_t hr1 (by rw [Bool.not_eq_true']; exact (by first | assumption | (simp only [*, Bool.false_or, Bool.true_or, Bool.or_false, Bool.or_true, Bool.false_and, Bool.true_and, Bool.and_false, Bool.and_true, Bool.not_true, Bool.not_false, beq_self_eq_true]; done) | (simp_all; done)))))) [0] [] ?_
              rintro x Hc' ⟨rfl, rfl⟩ hlen
              refine vcOps_sound ftCOk ?_
              simp (maxSteps := 4000000) only [go_sem, Nat.reduceBEq, Nat.reduceLT, Nat.reduceAdd, Nat.reduceLeDiff, Nat.reduceSub, Nat.reduceEqDiff, Int.reduceToNat, reduceCtorEq, ↓reduceIte]
              repeat' (first | refine And.intro ?_ ?_ | intro hg)
              all_goals (try simp (disch := omega) only [wrap_fits])
              all_goals first
                | (refine hK _ _ ?_; exact Red.auto)
                | exact trivial
                | assumption
                | omega
                | exact wrap_fits (by omega) (by omega)
                | (simp_all; done)
                | (simp_all; omega))
           | (simp_all; done)
           | (simp_all; omega))
      | (simp_all; done)
      | (simp_all; omega)
  · clear hr0 hr1
    refine awp_cond (t := 16) rfl (fun hc3 => ?_) (fun hc3 => ?_)
    · replace h := bite_t h hc3
      refine awp_reg ftCOk [(6, .v (.int .i64 0))] [.row false (.trips a0_1), .row false (.bools a1), .rbox [.v (.int .i64 a0_0), .sl 0]] ?_
      refine awp_ret ?_
      (try simp only [Thn, InBlk, ↓reduceIte, Nat.reduceEqDiff])
      obtain rfl := Option.some.inj h
      refine ⟨by simp, _, [0, 1], (by simp only [go_sem, Nat.reduceBEq, Nat.reduceLT, Nat.reduceAdd, Nat.reduceLeDiff, Nat.reduceSub, Nat.reduceEqDiff, Int.reduceToNat, reduceCtorEq, ↓reduceIte]; exact rfl), ?_, ?_, ?_, ?_⟩
      · first | exact trivial | exact ⟨trivial, trivial⟩ | exact ⟨trivial, trivial, trivial⟩ | exact ⟨trivial, trivial, trivial, trivial⟩ | (simp only [allP, and_true, true_and]; done) | (simp only [allP, and_true, true_and]; omega)
      · simp [selOk, pos]
      · simp
      · first | exact ⟨rfl, rfl⟩ | (simp only [go_sem, Nat.reduceBEq, Nat.reduceLT, Nat.reduceAdd, Nat.reduceLeDiff, Nat.reduceSub, Nat.reduceEqDiff, Int.reduceToNat, reduceCtorEq, ↓reduceIte]; done) | (simp [go_sem, Nat.reduceBEq, Nat.reduceLT, Nat.reduceAdd, Nat.reduceLeDiff, Nat.reduceSub, Nat.reduceEqDiff, Int.reduceToNat, reduceCtorEq, ↓reduceIte]; done) | (simp only [go_sem, Nat.reduceBEq, Nat.reduceLT, Nat.reduceAdd, Nat.reduceLeDiff, Nat.reduceSub, Nat.reduceEqDiff, Int.reduceToNat, reduceCtorEq, ↓reduceIte]; exact ⟨rfl, rfl⟩) | (simp_all [go_sem, Nat.reduceBEq, Nat.reduceLT, Nat.reduceAdd, Nat.reduceLeDiff, Nat.reduceSub, Nat.reduceEqDiff, Int.reduceToNat, reduceCtorEq, ↓reduceIte]; done)
    · replace h := bite_f h hc3
      refine awp_skip ?_
      (try simp only [Thn, InBlk, ↓reduceIte, Nat.reduceEqDiff])
      refine hK2 _ _ ?_
      clear hK2
      replace h := bind_some h
      obtain ⟨y_2, hr0, h⟩ := h
      try dsimp only at h
      refine awp_to [(6, .v (.int .i64 y_2))] [.row false (.trips a0_1), .row false (.bools a1), .rbox [.v (.int .i64 a0_0), .sl 0]] ?_ ?_
      · clear h
        intro K hK
        refine awp_region ftCOk ?_
        simp (maxSteps := 4000000) only [go_sem, Nat.reduceBEq, Nat.reduceLT, Nat.reduceAdd, Nat.reduceLeDiff, Nat.reduceSub, Nat.reduceEqDiff, Int.reduceToNat, reduceCtorEq, ↓reduceIte]
        repeat' (first | refine And.intro ?_ ?_ | intro hg)
        all_goals (try simp (disch := omega) only [wrap_fits])
        all_goals first
          | (refine hK _ _ ?_; exact Red.auto)
          | exact trivial
          | assumption
          | omega
          | exact wrap_fits (by omega) (by omega)
          | (refine wpA_callA (k_impl_gainOf a0_0 a0_1 a1 a2 (h := hr0)) [0, 1] [] ?_
             rintro x Hc' ⟨rfl, rfl⟩ hlen
             refine vcOps_sound ftCOk ?_
             simp (maxSteps := 4000000) only [go_sem, Nat.reduceBEq, Nat.reduceLT, Nat.reduceAdd, Nat.reduceLeDiff, Nat.reduceSub, Nat.reduceEqDiff, Int.reduceToNat, reduceCtorEq, ↓reduceIte]
             repeat' (first | refine And.intro ?_ ?_ | intro hg)
             all_goals (try simp (disch := omega) only [wrap_fits])
             all_goals first
               | (refine hK _ _ ?_; exact Red.auto)
               | exact trivial
               | assumption
               | omega
               | exact wrap_fits (by omega) (by omega)
               | (simp_all; done)
               | (simp_all; omega))
          | (simp_all; done)
          | (simp_all; omega)
      · clear hr0
        refine awp_ret ?_
        (try simp only [Thn, InBlk, ↓reduceIte, Nat.reduceEqDiff])
        obtain rfl := Option.some.inj h
        refine ⟨by simp, _, [0, 1], (by simp only [go_sem, Nat.reduceBEq, Nat.reduceLT, Nat.reduceAdd, Nat.reduceLeDiff, Nat.reduceSub, Nat.reduceEqDiff, Int.reduceToNat, reduceCtorEq, ↓reduceIte]; exact rfl), ?_, ?_, ?_, ?_⟩
        · first | exact trivial | exact ⟨trivial, trivial⟩ | exact ⟨trivial, trivial, trivial⟩ | exact ⟨trivial, trivial, trivial, trivial⟩ | (simp only [allP, and_true, true_and]; done) | (simp only [allP, and_true, true_and]; omega)
        · simp [selOk, pos]
        · simp
        · first | exact ⟨rfl, rfl⟩ | (simp only [go_sem, Nat.reduceBEq, Nat.reduceLT, Nat.reduceAdd, Nat.reduceLeDiff, Nat.reduceSub, Nat.reduceEqDiff, Int.reduceToNat, reduceCtorEq, ↓reduceIte]; done) | (simp [go_sem, Nat.reduceBEq, Nat.reduceLT, Nat.reduceAdd, Nat.reduceLeDiff, Nat.reduceSub, Nat.reduceEqDiff, Int.reduceToNat, reduceCtorEq, ↓reduceIte]; done) | (simp only [go_sem, Nat.reduceBEq, Nat.reduceLT, Nat.reduceAdd, Nat.reduceLeDiff, Nat.reduceSub, Nat.reduceEqDiff, Int.reduceToNat, reduceCtorEq, ↓reduceIte]; exact ⟨rfl, rfl⟩) | (simp_all [go_sem, Nat.reduceBEq, Nat.reduceLT, Nat.reduceAdd, Nat.reduceLeDiff, Nat.reduceSub, Nat.reduceEqDiff, Int.reduceToNat, reduceCtorEq, ↓reduceIte]; done)
theorem k_impl_CutWeight (a0_0 : Int) (a0_1 : List (Int × Int × Int)) (a1 : List Bool) {r : Int} (h : impl_CutWeight a0_0 a0_1 a1 = some r) :
    FnA Try.prog 30 [.agg [.v (.int .i64 a0_0), .sl 0], .sl 1] [.row false (.trips a0_1), .row false (.bools a1)] [] (fun x H => x = .v (.int .i64 r) ∧ H = [.row false (.trips a0_1), .row false (.bools a1)]) := by
  unfold impl_CutWeight at h
  refine FnA.of (N := 36) (pin := [0, 1]) (rs := [.tmp 4]) Try.func30 rfl en30 rfl rfl (by simp) (by simp; try omega) ?_
  refine awp_reg ftCOk [(1, .sl 1), (2, .pp 2 0)] [.row false (.trips a0_1), .row false (.bools a1), .box [.v (.int .i64 a0_0), .sl 0]] ?_
  refine awp_freeze 2 (by rfl) (by rfl) (by exact rfl) ?_
  refine awp_seq fun K2 hK2 => ?_
  replace h := bind_some h
  obtain ⟨y, hr0, h⟩ := h
  try dsimp only at h
  refine awp_to [(1, .sl 1), (2, .pp 2 0), (11, .v (.bool (!y)))] [.row false (.trips a0_1), .row false (.bools a1), .rbox [.v (.int .i64 a0_0), .sl 0]] ?_ ?_
  · clear h
    intro K hK
    refine awp_region ftCOk ?_
    simp (maxSteps := 4000000) only [go_sem, Nat.reduceBEq, Nat.reduceLT, Nat.reduceAdd, Nat.reduceLeDiff, Nat.reduceSub, Nat.reduceEqDiff, Int.reduceToNat, reduceCtorEq, ↓reduceIte]
    repeat' (first | refine And.intro ?_ ?_ | intro hg)
    all_goals (try simp (disch := omega) only [wrap_fits])
    all_goals first
      | (refine hK _ _ ?_; exact Red.auto)
      | exact trivial
      | assumption
      | omega
      | exact wrap_fits (by omega) (by omega)
      | (refine wpA_callA (k_impl_sidesFit a0_0 a0_1 a1 (h := hr0)) [0, 1] [] ?_
         rintro x Hc' ⟨rfl, rfl⟩ hlen
         refine vcOps_sound ftCOk ?_
         simp (maxSteps := 4000000) only [go_sem, Nat.reduceBEq, Nat.reduceLT, Nat.reduceAdd, Nat.reduceLeDiff, Nat.reduceSub, Nat.reduceEqDiff, Int.reduceToNat, reduceCtorEq, ↓reduceIte]
         repeat' (first | refine And.intro ?_ ?_ | intro hg)
         all_goals (try simp (disch := omega) only [wrap_fits])
         all_goals first
           | (refine hK _ _ ?_; exact Red.auto)
           | exact trivial
           | assumption
           | omega
           | exact wrap_fits (by omega) (by omega)
           | (simp_all; done)
           | (simp_all; omega))
      | (simp_all; done)
      | (simp_all; omega)
  · clear hr0
    refine awp_cond (t := 11) rfl (fun hc3 => ?_) (fun hc3 => ?_)
    · replace h := bite_t h hc3
      refine awp_reg ftCOk [(4, .v (.int .i64 (-1)))] [.row false (.trips a0_1), .row false (.bools a1), .rbox [.v (.int .i64 a0_0), .sl 0]] ?_
      refine awp_ret ?_
      (try simp only [Thn, InBlk, ↓reduceIte, Nat.reduceEqDiff])
      obtain rfl := Option.some.inj h
      refine ⟨by simp, _, [0, 1], (by simp only [go_sem, Nat.reduceBEq, Nat.reduceLT, Nat.reduceAdd, Nat.reduceLeDiff, Nat.reduceSub, Nat.reduceEqDiff, Int.reduceToNat, reduceCtorEq, ↓reduceIte]; exact rfl), ?_, ?_, ?_, ?_⟩
      · first | exact trivial | exact ⟨trivial, trivial⟩ | exact ⟨trivial, trivial, trivial⟩ | exact ⟨trivial, trivial, trivial, trivial⟩ | (simp only [allP, and_true, true_and]; done) | (simp only [allP, and_true, true_and]; omega)
      · simp [selOk, pos]
      · simp
      · first | exact ⟨rfl, rfl⟩ | (simp only [go_sem, Nat.reduceBEq, Nat.reduceLT, Nat.reduceAdd, Nat.reduceLeDiff, Nat.reduceSub, Nat.reduceEqDiff, Int.reduceToNat, reduceCtorEq, ↓reduceIte]; done) | (simp [go_sem, Nat.reduceBEq, Nat.reduceLT, Nat.reduceAdd, Nat.reduceLeDiff, Nat.reduceSub, Nat.reduceEqDiff, Int.reduceToNat, reduceCtorEq, ↓reduceIte]; done) | (simp only [go_sem, Nat.reduceBEq, Nat.reduceLT, Nat.reduceAdd, Nat.reduceLeDiff, Nat.reduceSub, Nat.reduceEqDiff, Int.reduceToNat, reduceCtorEq, ↓reduceIte]; exact ⟨rfl, rfl⟩) | (simp_all [go_sem, Nat.reduceBEq, Nat.reduceLT, Nat.reduceAdd, Nat.reduceLeDiff, Nat.reduceSub, Nat.reduceEqDiff, Int.reduceToNat, reduceCtorEq, ↓reduceIte]; done)
    · replace h := bite_f h hc3
      refine awp_skip ?_
      (try simp only [Thn, InBlk, ↓reduceIte, Nat.reduceEqDiff])
      refine hK2 _ _ ?_
      clear hK2
      refine awp_reg ftCOk [(1, .sl 1), (2, .pp 2 0), (5, .v (.int .i64 0))] [.row false (.trips a0_1), .row false (.bools a1), .rbox [.v (.int .i64 a0_0), .sl 0]] ?_
      refine awp_seq fun K20 hK20 => ?_
      refine awp_reg ftCOk [(1, .sl 1), (5, .v (.int .i64 0)), (13, .sl 0), (14, .v (.int .i64 (a0_1.length : Int))), (15, .v (.int .i64 0))] [.row false (.trips a0_1), .row false (.bools a1), .rbox [.v (.int .i64 a0_0), .sl 0]] ?_
      refine awp_block ?_
      replace h := bind_some h
      obtain ⟨t5_1, hx, h⟩ := h
      refine awp_loopL hx (fun ((t5, t15) : Int × Int) => [(1, .sl 1), (5, .v (.int .i64 t5)), (13, .sl 0), (14, .v (.int .i64 (a0_1.length : Int))), (15, .v (.int .i64 t15))]) (fun ((t5, t15) : Int × Int) => [.row false (.trips a0_1), .row false (.bools a1)]) (fun (t5_1 : Int) => Exit.exit 0) (fun (t5_1 : Int) => [(5, .v (.int .i64 t5_1))]) (fun (t5_1 : Int) => [.row false (.trips a0_1), .row false (.bools a1)]) ?_ ?_ ?_ ?_
      · rintro t5_1 hy <;> cases hy
      · clear h hx
        exact Red.selA [0, 1] Red.auto
      · clear h hx
        rintro ⟨t5, t15⟩ r h
        unfold impl_CutWeight_b0 at h
        try dsimp only at h
        try dsimp only
        refine awp_reg ftCOk [(1, .sl 1), (5, .v (.int .i64 t5)), (13, .sl 0), (14, .v (.int .i64 (a0_1.length : Int))), (15, .v (.int .i64 t15)), (16, .v (.bool (decide (t15 < (a0_1.length : Int)))))] [.row false (.trips a0_1), .row false (.bools a1)] ?_
        refine awp_seq fun K32 hK32 => ?_
        refine awp_cond (t := 16) rfl (fun hc33 => ?_) (fun hc33 => ?_)
        · replace h := bite_t h hc33
          refine awp_skip ?_
          (try simp only [Thn, InBlk, ↓reduceIte, Nat.reduceEqDiff])
          refine hK32 _ _ ?_
          clear hK32
          refine awp_join h (fun (t5_2 : Int) => [(1, .sl 1), (5, .v (.int .i64 t5_2)), (13, .sl 0), (14, .v (.int .i64 (a0_1.length : Int))), (15, .v (.int .i64 t15))]) (fun (t5_2 : Int) => [.row false (.trips a0_1), .row false (.bools a1)]) ?_ ?_
          · clear h
            intro k h
            try dsimp only at h
            refine awp_block ?_
            replace h := chk_some h
            obtain ⟨hp0, h⟩ := h
            refine awp_reg ftCOk [(1, .sl 1), (5, .v (.int .i64 t5)), (7, .pp 2 0), (13, .sl 0), (14, .v (.int .i64 (a0_1.length : Int))), (15, .v (.int .i64 t15))] [.row false (.trips a0_1), .row false (.bools a1), .box [.v (.int .i64 ((a0_1.getD t15.toNat (0, 0, 0)).1)), .v (.int .i64 ((a0_1.getD t15.toNat (0, 0, 0)).2.1)), .v (.int .i64 ((a0_1.getD t15.toNat (0, 0, 0)).2.2))]] ?_
            clear hp0
            replace h := chk_some h
            obtain ⟨hp0, h⟩ := h
            replace h := chk_some h
            obtain ⟨hp1, h⟩ := h
            refine awp_regQ mixed ftCOk [(1, .sl 1), (5, .v (.int .i64 t5)), (7, .pp 2 0), (13, .sl 0), (14, .v (.int .i64 (a0_1.length : Int))), (15, .v (.int .i64 t15)), (29, .v (.bool (!((a1.getD (((a0_1.getD t15.toNat (0, 0, 0)).1).toNat) false) == (a1.getD (((a0_1.getD t15.toNat (0, 0, 0)).2.1).toNat) false)))))] [.row false (.trips a0_1), .row false (.bools a1), .box [.v (.int .i64 ((a0_1.getD t15.toNat (0, 0, 0)).1)), .v (.int .i64 ((a0_1.getD t15.toNat (0, 0, 0)).2.1)), .v (.int .i64 ((a0_1.getD t15.toNat (0, 0, 0)).2.2))]] ?_
            clear hp0 hp1
            refine awp_cond (t := 29) rfl (fun hc35 => ?_) (fun hc35 => ?_)
            · replace h := bite_t h hc35
              replace h := chk_some h
              obtain ⟨hp0, h⟩ := h
              refine awp_regE ftCOk [(1, .sl 1), (5, .v (.int .i64 (t5 + (a0_1.getD t15.toNat (0, 0, 0)).2.2))), (13, .sl 0), (14, .v (.int .i64 (a0_1.length : Int))), (15, .v (.int .i64 t15))] [.row false (.trips a0_1), .row false (.bools a1), .box [.v (.int .i64 ((a0_1.getD t15.toNat (0, 0, 0)).1)), .v (.int .i64 ((a0_1.getD t15.toNat (0, 0, 0)).2.1)), .v (.int .i64 ((a0_1.getD t15.toNat (0, 0, 0)).2.2))]] ?_
              clear hp0
              (try simp only [Thn, InBlk, ↓reduceIte, Nat.reduceEqDiff])
              (try simp only [Thn, InBlk, ↓reduceIte, Nat.reduceEqDiff])
              refine ⟨_, h, ?_⟩
              exact Red.selA [0, 1] Red.auto
            · replace h := bite_f h hc35
              refine awp_skip ?_
              (try simp only [Thn, InBlk, ↓reduceIte, Nat.reduceEqDiff])
              (try simp only [Thn, InBlk, ↓reduceIte, Nat.reduceEqDiff])
              refine ⟨_, h, ?_⟩
              exact Red.selA [0, 1] Red.auto
          · clear h
            rintro t5_2 h
            try dsimp only at h
            try dsimp only
            replace h := chk_some h
            obtain ⟨hp0, h⟩ := h
            refine awp_regE ftCOk [(1, .sl 1), (5, .v (.int .i64 t5_2)), (13, .sl 0), (14, .v (.int .i64 (a0_1.length : Int))), (15, .v (.int .i64 (t15 + 1)))] [.row false (.trips a0_1), .row false (.bools a1)] ?_
            clear hp0
            obtain rfl := Option.some.inj h
            refine LoopQ.next ?_
            exact Red.auto
        · replace h := bite_f h hc33
          refine awp_exit ?_
          (try simp only [Thn, InBlk, ↓reduceIte, Nat.reduceEqDiff])
          obtain rfl := Option.some.inj h
          refine LoopQ.out rfl ?_
          exact Red.auto
      · clear hx
        skip
        · try dsimp only [Sum.elim_inl, Sum.elim_inr] at h
          try dsimp only [Sum.elim_inl, Sum.elim_inr]
          (try simp only [Thn, InBlk, ↓reduceIte, Nat.reduceEqDiff])
          (try simp only [Thn, InBlk, ↓reduceIte, Nat.reduceEqDiff])
          (try simp only [Thn, InBlk, ↓reduceIte, Nat.reduceEqDiff])
          refine hK20 _ _ ?_
          clear hK20
          refine awp_reg ftCOk [(4, .v (.int .i64 t5_1))] [.row false (.trips a0_1), .row false (.bools a1)] ?_
          refine awp_ret ?_
          (try simp only [Thn, InBlk, ↓reduceIte, Nat.reduceEqDiff])
          obtain rfl := Option.some.inj h
          refine ⟨by simp, _, [0, 1], (by simp only [go_sem, Nat.reduceBEq, Nat.reduceLT, Nat.reduceAdd, Nat.reduceLeDiff, Nat.reduceSub, Nat.reduceEqDiff, Int.reduceToNat, reduceCtorEq, ↓reduceIte]; exact rfl), ?_, ?_, ?_, ?_⟩
          · first | exact trivial | exact ⟨trivial, trivial⟩ | exact ⟨trivial, trivial, trivial⟩ | exact ⟨trivial, trivial, trivial, trivial⟩ | (simp only [allP, and_true, true_and]; done) | (simp only [allP, and_true, true_and]; omega)
          · simp [selOk, pos]
          · simp
          · first | exact ⟨rfl, rfl⟩ | (simp only [go_sem, Nat.reduceBEq, Nat.reduceLT, Nat.reduceAdd, Nat.reduceLeDiff, Nat.reduceSub, Nat.reduceEqDiff, Int.reduceToNat, reduceCtorEq, ↓reduceIte]; done) | (simp [go_sem, Nat.reduceBEq, Nat.reduceLT, Nat.reduceAdd, Nat.reduceLeDiff, Nat.reduceSub, Nat.reduceEqDiff, Int.reduceToNat, reduceCtorEq, ↓reduceIte]; done) | (simp only [go_sem, Nat.reduceBEq, Nat.reduceLT, Nat.reduceAdd, Nat.reduceLeDiff, Nat.reduceSub, Nat.reduceEqDiff, Int.reduceToNat, reduceCtorEq, ↓reduceIte]; exact ⟨rfl, rfl⟩) | (simp_all [go_sem, Nat.reduceBEq, Nat.reduceLT, Nat.reduceAdd, Nat.reduceLeDiff, Nat.reduceSub, Nat.reduceEqDiff, Int.reduceToNat, reduceCtorEq, ↓reduceIte]; done)
theorem k_laws_FnBetterCut (a0 : List Int) {r : Bool} (h : laws_FnBetterCut a0 = some r) :
    FnA Try.prog 6 [.sl 0] [.row false (.ints .u8 a0)] [] (fun x H => x = .v (.bool r) ∧ H = [.row false (.ints .u8 a0)]) := by
  unfold laws_FnBetterCut at h
  refine FnA.of (N := 92) (pin := [0]) (rs := [.tmp 2]) Try.func6 rfl en6 rfl rfl (by simp) (by simp; try omega) ?_
  refine awp_reg ftCOk [(0, .sl 0)] [.row false (.ints .u8 a0)] ?_
  refine awp_seq fun K2 hK2 => ?_
  refine awp_reg ftCOk [(0, .sl 0), (14, .v (.bool (decide (1048576 < (a0.length : Int)))))] [.row false (.ints .u8 a0)] ?_
  refine awp_cond (t := 14) rfl (fun hc3 => ?_) (fun hc3 => ?_)
  · replace h := bite_t h hc3
    refine awp_reg ftCOk [(2, .v (.bool true))] [.row false (.ints .u8 a0)] ?_
    refine awp_ret ?_
    (try simp only [Thn, InBlk, ↓reduceIte, Nat.reduceEqDiff])
    obtain rfl := Option.some.inj h
    refine ⟨by simp, _, [0], (by simp only [go_sem, Nat.reduceBEq, Nat.reduceLT, Nat.reduceAdd, Nat.reduceLeDiff, Nat.reduceSub, Nat.reduceEqDiff, Int.reduceToNat, reduceCtorEq, ↓reduceIte]; exact rfl), ?_, ?_, ?_, ?_⟩
    · first | exact trivial | exact ⟨trivial, trivial⟩ | exact ⟨trivial, trivial, trivial⟩ | exact ⟨trivial, trivial, trivial, trivial⟩ | (simp only [allP, and_true, true_and]; done) | (simp only [allP, and_true, true_and]; omega)
    · simp [selOk, pos]
    · simp
    · first | exact ⟨rfl, rfl⟩ | (simp only [go_sem, Nat.reduceBEq, Nat.reduceLT, Nat.reduceAdd, Nat.reduceLeDiff, Nat.reduceSub, Nat.reduceEqDiff, Int.reduceToNat, reduceCtorEq, ↓reduceIte]; done) | (simp [go_sem, Nat.reduceBEq, Nat.reduceLT, Nat.reduceAdd, Nat.reduceLeDiff, Nat.reduceSub, Nat.reduceEqDiff, Int.reduceToNat, reduceCtorEq, ↓reduceIte]; done) | (simp only [go_sem, Nat.reduceBEq, Nat.reduceLT, Nat.reduceAdd, Nat.reduceLeDiff, Nat.reduceSub, Nat.reduceEqDiff, Int.reduceToNat, reduceCtorEq, ↓reduceIte]; exact ⟨rfl, rfl⟩) | (simp_all [go_sem, Nat.reduceBEq, Nat.reduceLT, Nat.reduceAdd, Nat.reduceLeDiff, Nat.reduceSub, Nat.reduceEqDiff, Int.reduceToNat, reduceCtorEq, ↓reduceIte]; done)
  · replace h := bite_f h hc3
    refine awp_skip ?_
    (try simp only [Thn, InBlk, ↓reduceIte, Nat.reduceEqDiff])
    refine hK2 _ _ ?_
    clear hK2
    replace h := bind_some h
    obtain ⟨⟨y, y_1, y_2⟩, hr0, h⟩ := h
    try dsimp only at h
    refine awp_to [(3, .pp 3 0), (4, .sl 2)] [.row false (.ints .u8 a0), .row true (.trips y_1), .row true (.bools y_2), .box [.v (.int .i64 y), .sl 1]] ?_ ?_
    · clear h
      intro K hK
      refine awp_region ftCOk ?_
      simp (maxSteps := 4000000) only [go_sem, Nat.reduceBEq, Nat.reduceLT, Nat.reduceAdd, Nat.reduceLeDiff, Nat.reduceSub, Nat.reduceEqDiff, Int.reduceToNat, reduceCtorEq, ↓reduceIte]
      repeat' (first | refine And.intro ?_ ?_ | intro hg)
      all_goals (try simp (disch := omega) only [wrap_fits])
      all_goals first
        | (refine hK _ _ ?_; exact Red.auto)
        | exact trivial
        | assumption
        | omega
        | exact wrap_fits (by omega) (by omega)
        | (refine wpA_callA (k_spec_DrawBetterCut a0 (h := hr0)) [0] [] ?_
           rintro x Hc' ⟨rfl, rfl⟩ hlen
           refine vcOps_sound ftCOk ?_
           simp (maxSteps := 4000000) only [go_sem, Nat.reduceBEq, Nat.reduceLT, Nat.reduceAdd, Nat.reduceLeDiff, Nat.reduceSub, Nat.reduceEqDiff, Int.reduceToNat, reduceCtorEq, ↓reduceIte]
           repeat' (first | refine And.intro ?_ ?_ | intro hg)
           all_goals (try simp (disch := omega) only [wrap_fits])
           all_goals first
             | (refine hK _ _ ?_; exact Red.auto)
             | exact trivial
             | assumption
             | omega
             | exact wrap_fits (by omega) (by omega)
             | (simp_all; done)
             | (simp_all; omega))
        | (simp_all; done)
        | (simp_all; omega)
    · clear hr0
      replace h := bind_some h
      obtain ⟨⟨y_3, y_4⟩, hr0, h⟩ := h
      try dsimp only at h
      refine awp_to [(3, .pp 3 0), (4, .sl 2), (5, .sl 4), (6, .v (.int .i64 y_4))] [.row false (.ints .u8 a0), .row true (.trips y_1), .row true (.bools y_2), .box [.v (.int .i64 y), .sl 1], .row true (.bools y_3)] ?_ ?_
      · clear h
        intro K hK
        refine awp_region ftCOk ?_
        simp (maxSteps := 4000000) only [go_sem, Nat.reduceBEq, Nat.reduceLT, Nat.reduceAdd, Nat.reduceLeDiff, Nat.reduceSub, Nat.reduceEqDiff, Int.reduceToNat, reduceCtorEq, ↓reduceIte]
        repeat' (first | refine And.intro ?_ ?_ | intro hg)
        all_goals (try simp (disch := omega) only [wrap_fits])
        all_goals first
          | (refine hK _ _ ?_; exact Red.auto)
          | exact trivial
          | assumption
          | omega
          | exact wrap_fits (by omega) (by omega)
          | (refine wpA_callA (k_impl_BetterCut y y_1 y_2 (h := hr0)) [1, 2] [] ?_
             rintro x Hc' ⟨rfl, rfl⟩ hlen
             refine vcOps_sound ftCOk ?_
             simp (maxSteps := 4000000) only [go_sem, Nat.reduceBEq, Nat.reduceLT, Nat.reduceAdd, Nat.reduceLeDiff, Nat.reduceSub, Nat.reduceEqDiff, Int.reduceToNat, reduceCtorEq, ↓reduceIte]
             repeat' (first | refine And.intro ?_ ?_ | intro hg)
             all_goals (try simp (disch := omega) only [wrap_fits])
             all_goals first
               | (refine hK _ _ ?_; exact Red.auto)
               | exact trivial
               | assumption
               | omega
               | exact wrap_fits (by omega) (by omega)
               | (simp_all; done)
               | (simp_all; omega))
          | (simp_all; done)
          | (simp_all; omega)
      · clear hr0
        replace h := bind_some h
        obtain ⟨⟨y_5, y_6⟩, hr0, h⟩ := h
        try dsimp only at h
        refine awp_to [(3, .pp 3 0), (4, .sl 2), (5, .sl 4), (6, .v (.int .i64 y_4)), (7, .sl 5), (8, .v (.int .i64 y_6))] [.row false (.ints .u8 a0), .row true (.trips y_1), .row true (.bools y_2), .box [.v (.int .i64 y), .sl 1], .row true (.bools y_3), .row true (.bools y_5)] ?_ ?_
        · clear h
          intro K hK
          refine awp_region ftCOk ?_
          simp (maxSteps := 4000000) only [go_sem, Nat.reduceBEq, Nat.reduceLT, Nat.reduceAdd, Nat.reduceLeDiff, Nat.reduceSub, Nat.reduceEqDiff, Int.reduceToNat, reduceCtorEq, ↓reduceIte]
          repeat' (first | refine And.intro ?_ ?_ | intro hg)
          all_goals (try simp (disch := omega) only [wrap_fits])
          all_goals first
            | (refine hK _ _ ?_; exact Red.auto)
            | exact trivial
            | assumption
            | omega
            | exact wrap_fits (by omega) (by omega)
            | (refine wpA_callA (k_spec_BetterCut y y_1 y_2 (h := hr0)) [1, 2] [] ?_
               rintro x Hc' ⟨rfl, rfl⟩ hlen
               refine vcOps_sound ftCOk ?_
               simp (maxSteps := 4000000) only [go_sem, Nat.reduceBEq, Nat.reduceLT, Nat.reduceAdd, Nat.reduceLeDiff, Nat.reduceSub, Nat.reduceEqDiff, Int.reduceToNat, reduceCtorEq, ↓reduceIte]
               repeat' (first | refine And.intro ?_ ?_ | intro hg)
               all_goals (try simp (disch := omega) only [wrap_fits])
               all_goals first
                 | (refine hK _ _ ?_; exact Red.auto)
                 | exact trivial
                 | assumption
                 | omega
                 | exact wrap_fits (by omega) (by omega)
                 | (simp_all; done)
                 | (simp_all; omega))
            | (simp_all; done)
            | (simp_all; omega)
        · clear hr0
          refine awp_seq fun K5 hK5 => ?_
          replace h := bind_some h
          obtain ⟨y_7, hr0, h⟩ := h
          try dsimp only at h
          refine awp_to [(3, .pp 3 0), (4, .sl 2), (5, .sl 4), (6, .v (.int .i64 y_4)), (40, .v (.bool ((!y_7) || (y_4 != y_6))))] [.row false (.ints .u8 a0), .row true (.trips y_1), .row true (.bools y_2), .box [.v (.int .i64 y), .sl 1], .row true (.bools y_3), .row true (.bools y_5)] ?_ ?_
          · clear h
            intro K hK
            refine awp_region ftCOk ?_
            simp (maxSteps := 4000000) only [go_sem, Nat.reduceBEq, Nat.reduceLT, Nat.reduceAdd, Nat.reduceLeDiff, Nat.reduceSub, Nat.reduceEqDiff, Int.reduceToNat, reduceCtorEq, ↓reduceIte]
            repeat' (first | refine And.intro ?_ ?_ | intro hg)
            all_goals (try simp (disch := omega) only [wrap_fits])
            all_goals first
              | (refine hK _ _ ?_; exact Red.auto)
              | exact trivial
              | assumption
              | omega
              | exact wrap_fits (by omega) (by omega)
              | (refine wpA_callA (k_laws_sameFlags y_3 y_5 (h := hr0)) [4, 5] [] ?_
                 rintro x Hc' ⟨rfl, rfl⟩ hlen
                 refine vcOps_sound ftCOk ?_
                 simp (maxSteps := 4000000) only [go_sem, Nat.reduceBEq, Nat.reduceLT, Nat.reduceAdd, Nat.reduceLeDiff, Nat.reduceSub, Nat.reduceEqDiff, Int.reduceToNat, reduceCtorEq, ↓reduceIte]
                 repeat' (first | refine And.intro ?_ ?_ | intro hg)
                 all_goals (try simp (disch := omega) only [wrap_fits])
                 all_goals first
                   | (refine hK _ _ ?_; exact Red.auto)
                   | exact trivial
                   | assumption
                   | omega
                   | exact wrap_fits (by omega) (by omega)
                   | (simp_all; done)
                   | (simp_all; omega))
              | (simp_all; done)
              | (simp_all; omega)
          · clear hr0
            refine awp_cond (t := 40) rfl (fun hc6 => ?_) (fun hc6 => ?_)
            · replace h := bite_t h hc6
              refine awp_reg ftCOk [(2, .v (.bool false))] [.row false (.ints .u8 a0), .row true (.trips y_1), .row true (.bools y_2), .box [.v (.int .i64 y), .sl 1], .row true (.bools y_3), .row true (.bools y_5)] ?_
              refine awp_ret ?_
              (try simp only [Thn, InBlk, ↓reduceIte, Nat.reduceEqDiff])
              obtain rfl := Option.some.inj h
              refine ⟨by simp, _, [0], (by simp only [go_sem, Nat.reduceBEq, Nat.reduceLT, Nat.reduceAdd, Nat.reduceLeDiff, Nat.reduceSub, Nat.reduceEqDiff, Int.reduceToNat, reduceCtorEq, ↓reduceIte]; exact rfl), ?_, ?_, ?_, ?_⟩
              · first | exact trivial | exact ⟨trivial, trivial⟩ | exact ⟨trivial, trivial, trivial⟩ | exact ⟨trivial, trivial, trivial, trivial⟩ | (simp only [allP, and_true, true_and]; done) | (simp only [allP, and_true, true_and]; omega)
              · simp [selOk, pos]
              · simp
              · first | exact ⟨rfl, rfl⟩ | (simp only [go_sem, Nat.reduceBEq, Nat.reduceLT, Nat.reduceAdd, Nat.reduceLeDiff, Nat.reduceSub, Nat.reduceEqDiff, Int.reduceToNat, reduceCtorEq, ↓reduceIte]; done) | (simp [go_sem, Nat.reduceBEq, Nat.reduceLT, Nat.reduceAdd, Nat.reduceLeDiff, Nat.reduceSub, Nat.reduceEqDiff, Int.reduceToNat, reduceCtorEq, ↓reduceIte]; done) | (simp only [go_sem, Nat.reduceBEq, Nat.reduceLT, Nat.reduceAdd, Nat.reduceLeDiff, Nat.reduceSub, Nat.reduceEqDiff, Int.reduceToNat, reduceCtorEq, ↓reduceIte]; exact ⟨rfl, rfl⟩) | (simp_all [go_sem, Nat.reduceBEq, Nat.reduceLT, Nat.reduceAdd, Nat.reduceLeDiff, Nat.reduceSub, Nat.reduceEqDiff, Int.reduceToNat, reduceCtorEq, ↓reduceIte]; done)
            · replace h := bite_f h hc6
              refine awp_skip ?_
              (try simp only [Thn, InBlk, ↓reduceIte, Nat.reduceEqDiff])
              refine hK5 _ _ ?_
              clear hK5
              refine awp_seq fun K8 hK8 => ?_
              replace h := bind_some h
              obtain ⟨y_8, hr0, h⟩ := h
              try dsimp only at h
              refine awp_to [(3, .pp 3 0), (4, .sl 2), (5, .sl 4), (6, .v (.int .i64 y_4)), (50, .v (.bool ((!y_8) || ((y_2.length : Int) != y))))] [.row false (.ints .u8 a0), .row true (.trips y_1), .row true (.bools y_2), .box [.v (.int .i64 y), .sl 1], .row true (.bools y_3), .row true (.bools y_5)] ?_ ?_
              · clear h
                intro K hK
                refine awp_region ftCOk ?_
                simp (maxSteps := 4000000) only [go_sem, Nat.reduceBEq, Nat.reduceLT, Nat.reduceAdd, Nat.reduceLeDiff, Nat.reduceSub, Nat.reduceEqDiff, Int.reduceToNat, reduceCtorEq, ↓reduceIte]
                repeat' (first | refine And.intro ?_ ?_ | intro hg)
                all_goals (try simp (disch := omega) only [wrap_fits])
                all_goals first
                  | (refine hK _ _ ?_; exact Red.auto)
                  | exact trivial
                  | assumption
                  | omega
                  | exact wrap_fits (by omega) (by omega)
                  | (refine wpA_callA (k_impl_GraphValid y y_1 (h := hr0)) [1] [] ?_
                     rintro x Hc' ⟨rfl, rfl⟩ hlen
                     refine vcOps_sound ftCOk ?_
                     simp (maxSteps := 4000000) only [go_sem, Nat.reduceBEq, Nat.reduceLT, Nat.reduceAdd, Nat.reduceLeDiff, Nat.reduceSub, Nat.reduceEqDiff, Int.reduceToNat, reduceCtorEq, ↓reduceIte]
                     repeat' (first | refine And.intro ?_ ?_ | intro hg)
                     all_goals (try simp (disch := omega) only [wrap_fits])
                     all_goals first
                       | (refine hK _ _ ?_; exact Red.auto)
                       | exact trivial
                       | assumption
                       | omega
                       | exact wrap_fits (by omega) (by omega)
                       | (simp_all; done)
                       | (simp_all; omega))
                  | (simp_all; done)
                  | (simp_all; omega)
              · clear hr0
                refine awp_cond (t := 50) rfl (fun hc9 => ?_) (fun hc9 => ?_)
                · replace h := bite_t h hc9
                  replace h := bind_some h
                  obtain ⟨y_9, hr0, h⟩ := h
                  try dsimp only at h
                  refine awp_to [(2, .v (.bool ((((y_3.length : Int) == 0) && (y_4 == 0)) && y_9)))] [.row false (.ints .u8 a0), .row true (.trips y_1), .row true (.bools y_2), .box [.v (.int .i64 y), .sl 1], .row true (.bools y_3), .row true (.bools y_5)] ?_ ?_
                  · clear h
                    intro K hK
                    refine awp_region ftCOk ?_
                    simp (maxSteps := 4000000) only [go_sem, Nat.reduceBEq, Nat.reduceLT, Nat.reduceAdd, Nat.reduceLeDiff, Nat.reduceSub, Nat.reduceEqDiff, Int.reduceToNat, reduceCtorEq, ↓reduceIte]
                    repeat' (first | refine And.intro ?_ ?_ | intro hg)
                    all_goals (try simp (disch := omega) only [wrap_fits])
                    all_goals first
                      | (refine hK _ _ ?_; exact Red.auto)
                      | exact trivial
                      | assumption
                      | omega
                      | exact wrap_fits (by omega) (by omega)
                      | (refine wpA_guard rfl rfl ?_
                         refine wpA_callA (k_laws_alive  (h := (bite_t hr0 (by first | assumption | (simp only [*, Bool.false_or, Bool.true_or, Bool.or_false, Bool.or_true, Bool.false_and, Bool.true_and, Bool.and_false, Bool.and_true, Bool.not_true, Bool.not_false, beq_self_eq_true]; done) | (simp_all; done))))) [] [] ?_
                         rintro x Hc' ⟨rfl, rfl⟩ hlen
                         refine vcOps_sound ftCOk ?_
                         simp (maxSteps := 4000000) only [go_sem, Nat.reduceBEq, Nat.reduceLT, Nat.reduceAdd, Nat.reduceLeDiff, Nat.reduceSub, Nat.reduceEqDiff, Int.reduceToNat, reduceCtorEq, ↓reduceIte]
                         repeat' (first | refine And.intro ?_ ?_ | intro hg)
                         all_goals (try simp (disch := omega) only [wrap_fits])
                         all_goals first
                           | (refine hK _ _ ?_; exact Red.auto)
                           | exact trivial
                           | assumption
                           | omega
                           | exact wrap_fits (by omega) (by omega)
                           | (simp_all; done)
                           | (simp_all; omega))
                      | (simp_all; done)
                      | (simp_all; omega)
                  · clear hr0
                    refine awp_ret ?_
                    (try simp only [Thn, InBlk, ↓reduceIte, Nat.reduceEqDiff])
                    obtain rfl := Option.some.inj h
                    refine ⟨by simp, _, [0], (by simp only [go_sem, Nat.reduceBEq, Nat.reduceLT, Nat.reduceAdd, Nat.reduceLeDiff, Nat.reduceSub, Nat.reduceEqDiff, Int.reduceToNat, reduceCtorEq, ↓reduceIte]; exact rfl), ?_, ?_, ?_, ?_⟩
                    · first | exact trivial | exact ⟨trivial, trivial⟩ | exact ⟨trivial, trivial, trivial⟩ | exact ⟨trivial, trivial, trivial, trivial⟩ | (simp only [allP, and_true, true_and]; done) | (simp only [allP, and_true, true_and]; omega)
                    · simp [selOk, pos]
                    · simp
                    · first | exact ⟨rfl, rfl⟩ | (simp only [go_sem, Nat.reduceBEq, Nat.reduceLT, Nat.reduceAdd, Nat.reduceLeDiff, Nat.reduceSub, Nat.reduceEqDiff, Int.reduceToNat, reduceCtorEq, ↓reduceIte]; done) | (simp [go_sem, Nat.reduceBEq, Nat.reduceLT, Nat.reduceAdd, Nat.reduceLeDiff, Nat.reduceSub, Nat.reduceEqDiff, Int.reduceToNat, reduceCtorEq, ↓reduceIte]; done) | (simp only [go_sem, Nat.reduceBEq, Nat.reduceLT, Nat.reduceAdd, Nat.reduceLeDiff, Nat.reduceSub, Nat.reduceEqDiff, Int.reduceToNat, reduceCtorEq, ↓reduceIte]; exact ⟨rfl, rfl⟩) | (simp_all [go_sem, Nat.reduceBEq, Nat.reduceLT, Nat.reduceAdd, Nat.reduceLeDiff, Nat.reduceSub, Nat.reduceEqDiff, Int.reduceToNat, reduceCtorEq, ↓reduceIte]; done)
                · replace h := bite_f h hc9
                  refine awp_skip ?_
                  (try simp only [Thn, InBlk, ↓reduceIte, Nat.reduceEqDiff])
                  refine hK8 _ _ ?_
                  clear hK8
                  refine awp_seq fun K29 hK29 => ?_
                  refine awp_reg ftCOk [(3, .pp 3 0), (4, .sl 2), (5, .sl 4), (6, .v (.int .i64 y_4)), (9, .v (.int .i64 1))] [.row false (.ints .u8 a0), .row true (.trips y_1), .row true (.bools y_2), .box [.v (.int .i64 y), .sl 1], .row true (.bools y_3), .row true (.bools y_5)] ?_
                  refine awp_block ?_
                  replace h := bind_some h
                  obtain ⟨x48, hx, h⟩ := h
                  refine awp_loopL hx (fun (t9 : Int) => [(3, .pp 1 0), (4, .sl 3), (5, .sl 4), (6, .v (.int .i64 y_4)), (9, .v (.int .i64 t9))]) (fun (t9 : Int) => [.row false (.ints .u8 a0), .box [.v (.int .i64 y), .sl 2], .row true (.trips y_1), .row true (.bools y_2), .row true (.bools y_3)]) (Sum.elim (fun (_ : Unit) => Exit.exit 0) (fun (_ : Unit) => Exit.ret)) (Sum.elim (fun (_ : Unit) => [(3, .pp 1 0), (4, .sl 3), (5, .sl 4), (6, .v (.int .i64 y_4))]) (fun (_ : Unit) => [(2, .v (.bool false))])) (Sum.elim (fun (_ : Unit) => [.row false (.ints .u8 a0), .box [.v (.int .i64 y), .sl 2], .row true (.trips y_1), .row true (.bools y_2), .row true (.bools y_3)]) (fun (_ : Unit) => [.row false (.ints .u8 a0)])) ?_ ?_ ?_ ?_
                  · rintro (⟨⟩ | ⟨⟩) hy <;> cases hy
                  · clear h hx
                    exact Red.selA [0, 3, 1, 2, 4] Red.auto
                  · clear h hx
                    rintro t9 r h
                    unfold laws_FnBetterCut_b0 at h
                    try dsimp only at h
                    try dsimp only
                    refine awp_seq fun K43 hK43 => ?_
                    replace h := chk_some h
                    obtain ⟨hp0, h⟩ := h
                    refine awp_reg ftCOk [(3, .pp 1 0), (4, .sl 3), (5, .sl 4), (6, .v (.int .i64 y_4)), (9, .v (.int .i64 t9)), (65, .v (.bool (decide ((t9 + 1) < y))))] [.row false (.ints .u8 a0), .box [.v (.int .i64 y), .sl 2], .row true (.trips y_1), .row true (.bools y_2), .row true (.bools y_3)] ?_
                    clear hp0
                    refine awp_cond (t := 65) rfl (fun hc44 => ?_) (fun hc44 => ?_)
                    · replace h := bite_t h hc44
                      refine awp_skip ?_
                      (try simp only [Thn, InBlk, ↓reduceIte, Nat.reduceEqDiff])
                      refine hK43 _ _ ?_
                      clear hK43
                      refine awp_seq fun K46 hK46 => ?_
                      refine awp_block ?_
                      replace h := bind_some h
                      obtain ⟨y_10, hr0, h⟩ := h
                      try dsimp only at h
                      refine awp_to [(3, .pp 1 0), (4, .sl 3), (5, .sl 4), (6, .v (.int .i64 y_4)), (9, .v (.int .i64 t9)), (72, .v (.bool (decide (0 < y_10))))] [.row false (.ints .u8 a0), .box [.v (.int .i64 y), .sl 2], .row true (.trips y_1), .row true (.bools y_2), .row true (.bools y_3)] ?_ ?_
                      · clear h
                        intro K hK
                        refine awp_region ftCOk ?_
                        simp (maxSteps := 4000000) only [go_sem, Nat.reduceBEq, Nat.reduceLT, Nat.reduceAdd, Nat.reduceLeDiff, Nat.reduceSub, Nat.reduceEqDiff, Int.reduceToNat, reduceCtorEq, ↓reduceIte]
                        repeat' (first | refine And.intro ?_ ?_ | intro hg)
                        all_goals (try simp (disch := omega) only [wrap_fits])
                        all_goals first
                          | (refine hK _ _ ?_; exact Red.auto)
                          | exact trivial
                          | assumption
                          | omega
                          | exact wrap_fits (by omega) (by omega)
                          | (refine wpA_callA (k_impl_CutGain y y_1 y_3 t9 (h := hr0)) [2, 4] [] ?_
                             rintro x Hc' ⟨rfl, rfl⟩ hlen
                             refine vcOps_sound ftCOk ?_
                             simp (maxSteps := 4000000) only [go_sem, Nat.reduceBEq, Nat.reduceLT, Nat.reduceAdd, Nat.reduceLeDiff, Nat.reduceSub, Nat.reduceEqDiff, Int.reduceToNat, reduceCtorEq, ↓reduceIte]
                             repeat' (first | refine And.intro ?_ ?_ | intro hg)
                             all_goals (try simp (disch := omega) only [wrap_fits])
                             all_goals first
                               | (refine hK _ _ ?_; exact Red.auto)
                               | exact trivial
                               | assumption
                               | omega
                               | exact wrap_fits (by omega) (by omega)
                               | (simp_all; done)
                               | (simp_all; omega))
                          | (simp_all; done)
                          | (simp_all; omega)
                      · clear hr0
                        refine awp_cond (t := 72) rfl (fun hc47 => ?_) (fun hc47 => ?_)
                        · replace h := bite_t h hc47
                          refine awp_reg ftCOk [(2, .v (.bool false))] [.row false (.ints .u8 a0), .box [.v (.int .i64 y), .sl 2], .row true (.trips y_1), .row true (.bools y_2), .row true (.bools y_3)] ?_
                          refine awp_ret ?_
                          (try simp only [Thn, InBlk, ↓reduceIte, Nat.reduceEqDiff])
                          obtain rfl := Option.some.inj h
                          refine LoopQ.out rfl ?_
                          exact Red.selA [0] Red.auto
                        · replace h := bite_f h hc47
                          refine awp_skip ?_
                          (try simp only [Thn, InBlk, ↓reduceIte, Nat.reduceEqDiff])
                          (try simp only [Thn, InBlk, ↓reduceIte, Nat.reduceEqDiff])
                          refine hK46 _ _ ?_
                          clear hK46
                          replace h := chk_some h
                          obtain ⟨hp0, h⟩ := h
                          refine awp_regE ftCOk [(3, .pp 1 0), (4, .sl 3), (5, .sl 4), (6, .v (.int .i64 y_4)), (9, .v (.int .i64 (t9 + 1)))] [.row false (.ints .u8 a0), .box [.v (.int .i64 y), .sl 2], .row true (.trips y_1), .row true (.bools y_2), .row true (.bools y_3)] ?_
                          clear hp0
                          obtain rfl := Option.some.inj h
                          refine LoopQ.next ?_
                          exact Red.auto
                    · replace h := bite_f h hc44
                      refine awp_exit ?_
                      (try simp only [Thn, InBlk, ↓reduceIte, Nat.reduceEqDiff])
                      obtain rfl := Option.some.inj h
                      refine LoopQ.out rfl ?_
                      exact Red.auto
                  · clear hx
                    rcases x48 with (⟨⟩ | ⟨⟩)
                    · try dsimp only [Sum.elim_inl, Sum.elim_inr] at h
                      try dsimp only [Sum.elim_inl, Sum.elim_inr]
                      (try simp only [Thn, InBlk, ↓reduceIte, Nat.reduceEqDiff])
                      (try simp only [Thn, InBlk, ↓reduceIte, Nat.reduceEqDiff])
                      (try simp only [Thn, InBlk, ↓reduceIte, Nat.reduceEqDiff])
                      refine hK29 _ _ ?_
                      clear hK29
                      replace h := bind_some h
                      obtain ⟨⟨y_11, y_12⟩, hr0, h⟩ := h
                      try dsimp only at h
                      refine awp_to [(3, .pp 1 0), (4, .sl 3), (5, .sl 4), (6, .v (.int .i64 y_4)), (11, .v (.int .i64 y_12))] [.row false (.ints .u8 a0), .box [.v (.int .i64 y), .sl 2], .row true (.trips y_1), .row true (.bools y_2), .row true (.bools y_3), .row true (.bools y_11)] ?_ ?_
                      · clear h
                        intro K hK
                        refine awp_region ftCOk ?_
                        simp (maxSteps := 4000000) only [go_sem, Nat.reduceBEq, Nat.reduceLT, Nat.reduceAdd, Nat.reduceLeDiff, Nat.reduceSub, Nat.reduceEqDiff, Int.reduceToNat, reduceCtorEq, ↓reduceIte]
                        repeat' (first | refine And.intro ?_ ?_ | intro hg)
                        all_goals (try simp (disch := omega) only [wrap_fits])
                        all_goals first
                          | (refine hK _ _ ?_; exact Red.auto)
                          | exact trivial
                          | assumption
                          | omega
                          | exact wrap_fits (by omega) (by omega)
                          | (refine wpA_callA (k_impl_BetterCut y y_1 y_3 (h := hr0)) [2, 4] [] ?_
                             rintro x Hc' ⟨rfl, rfl⟩ hlen
                             refine vcOps_sound ftCOk ?_
                             simp (maxSteps := 4000000) only [go_sem, Nat.reduceBEq, Nat.reduceLT, Nat.reduceAdd, Nat.reduceLeDiff, Nat.reduceSub, Nat.reduceEqDiff, Int.reduceToNat, reduceCtorEq, ↓reduceIte]
                             repeat' (first | refine And.intro ?_ ?_ | intro hg)
                             all_goals (try simp (disch := omega) only [wrap_fits])
                             all_goals first
                               | (refine hK _ _ ?_; exact Red.auto)
                               | exact trivial
                               | assumption
                               | omega
                               | exact wrap_fits (by omega) (by omega)
                               | (simp_all; done)
                               | (simp_all; omega))
                          | (simp_all; done)
                          | (simp_all; omega)
                      · clear hr0
                        replace h := bind_some h
                        obtain ⟨y_13, hr0, h⟩ := h
                        try dsimp only at h
                        replace h := bind_some h
                        obtain ⟨y_14, hr1, h⟩ := h
                        try dsimp only at h
                        replace h := chk_some h
                        obtain ⟨hp2, h⟩ := h
                        have hwhp2 := wrap_fits hp2.1 hp2.2
                        refine awp_to [(2, .v (.bool ((y_12 == 0) && (decide (y_4 ≤ (y_13 - y_14))))))] [.row false (.ints .u8 a0), .box [.v (.int .i64 y), .sl 2], .row true (.trips y_1), .row true (.bools y_2), .row true (.bools y_3), .row true (.bools y_11)] ?_ ?_
                        · clear h
                          intro K hK
                          refine awp_drawT mixed ftCOk (.one 0 (.one 1 (.one 2 (.free 4 (.free 7 (.free 10 (.two 3 6 (.two 5 6 (.one 6 (.one 8 (.one 9 (.one 11 (.one 12 (.one 13 .fin)))))) (.one 5 (.one 8 (.one 9 (.one 11 (.one 12 (.one 13 .fin))))))) (.one 3 (.one 5 (.one 8 (.one 9 (.one 11 (.one 12 (.one 13 .fin)))))))))))))) (by kernel_rfl) (by simp) ?_
                          simp (maxSteps := 4000000) only [go_sem, Nat.reduceBEq, Nat.reduceLT, Nat.reduceAdd, Nat.reduceLeDiff, Nat.reduceSub, Nat.reduceEqDiff, Int.reduceToNat, reduceCtorEq, ↓reduceIte]
                          repeat' (first | refine And.intro ?_ ?_ | intro hg)
                          all_goals (try simp (disch := omega) only [wrap_fits])
                          all_goals first
                            | (refine hK _ _ ?_; exact Red.auto)
                            | exact trivial
                            | assumption
                            | omega
                            | exact wrap_fits (by omega) (by omega)
                            | (refine OpK_callA (k_impl_CutWeight y y_1 y_2 (h := (bite_t hr0 (by first | assumption | (simp only [*, Bool.false_or, Bool.true_or, Bool.or_false, Bool.or_true, Bool.false_and, Bool.true_and, Bool.and_false, Bool.and_true, Bool.not_true, Bool.not_false, beq_self_eq_true]; done) | (simp_all; done))))) [2, 3] [] ?_
                               rintro x Hc' ⟨rfl, rfl⟩ hlen
                               simp (maxSteps := 4000000) only [go_sem, Nat.reduceBEq, Nat.reduceLT, Nat.reduceAdd, Nat.reduceLeDiff, Nat.reduceSub, Nat.reduceEqDiff, Int.reduceToNat, reduceCtorEq, ↓reduceIte]
                               repeat' (first | refine And.intro ?_ ?_ | intro hg)
                               all_goals (try simp (disch := omega) only [wrap_fits])
                               all_goals first
                                 | (refine hK _ _ ?_; exact Red.auto)
                                 | exact trivial
                                 | assumption
                                 | omega
                                 | exact wrap_fits (by omega) (by omega)
                                 | (refine OpK_callA (k_impl_CutWeight y y_1 y_3 (h := (bite_t hr1 (by first | assumption | (simp only [*, Bool.false_or, Bool.true_or, Bool.or_false, Bool.or_true, Bool.false_and, Bool.true_and, Bool.and_false, Bool.and_true, Bool.not_true, Bool.not_false, beq_self_eq_true]; done) | (simp_all; done))))) [2, 4] [] ?_
                                    rintro x Hc' ⟨rfl, rfl⟩ hlen
                                    simp (maxSteps := 4000000) only [go_sem, Nat.reduceBEq, Nat.reduceLT, Nat.reduceAdd, Nat.reduceLeDiff, Nat.reduceSub, Nat.reduceEqDiff, Int.reduceToNat, reduceCtorEq, ↓reduceIte]
                                    repeat' (first | refine And.intro ?_ ?_ | intro hg)
                                    all_goals (try simp (disch := omega) only [wrap_fits])
                                    all_goals first
                                      | (refine hK _ _ ?_; exact Red.auto)
                                      | exact trivial
                                      | assumption
                                      | omega
                                      | exact wrap_fits (by omega) (by omega)
                                      | (simp_all; done)
                                      | (simp_all; omega))
                                 | (simp_all; done)
                                 | (simp_all; omega))
                            | (refine OpK_callA (k_impl_CutWeight y y_1 y_3 (h := (bite_t hr1 (by first | assumption | (simp only [*, Bool.false_or, Bool.true_or, Bool.or_false, Bool.or_true, Bool.false_and, Bool.true_and, Bool.and_false, Bool.and_true, Bool.not_true, Bool.not_false, beq_self_eq_true]; done) | (simp_all; done))))) [2, 4] [] ?_
                               rintro x Hc' ⟨rfl, rfl⟩ hlen
                               simp (maxSteps := 4000000) only [go_sem, Nat.reduceBEq, Nat.reduceLT, Nat.reduceAdd, Nat.reduceLeDiff, Nat.reduceSub, Nat.reduceEqDiff, Int.reduceToNat, reduceCtorEq, ↓reduceIte]
                               repeat' (first | refine And.intro ?_ ?_ | intro hg)
                               all_goals (try simp (disch := omega) only [wrap_fits])
                               all_goals first
                                 | (refine hK _ _ ?_; exact Red.auto)
                                 | exact trivial
                                 | assumption
                                 | omega
                                 | exact wrap_fits (by omega) (by omega)
                                 | (simp_all; done)
                                 | (simp_all; omega))
                            | (simp_all; done)
                            | (simp_all; omega)
                        · clear hr0 hr1 hp2
                          refine awp_ret ?_
                          (try simp only [Thn, InBlk, ↓reduceIte, Nat.reduceEqDiff])
                          obtain rfl := Option.some.inj h
                          refine ⟨by simp, _, [0], (by simp only [go_sem, Nat.reduceBEq, Nat.reduceLT, Nat.reduceAdd, Nat.reduceLeDiff, Nat.reduceSub, Nat.reduceEqDiff, Int.reduceToNat, reduceCtorEq, ↓reduceIte]; exact rfl), ?_, ?_, ?_, ?_⟩
                          · first | exact trivial | exact ⟨trivial, trivial⟩ | exact ⟨trivial, trivial, trivial⟩ | exact ⟨trivial, trivial, trivial, trivial⟩ | (simp only [allP, and_true, true_and]; done) | (simp only [allP, and_true, true_and]; omega)
                          · simp [selOk, pos]
                          · simp
                          · first | exact ⟨rfl, rfl⟩ | (simp only [go_sem, Nat.reduceBEq, Nat.reduceLT, Nat.reduceAdd, Nat.reduceLeDiff, Nat.reduceSub, Nat.reduceEqDiff, Int.reduceToNat, reduceCtorEq, ↓reduceIte]; done) | (simp [go_sem, Nat.reduceBEq, Nat.reduceLT, Nat.reduceAdd, Nat.reduceLeDiff, Nat.reduceSub, Nat.reduceEqDiff, Int.reduceToNat, reduceCtorEq, ↓reduceIte]; done) | (simp only [go_sem, Nat.reduceBEq, Nat.reduceLT, Nat.reduceAdd, Nat.reduceLeDiff, Nat.reduceSub, Nat.reduceEqDiff, Int.reduceToNat, reduceCtorEq, ↓reduceIte]; exact ⟨rfl, rfl⟩) | (simp_all [go_sem, Nat.reduceBEq, Nat.reduceLT, Nat.reduceAdd, Nat.reduceLeDiff, Nat.reduceSub, Nat.reduceEqDiff, Int.reduceToNat, reduceCtorEq, ↓reduceIte]; done)
                    · try dsimp only [Sum.elim_inl, Sum.elim_inr] at h
                      try dsimp only [Sum.elim_inl, Sum.elim_inr]
                      (try simp only [Thn, InBlk, ↓reduceIte, Nat.reduceEqDiff])
                      obtain rfl := Option.some.inj h
                      refine ⟨by simp, _, [0], (by simp only [go_sem, Nat.reduceBEq, Nat.reduceLT, Nat.reduceAdd, Nat.reduceLeDiff, Nat.reduceSub, Nat.reduceEqDiff, Int.reduceToNat, reduceCtorEq, ↓reduceIte]; exact rfl), ?_, ?_, ?_, ?_⟩
                      · first | exact trivial | exact ⟨trivial, trivial⟩ | exact ⟨trivial, trivial, trivial⟩ | exact ⟨trivial, trivial, trivial, trivial⟩ | (simp only [allP, and_true, true_and]; done) | (simp only [allP, and_true, true_and]; omega)
                      · simp [selOk, pos]
                      · simp
                      · first | exact ⟨rfl, rfl⟩ | (simp only [go_sem, Nat.reduceBEq, Nat.reduceLT, Nat.reduceAdd, Nat.reduceLeDiff, Nat.reduceSub, Nat.reduceEqDiff, Int.reduceToNat, reduceCtorEq, ↓reduceIte]; done) | (simp [go_sem, Nat.reduceBEq, Nat.reduceLT, Nat.reduceAdd, Nat.reduceLeDiff, Nat.reduceSub, Nat.reduceEqDiff, Int.reduceToNat, reduceCtorEq, ↓reduceIte]; done) | (simp only [go_sem, Nat.reduceBEq, Nat.reduceLT, Nat.reduceAdd, Nat.reduceLeDiff, Nat.reduceSub, Nat.reduceEqDiff, Int.reduceToNat, reduceCtorEq, ↓reduceIte]; exact ⟨rfl, rfl⟩) | (simp_all [go_sem, Nat.reduceBEq, Nat.reduceLT, Nat.reduceAdd, Nat.reduceLeDiff, Nat.reduceSub, Nat.reduceEqDiff, Int.reduceToNat, reduceCtorEq, ↓reduceIte]; done)
end Go.Proofs.Ytngpllgpfndkkaa

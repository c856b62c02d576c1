/- The code computes the functions that were taken out of it. -/
import Derived.Test.YtngpllgpfndkkaaLh1
set_option maxRecDepth 100000
set_option maxHeartbeats 4000000
set_option linter.unusedSimpArgs false
set_option linter.unusedVariables false
namespace Go.Proofs.Ytngpllgpfndkkaa
open Go Go.Av
attribute [local irreducible] wpA OpK awp
attribute [local go_sem] pw8_32 pw16_32 pw24_32 pw27_32 buildQ placesOf buildCells List.toList_toArray vcQg gfind gfree gput un3_agg unI_int unB_bool unK_int guardU skipV resVs resV vcD_nil vcD_cons vcT_fin vcT_free vcT_one vcT_two opS vcD1 roH roOb ftNone ftAdd oneOrTup AV.detup AV.ren AV.ren2 AV.ren1 pos selH AObj.ren fitAll fit fit1 fit1s matchAll matchOb exIds AObj.excl Env.killp pastH setAll upId AObj.past AObj.back AV.killp AV.killp1 AV.killp2 Nat.sub_self Nat.lt_irrefl Bool.or_self vcOps vcOp vcQs vcQ dstOk quiet eff pcall plain valsOf ev ofConst argEnv List.lookup Nat.add_eq decide_true decide_false Env.put binV wrapTo unV convV loadQ indexQ callQ builtinQ rd globC AObj.globC partAV isAggD isArrayD addrAdd boxE storeE makeE buildSliceE buildFold appendE sliceE boundAV subObj asCells Value.oneCell' contZero Cont.sets Cont.app Cont.sub Cont.len Cont.esz Cont.cell Cont.cells Cont.flat AV.det AV.det1 guardV AObj.unview AObj.kill Env.kill AV.kill AV.kill1 AV.kill2 fits64 Option.getD_some Option.getD_none Option.map_some Option.map_none Option.bind_some List.map_cons List.map_nil List.getElem?_cons_zero List.getElem?_cons_succ List.getElem?_nil true_and and_true List.getElem?_toArray List.cons_append List.nil_append List.length_cons List.length_nil List.set_cons_zero List.set_cons_succ List.take_succ_cons List.take_zero List.drop_succ_cons List.drop_zero List.drop_nil List.take_nil List.contains_cons List.contains_nil List.elem_cons List.elem_nil Bool.not_true Bool.not_false Bool.false_eq_true Bool.or_false Bool.or_true Bool.and_true Bool.and_false Bool.true_and Bool.false_and List.all_cons List.all_nil List.size_toArray Nat.lt_add_one Nat.zero_lt_succ Nat.one_ne_zero Nat.zero_ne_one and_self List.replicate_succ List.replicate_zero Int.toNat_natCast Int.toNat_zero Value.cells false_implies true_implies forall_const Thn InBlk Nat.zero_add Nat.add_zero Int.zero_add Ele Env.ren Option.some.injEq AV.v.injEq AV.sl.injEq AV.pp.injEq AV.ep.injEq AV.agg.injEq List.cons.injEq Value.int.injEq Value.bool.injEq Value.string.injEq true_or or_true or_false false_or tsz0 tby0 tz0 Try.underlying0 tsz1 tby1 tz1 Try.underlying1 tsz2 tby2 tz2 Try.underlying2 tsz3 tby3 tz3 Try.underlying3 tsz4 tby4 tz4 Try.underlying4 tsz5 tby5 tz5 Try.underlying5 tsz6 tby6 tz6 Try.underlying6 tsz7 tby7 tz7 Try.underlying7 fo7_0 fo7_1 fo7_2 fo7_3 tsz8 tby8 tz8 Try.underlying8 fo8_0 fo8_1 fo8_2 fo8_3 tsz9 tby9 Try.underlying9 tsz10 tby10 Try.underlying10 tsz11 tby11 Try.underlying11 tsz12 tby12 tz12 Try.underlying12 tsz13 tby13 Try.underlying13 fo13_0 fo13_1 tsz14 tby14 Try.underlying14 fo14_0 fo14_1 tsz15 tby15 tz15 Try.underlying15 tsz16 tby16 tz16 Try.underlying16 tsz17 tby17 tz17 Try.underlying17 tsz18 tby18 tz18 Try.underlying18 fo18_0 tsz19 tby19 tz19 Try.underlying19 fo19_0 tsz20 tby20 tz20 Try.underlying20 tsz21 tby21 tz21 Try.underlying21 tsz22 tby22 tz22 Try.underlying22 tsz23 tby23 tz23 Try.underlying23 fo23_0 fo23_1 tsz24 tby24 tz24 Try.underlying24 fo24_0 fo24_1 tsz25 tby25 tz25 Try.underlying25 tsz26 tby26 tz26 Try.underlying26 tsz27 tby27 tz27 Try.underlying27 tsz28 tby28 tz28 Try.underlying28 tsz29 tby29 tz29 Try.underlying29 fo29_0 fo29_1 tsz30 tby30 tz30 Try.underlying30 fo30_0 fo30_1 tsz31 tby31 tz31 Try.underlying31 tsz32 tby32 tz32 Try.underlying32 tsz33 tby33 tz33 Try.underlying33 tsz34 tby34 tz34 Try.underlying34 tsz35 tby35 tz35 Try.underlying35 tsz36 tby36 tz36 Try.underlying36 tsz37 tby37 tz37 Try.underlying37 tsz38 tby38 tz38 Try.underlying38 tsz39 tby39 tz39 Try.underlying39 tsz40 tby40 tz40 Try.underlying40 tsz41 tby41 tz41 Try.underlying41 tsz42 tby42 tz42 Try.underlying42 tsz43 tby43 tz43 Try.underlying43 tsz44 tby44 tz44 Try.underlying44 tsz45 tby45 tz45 Try.underlying45 tsz46 tby46 tz46 Try.underlying46 tsz47 tby47 tz47 Try.underlying47 tsz48 tby48 tz48 Try.underlying48 tsz49 tby49 tz49 Try.underlying49 tsz50 tby50 tz50 Try.underlying50 tsz51 tby51 tz51 Try.underlying51 tsz52 tby52 tz52 Try.underlying52 tsz53 tby53 tz53 Try.underlying53 tsz54 tby54 tz54 Try.underlying54 tsz55 tby55 tz55 Try.underlying55 tsz56 tby56 tz56 Try.underlying56 tsz57 tby57 tz57 Try.underlying57 tsz58 tby58 tz58 Try.underlying58 tsz59 tby59 tz59 Try.underlying59 fo59_0 fo59_1 fo59_2 tsz60 tby60 tz60 Try.underlying60 fo60_0 fo60_1 fo60_2 tsz61 tby61 tz61 Try.underlying61 tsz62 tby62 tz62 Try.underlying62 tsz63 tby63 tz63 Try.underlying63 tsz64 tby64 tz64 Try.underlying64 tsz65 tby65 tz65 Try.underlying65 tsz66 tby66 tz66 Try.underlying66 tsz67 tby67 tz67 Try.underlying67 tsz68 tby68 tz68 Try.underlying68 tsz69 tby69 tz69 Try.underlying69 tsz70 tby70 tz70 Try.underlying70 tsz71 tby71 tz71 Try.underlying71 tsz72 tby72 tz72 Try.underlying72 tsz73 tby73 tz73 Try.underlying73 tsz74 tby74 tz74 Try.underlying74 tsz75 tby75 tz75 Try.underlying75 tsz76 tby76 tz76 Try.underlying76 tsz77 tby77 tz77 Try.underlying77 tsz78 tby78 tz78 Try.underlying78 tsz79 tby79 tz79 Try.underlying79 tsz80 tby80 tz80 Try.underlying80 tsz81 tby81 tz81 Try.underlying81 fo81_0 fo81_1 fo81_2 tsz82 tby82 tz82 Try.underlying82 tsz83 tby83 tz83 Try.underlying83 fo83_0 fo83_1 tsz84 tby84 tz84 Try.underlying84 fo84_0 fo84_1 tsz85 tby85 tz85 Try.underlying85 tsz86 tby86 tz86 Try.underlying86 tsz87 tby87 tz87 Try.underlying87 tsz88 tby88 tz88 Try.underlying88 tsz89 tby89 tz89 Try.underlying89 tsz90 tby90 tz90 Try.underlying90 tsz91 tby91 tz91 Try.underlying91 tsz92 tby92 tz92 Try.underlying92 tsz93 tby93 tz93 Try.underlying93 tsz94 tby94 tz94 Try.underlying94 tsz95 tby95 tz95 Try.underlying95 tsz96 tby96 Try.underlying96 fo96_0 fo96_1 fo96_2 fo96_3 tsz97 tby97 Try.underlying97 fo97_0 fo97_1 fo97_2 fo97_3 tsz98 tby98 tz98 Try.underlying98 tsz99 tby99 tz99 Try.underlying99 tsz100 tby100 tz100 Try.underlying100 tsz101 tby101 tz101 Try.underlying101 tsz102 tby102 tz102 Try.underlying102 tsz103 tby103 tz103 Try.underlying103 tsz104 tby104 tz104 Try.underlying104 tsz105 tby105 tz105 Try.underlying105 tsz106 tby106 tz106 Try.underlying106 tsz107 tby107 tz107 Try.underlying107 tsz108 tby108 tz108 Try.underlying108 fo108_0 fo108_1 fo108_2 fo108_3 fo108_4 fo108_5 fo108_6 fo108_7 fo108_8 fo108_9 fo108_10 tsz109 tby109 tz109 Try.underlying109 fo109_0 fo109_1 fo109_2 fo109_3 fo109_4 fo109_5 fo109_6 fo109_7 fo109_8 fo109_9 fo109_10 tsz110 tby110 tz110 Try.underlying110 l1InG eqEdgeG l4BeforeG isNaNG cmpIntG cmpEndsG toEdgeG ftC
theorem k_spec_l20Graph (a0_0 : List Int) (a0_1 : Int) (a1 : Int) {r : Int × (List (Int × Int × Int)) × Int} (h : spec_l20Graph a0_0 a0_1 a1 = some r) :
    FnA Try.prog 50 [.pp 0 0, .v (.int .i64 a1)] [.box [.sl 1, .v (.int .i64 a0_1)], .row false (.ints .u8 a0_0)] [] (fun x H => x = .agg [.v (.int .i64 r.1), .sl 2] ∧ H = [.box [.sl 1, .v (.int .i64 r.2.2)], .row false (.ints .u8 a0_0), .row true (.trips r.2.1)]) := by
  unfold spec_l20Graph at h
  refine FnA.of (N := 72) (pin := [0, 1]) (rs := [.cell 4 30]) Try.func50 rfl en50 rfl rfl (by simp) (by simp; try omega) ?_
  refine awp_reg ftCOk [(0, .pp 0 0), (1, .v (.int .i64 a1)), (4, .pp 2 0)] [.box [.sl 1, .v (.int .i64 a0_1)], .row false (.ints .u8 a0_0), .box [.v (.int .i64 0), .v (.slice none 0 0)]] ?_
  replace h := bind_some h
  obtain ⟨⟨y, y_1⟩, hr0, h⟩ := h
  try dsimp only at h
  replace h := bind_some h
  obtain ⟨⟨y_2, y_3⟩, hr1, h⟩ := h
  try dsimp only at h
  replace h := chk_some h
  obtain ⟨hp2, h⟩ := h
  replace h := bind_some h
  obtain ⟨⟨y_4, y_5⟩, hr3, h⟩ := h
  try dsimp only at h
  replace h := chk_some h
  obtain ⟨hp4, h⟩ := h
  replace h := chk_some h
  obtain ⟨hp5, h⟩ := h
  refine awp_to [(0, .pp 0 0), (1, .v (.int .i64 a1)), (4, .pp 2 0), (5, .pp 5 0)] [.box [.sl 1, .v (.int .i64 y_5)], .row false (.ints .u8 a0_0), .box [.v (.int .i64 0), .v (.slice none 0 0)], .row true (.ints .i64 [y, (2 + y_2), 16, 0]), .row true (.ints .i64 [0, 1, 1, 1, 1, 1, 2, 3]), .box [.v (.int .i64 (([y, (2 + y_2), 16, 0] : List Int).getD ((([0, 1, 1, 1, 1, 1, 2, 3] : List Int).getD y_4.toNat 0).toNat) 0)), .v (.slice none 0 0)]] ?_ ?_
  · clear h
    intro K hK
    refine awp_region ftCOk ?_
    simp (maxSteps := 4000000) only [go_sem, Nat.reduceBEq, Nat.reduceLT, Nat.reduceAdd, Nat.reduceLeDiff, Nat.reduceSub, Nat.reduceEqDiff, Int.reduceToNat, reduceCtorEq, ↓reduceIte]
    repeat' (first | refine And.intro ?_ ?_ | intro hg)
    all_goals (try simp (disch := omega) only [wrap_fits])
    all_goals first
      | (refine hK _ _ ?_; exact Red.auto)
      | exact trivial
      | assumption
      | omega
      | exact wrap_fits (by omega) (by omega)
      | (refine wpA_callA (k_spec_l20Rd_pick a0_0 a0_1 9 (h := hr0)) [0, 1] [] ?_
         rintro x Hc' ⟨rfl, rfl⟩ hlen
         refine vcOps_sound ftCOk ?_
         simp (maxSteps := 4000000) only [go_sem, Nat.reduceBEq, Nat.reduceLT, Nat.reduceAdd, Nat.reduceLeDiff, Nat.reduceSub, Nat.reduceEqDiff, Int.reduceToNat, reduceCtorEq, ↓reduceIte]
         repeat' (first | refine And.intro ?_ ?_ | intro hg)
         all_goals (try simp (disch := omega) only [wrap_fits])
         all_goals first
           | (refine hK _ _ ?_; exact Red.auto)
           | exact trivial
           | assumption
           | omega
           | exact wrap_fits (by omega) (by omega)
           | (refine wpA_callA (k_spec_l20Rd_pick a0_0 y_1 7 (h := hr1)) [0, 1] [] ?_
              rintro x Hc' ⟨rfl, rfl⟩ hlen
              refine vcOps_sound ftCOk ?_
              simp (maxSteps := 4000000) only [go_sem, Nat.reduceBEq, Nat.reduceLT, Nat.reduceAdd, Nat.reduceLeDiff, Nat.reduceSub, Nat.reduceEqDiff, Int.reduceToNat, reduceCtorEq, ↓reduceIte]
              repeat' (first | refine And.intro ?_ ?_ | intro hg)
              all_goals (try simp (disch := omega) only [wrap_fits])
              all_goals first
                | (refine hK _ _ ?_; exact Red.auto)
                | exact trivial
                | assumption
                | omega
                | exact wrap_fits (by omega) (by omega)
                | (refine wpA_callA (k_spec_l20Rd_pick a0_0 y_3 8 (h := hr3)) [0, 1] [] ?_
                   rintro x Hc' ⟨rfl, rfl⟩ hlen
                   refine vcOps_sound ftCOk ?_
                   simp (maxSteps := 4000000) only [go_sem, Nat.reduceBEq, Nat.reduceLT, Nat.reduceAdd, Nat.reduceLeDiff, Nat.reduceSub, Nat.reduceEqDiff, Int.reduceToNat, reduceCtorEq, ↓reduceIte]
                   repeat' (first | refine And.intro ?_ ?_ | intro hg)
                   all_goals (try simp (disch := omega) only [wrap_fits])
                   all_goals first
                     | (refine hK _ _ ?_; exact Red.auto)
                     | exact trivial
                     | assumption
                     | omega
                     | exact wrap_fits (by omega) (by omega)
                     | (simp_all; done)
                     | (simp_all; omega))
                | (simp_all; done)
                | (simp_all; omega))
           | (simp_all; done)
           | (simp_all; omega))
      | (simp_all; done)
      | (simp_all; omega)
  · clear hr0 hr1 hp2 hr3 hp4 hp5
    refine awp_seq fun K18 hK18 => ?_
    replace h := bind_some h
    obtain ⟨⟨y_6, y_7⟩, hr0, h⟩ := h
    try dsimp only at h
    refine awp_to [(0, .pp 0 0), (1, .v (.int .i64 a1)), (4, .pp 2 0), (5, .pp 5 0), (6, .v (.int .i64 y_6))] [.box [.sl 1, .v (.int .i64 y_7)], .row false (.ints .u8 a0_0), .box [.v (.int .i64 0), .v (.slice none 0 0)], .row true (.ints .i64 [y, (2 + y_2), 16, 0]), .row true (.ints .i64 [0, 1, 1, 1, 1, 1, 2, 3]), .box [.v (.int .i64 (([y, (2 + y_2), 16, 0] : List Int).getD ((([0, 1, 1, 1, 1, 1, 2, 3] : List Int).getD y_4.toNat 0).toNat) 0)), .v (.slice none 0 0)]] ?_ ?_
    · clear h
      intro K hK
      refine awp_region ftCOk ?_
      simp (maxSteps := 4000000) only [go_sem, Nat.reduceBEq, Nat.reduceLT, Nat.reduceAdd, Nat.reduceLeDiff, Nat.reduceSub, Nat.reduceEqDiff, Int.reduceToNat, reduceCtorEq, ↓reduceIte]
      repeat' (first | refine And.intro ?_ ?_ | intro hg)
      all_goals (try simp (disch := omega) only [wrap_fits])
      all_goals first
        | (refine hK _ _ ?_; exact Red.auto)
        | exact trivial
        | assumption
        | omega
        | exact wrap_fits (by omega) (by omega)
        | (refine wpA_callA (k_spec_l20Rd_pick a0_0 y_5 14 (h := hr0)) [0, 1] [] ?_
           rintro x Hc' ⟨rfl, rfl⟩ hlen
           refine vcOps_sound ftCOk ?_
           simp (maxSteps := 4000000) only [go_sem, Nat.reduceBEq, Nat.reduceLT, Nat.reduceAdd, Nat.reduceLeDiff, Nat.reduceSub, Nat.reduceEqDiff, Int.reduceToNat, reduceCtorEq, ↓reduceIte]
           repeat' (first | refine And.intro ?_ ?_ | intro hg)
           all_goals (try simp (disch := omega) only [wrap_fits])
           all_goals first
             | (refine hK _ _ ?_; exact Red.auto)
             | exact trivial
             | assumption
             | omega
             | exact wrap_fits (by omega) (by omega)
             | (simp_all; done)
             | (simp_all; omega))
        | (simp_all; done)
        | (simp_all; omega)
    · clear hr0
      refine awp_block ?_
      replace h := bind_some h
      obtain ⟨x35, hx, h⟩ := h
      refine awp_loopL hx (fun ((t6, p0_1, t5_0, t5_1s) : Int × Int × Int × (List (Int × Int × Int))) => [(0, .pp 0 0), (1, .v (.int .i64 a1)), (4, .pp 2 0), (5, .pp 4 0), (6, .v (.int .i64 t6))]) (fun ((t6, p0_1, t5_0, t5_1s) : Int × Int × Int × (List (Int × Int × Int))) => [.box [.sl 1, .v (.int .i64 p0_1)], .row false (.ints .u8 a0_0), .box [.v (.int .i64 0), .sl 3], .row true (.trips []), .box [.v (.int .i64 t5_0), .sl 5], .row true (.trips t5_1s)]) (fun ((p0_1_1, t5_0_1, t5_1s_1) : Int × Int × (List (Int × Int × Int))) => Exit.exit 0) (fun ((p0_1_1, t5_0_1, t5_1s_1) : Int × Int × (List (Int × Int × Int))) => [(0, .pp 0 0), (1, .v (.int .i64 a1)), (4, .pp 2 0), (5, .pp 4 0)]) (fun ((p0_1_1, t5_0_1, t5_1s_1) : Int × Int × (List (Int × Int × Int))) => [.box [.sl 1, .v (.int .i64 p0_1_1)], .row false (.ints .u8 a0_0), .box [.v (.int .i64 0), .sl 3], .row true (.trips []), .box [.v (.int .i64 t5_0_1), .sl 5], .row true (.trips t5_1s_1)]) ?_ ?_ ?_ ?_
      · rintro ⟨p0_1_1, t5_0_1, t5_1s_1⟩ hy <;> cases hy
      · clear h hx
        refine Red.trans (Red.nilCell (o := 2) (i := 1) (.trips []) rfl rfl rfl) ?_
        refine Red.trans (Red.nilCell (o := 5) (i := 1) (.trips []) rfl rfl rfl) ?_
        exact Red.selA [0, 1, 2, 6, 5, 7] Red.auto
      · clear h hx
        rintro ⟨t6, p0_1, t5_0, t5_1s⟩ r h
        unfold spec_l20Graph_b0 at h
        try dsimp only at h
        try dsimp only
        refine awp_seq fun K32 hK32 => ?_
        refine awp_reg ftCOk [(0, .pp 0 0), (1, .v (.int .i64 a1)), (4, .pp 2 0), (5, .pp 4 0), (6, .v (.int .i64 t6)), (24, .v (.bool (decide (0 < t6))))] [.box [.sl 1, .v (.int .i64 p0_1)], .row false (.ints .u8 a0_0), .box [.v (.int .i64 0), .sl 3], .row true (.trips []), .box [.v (.int .i64 t5_0), .sl 5], .row true (.trips t5_1s)] ?_
        refine awp_cond (t := 24) rfl (fun hc33 => ?_) (fun hc33 => ?_)
        · replace h := bite_t h hc33
          refine awp_skip ?_
          (try simp only [Thn, InBlk, ↓reduceIte, Nat.reduceEqDiff])
          refine hK32 _ _ ?_
          clear hK32
          refine awp_seq fun K34 hK34 => ?_
          refine awp_block ?_
          replace h := bind_some h
          obtain ⟨⟨y_8, y_9, y_10, y_11⟩, hr0, h⟩ := h
          try dsimp only at h
          replace h := bind_some h
          obtain ⟨⟨y_12, y_13, y_14⟩, hr1, h⟩ := h
          try dsimp only at h
          refine awp_end [(0, .pp 0 0), (1, .v (.int .i64 a1)), (4, .pp 2 0), (5, .pp 4 0), (6, .v (.int .i64 t6))] [.box [.sl 1, .v (.int .i64 y_11)], .row false (.ints .u8 a0_0), .box [.v (.int .i64 0), .sl 3], .row true (.trips []), .box [.v (.int .i64 y_12), .sl 6], .row true (.trips t5_1s), .row true (.trips y_13)] ?_ ?_
          · clear h
            intro K hK
            refine awp_drawT mixed ftCOk (.free 1 (.free 2 (.two 0 3 (.one 3 (.one 4 (.one 5 (.one 6 (.free 7 (.free 8 (.one 9 .fin))))))) (.two 0 4 (.one 4 (.one 5 (.one 6 (.free 7 (.free 8 (.one 9 .fin)))))) (.one 0 (.one 5 (.one 6 (.free 7 (.free 8 (.one 9 .fin)))))))))) (by kernel_rfl) (by simp) ?_
            simp (maxSteps := 4000000) only [go_sem, Nat.reduceBEq, Nat.reduceLT, Nat.reduceAdd, Nat.reduceLeDiff, Nat.reduceSub, Nat.reduceEqDiff, Int.reduceToNat, reduceCtorEq, ↓reduceIte]
            repeat' (first | refine And.intro ?_ ?_ | intro hg)
            all_goals (try simp (disch := omega) only [wrap_fits])
            all_goals first
              | (refine hK _ _ ?_; exact Red.auto)
              | exact trivial
              | assumption
              | omega
              | exact wrap_fits (by omega) (by omega)
              | (refine OpK_callA (k_spec_l20Edge a0_0 p0_1 t5_0 (h := hr0)) [0, 1] [] ?_
                 rintro x Hc' ⟨rfl, rfl⟩ hlen
                 simp (maxSteps := 4000000) only [go_sem, Nat.reduceBEq, Nat.reduceLT, Nat.reduceAdd, Nat.reduceLeDiff, Nat.reduceSub, Nat.reduceEqDiff, Int.reduceToNat, reduceCtorEq, ↓reduceIte]
                 repeat' (first | refine And.intro ?_ ?_ | intro hg)
                 all_goals (try simp (disch := omega) only [wrap_fits])
                 all_goals first
                   | (refine hK _ _ ?_; exact Red.auto)
                   | exact trivial
                   | assumption
                   | omega
                   | exact wrap_fits (by omega) (by omega)
                   | (refine OpK_callA (k_spec_AddEdge t5_0 t5_1s y_8 y_9 y_10 (h := hr1)) [5] [] ?_
                      rintro x Hc' ⟨rfl, rfl⟩ hlen
                      simp (maxSteps := 4000000) only [go_sem, Nat.reduceBEq, Nat.reduceLT, Nat.reduceAdd, Nat.reduceLeDiff, Nat.reduceSub, Nat.reduceEqDiff, Int.reduceToNat, reduceCtorEq, ↓reduceIte]
                      repeat' (first | refine And.intro ?_ ?_ | intro hg)
                      all_goals (try simp (disch := omega) only [wrap_fits])
                      all_goals first
                        | (refine hK _ _ ?_; exact Red.auto)
                        | exact trivial
                        | assumption
                        | omega
                        | exact wrap_fits (by omega) (by omega)
                        | (simp_all; done)
                        | (simp_all; omega))
                   | (simp_all; done)
                   | (simp_all; omega))
              | (simp_all; done)
              | (simp_all; omega)
          · clear hr0 hr1
            (try simp only [Thn, InBlk, ↓reduceIte, Nat.reduceEqDiff])
            (try simp only [Thn, InBlk, ↓reduceIte, Nat.reduceEqDiff])
            refine hK34 _ _ ?_
            clear hK34
            replace h := chk_some h
            obtain ⟨hp0, h⟩ := h
            have hwhp0 := wrap_fits hp0.1 hp0.2
            refine awp_regE ftCOk [(0, .pp 0 0), (1, .v (.int .i64 a1)), (4, .pp 2 0), (5, .pp 4 0), (6, .v (.int .i64 (t6 - 1)))] [.box [.sl 1, .v (.int .i64 y_11)], .row false (.ints .u8 a0_0), .box [.v (.int .i64 0), .sl 3], .row true (.trips []), .box [.v (.int .i64 y_12), .sl 6], .row true (.trips t5_1s), .row true (.trips y_13)] ?_
            clear hp0
            obtain rfl := Option.some.inj h
            refine LoopQ.next ?_
            exact Red.selA [0, 1, 2, 3, 4, 6] Red.auto
        · replace h := bite_f h hc33
          refine awp_exit ?_
          (try simp only [Thn, InBlk, ↓reduceIte, Nat.reduceEqDiff])
          obtain rfl := Option.some.inj h
          refine LoopQ.out rfl ?_
          exact Red.auto
      · clear hx
        rcases x35 with ⟨p0_1_1, t5_0_1, t5_1s_1⟩
        · try dsimp only [Sum.elim_inl, Sum.elim_inr] at h
          try dsimp only [Sum.elim_inl, Sum.elim_inr]
          (try simp only [Thn, InBlk, ↓reduceIte, Nat.reduceEqDiff])
          (try simp only [Thn, InBlk, ↓reduceIte, Nat.reduceEqDiff])
          (try simp only [Thn, InBlk, ↓reduceIte, Nat.reduceEqDiff])
          refine hK18 _ _ ?_
          clear hK18
          refine awp_join h (fun ((p0_1_2, t5_0_2, t5_1s_2) : Int × Int × (List (Int × Int × Int))) => [(4, .pp 2 0), (5, .pp 4 0)]) (fun ((p0_1_2, t5_0_2, t5_1s_2) : Int × Int × (List (Int × Int × Int))) => [.box [.sl 1, .v (.int .i64 p0_1_2)], .row false (.ints .u8 a0_0), .box [.v (.int .i64 0), .sl 3], .row true (.trips []), .box [.v (.int .i64 t5_0_2), .sl 5], .row true (.trips t5_1s_2)]) ?_ ?_
          · clear h
            intro k h
            try dsimp only at h
            replace h := bind_some h
            obtain ⟨⟨y_15, y_16⟩, hr0, h⟩ := h
            try dsimp only at h
            refine awp_to [(0, .pp 0 0), (4, .pp 2 0), (5, .pp 4 0), (38, .v (.bool y_15))] [.box [.sl 1, .v (.int .i64 y_16)], .row false (.ints .u8 a0_0), .box [.v (.int .i64 0), .sl 3], .row true (.trips []), .box [.v (.int .i64 t5_0_1), .sl 5], .row true (.trips t5_1s_1)] ?_ ?_
            · clear h
              intro K hK
              refine awp_region ftCOk ?_
              simp (maxSteps := 4000000) only [go_sem, Nat.reduceBEq, Nat.reduceLT, Nat.reduceAdd, Nat.reduceLeDiff, Nat.reduceSub, Nat.reduceEqDiff, Int.reduceToNat, reduceCtorEq, ↓reduceIte]
              repeat' (first | refine And.intro ?_ ?_ | intro hg)
              all_goals (try simp (disch := omega) only [wrap_fits])
              all_goals first
                | (refine hK _ _ ?_; exact Red.auto)
                | exact trivial
                | assumption
                | omega
                | exact wrap_fits (by omega) (by omega)
                | (refine wpA_callA (k_spec_l20Rd_odd a0_0 p0_1_1 a1 (h := hr0)) [0, 1] [] ?_
                   rintro x Hc' ⟨rfl, rfl⟩ hlen
                   refine vcOps_sound ftCOk ?_
                   simp (maxSteps := 4000000) only [go_sem, Nat.reduceBEq, Nat.reduceLT, Nat.reduceAdd, Nat.reduceLeDiff, Nat.reduceSub, Nat.reduceEqDiff, Int.reduceToNat, reduceCtorEq, ↓reduceIte]
                   repeat' (first | refine And.intro ?_ ?_ | intro hg)
                   all_goals (try simp (disch := omega) only [wrap_fits])
                   all_goals first
                     | (refine hK _ _ ?_; exact Red.auto)
                     | exact trivial
                     | assumption
                     | omega
                     | exact wrap_fits (by omega) (by omega)
                     | (simp_all; done)
                     | (simp_all; omega))
                | (simp_all; done)
                | (simp_all; omega)
            · clear hr0
              refine awp_cond (t := 38) rfl (fun hc40 => ?_) (fun hc40 => ?_)
              · replace h := bite_t h hc40
                replace h := bind_some h
                obtain ⟨⟨y_17, y_18⟩, hr0, h⟩ := h
                try dsimp only at h
                refine awp_to [(0, .pp 0 0), (4, .pp 2 0), (5, .pp 4 0), (40, .v (.int .i64 y_17))] [.box [.sl 1, .v (.int .i64 y_18)], .row false (.ints .u8 a0_0), .box [.v (.int .i64 0), .sl 3], .row true (.trips []), .box [.v (.int .i64 t5_0_1), .sl 5], .row true (.trips t5_1s_1)] ?_ ?_
                · clear h
                  intro K hK
                  refine awp_region ftCOk ?_
                  simp (maxSteps := 4000000) only [go_sem, Nat.reduceBEq, Nat.reduceLT, Nat.reduceAdd, Nat.reduceLeDiff, Nat.reduceSub, Nat.reduceEqDiff, Int.reduceToNat, reduceCtorEq, ↓reduceIte]
                  repeat' (first | refine And.intro ?_ ?_ | intro hg)
                  all_goals (try simp (disch := omega) only [wrap_fits])
                  all_goals first
                    | (refine hK _ _ ?_; exact Red.auto)
                    | exact trivial
                    | assumption
                    | omega
                    | exact wrap_fits (by omega) (by omega)
                    | (refine wpA_callA (k_spec_l20Rd_pick a0_0 y_16 4 (h := hr0)) [0, 1] [] ?_
                       rintro x Hc' ⟨rfl, rfl⟩ hlen
                       refine vcOps_sound ftCOk ?_
                       simp (maxSteps := 4000000) only [go_sem, Nat.reduceBEq, Nat.reduceLT, Nat.reduceAdd, Nat.reduceLeDiff, Nat.reduceSub, Nat.reduceEqDiff, Int.reduceToNat, reduceCtorEq, ↓reduceIte]
                       repeat' (first | refine And.intro ?_ ?_ | intro hg)
                       all_goals (try simp (disch := omega) only [wrap_fits])
                       all_goals first
                         | (refine hK _ _ ?_; exact Red.auto)
                         | exact trivial
                         | assumption
                         | omega
                         | exact wrap_fits (by omega) (by omega)
                         | (simp_all; done)
                         | (simp_all; omega))
                    | (simp_all; done)
                    | (simp_all; omega)
                · clear hr0
                  refine awp_block ?_
                  refine awp_reg ftCOk [(0, .pp 0 0), (4, .pp 2 0), (5, .pp 4 0), (40, .v (.int .i64 y_17)), (47, .v (.bool (y_17 == 0)))] [.box [.sl 1, .v (.int .i64 y_18)], .row false (.ints .u8 a0_0), .box [.v (.int .i64 0), .sl 3], .row true (.trips []), .box [.v (.int .i64 t5_0_1), .sl 5], .row true (.trips t5_1s_1)] ?_
                  refine awp_cond (t := 47) rfl (fun hc41 => ?_) (fun hc41 => ?_)
                  · replace h := bite_t h hc41
                    replace h := bind_some h
                    obtain ⟨⟨y_19, y_20⟩, hr0, h⟩ := h
                    try dsimp only at h
                    replace h := chk_some h
                    obtain ⟨hp1, h⟩ := h
                    refine awp_end [(4, .pp 2 0), (5, .pp 4 0)] [.box [.sl 1, .v (.int .i64 y_20)], .row false (.ints .u8 a0_0), .box [.v (.int .i64 0), .sl 3], .row true (.trips []), .box [.v (.int .i64 (([(-1), 17] : List Int).getD y_19.toNat 0)), .sl 5], .row true (.trips t5_1s_1), .row true (.ints .i64 [(-1), 17])] ?_ ?_
                    · clear h
                      intro K hK
                      refine awp_region ftCOk ?_
                      simp (maxSteps := 4000000) only [go_sem, Nat.reduceBEq, Nat.reduceLT, Nat.reduceAdd, Nat.reduceLeDiff, Nat.reduceSub, Nat.reduceEqDiff, Int.reduceToNat, reduceCtorEq, ↓reduceIte]
                      repeat' (first | refine And.intro ?_ ?_ | intro hg)
                      all_goals (try simp (disch := omega) only [wrap_fits])
                      all_goals first
                        | (refine hK _ _ ?_; exact Red.auto)
                        | exact trivial
                        | assumption
                        | omega
                        | exact wrap_fits (by omega) (by omega)
                        | (refine wpA_callA (k_spec_l20Rd_pick a0_0 y_18 2 (h := hr0)) [0, 1] [] ?_
                           rintro x Hc' ⟨rfl, rfl⟩ hlen
                           refine vcOps_sound ftCOk ?_
                           simp (maxSteps := 4000000) only [go_sem, Nat.reduceBEq, Nat.reduceLT, Nat.reduceAdd, Nat.reduceLeDiff, Nat.reduceSub, Nat.reduceEqDiff, Int.reduceToNat, reduceCtorEq, ↓reduceIte]
                           repeat' (first | refine And.intro ?_ ?_ | intro hg)
                           all_goals (try simp (disch := omega) only [wrap_fits])
                           all_goals first
                             | (refine hK _ _ ?_; exact Red.auto)
                             | exact trivial
                             | assumption
                             | omega
                             | exact wrap_fits (by omega) (by omega)
                             | (simp_all; done)
                             | (simp_all; omega))
                        | (simp_all; done)
                        | (simp_all; omega)
                    · clear hr0 hp1
                      (try simp only [Thn, InBlk, ↓reduceIte, Nat.reduceEqDiff])
                      (try simp only [Thn, InBlk, ↓reduceIte, Nat.reduceEqDiff])
                      refine ⟨_, h, ?_⟩
                      exact Red.selA [0, 1, 2, 3, 4, 5] Red.auto
                  · replace h := bite_f h hc41
                    refine awp_reg ftCOk [(4, .pp 2 0), (5, .pp 4 0), (40, .v (.int .i64 y_17)), (55, .v (.bool (y_17 == 1)))] [.box [.sl 1, .v (.int .i64 y_18)], .row false (.ints .u8 a0_0), .box [.v (.int .i64 0), .sl 3], .row true (.trips []), .box [.v (.int .i64 t5_0_1), .sl 5], .row true (.trips t5_1s_1)] ?_
                    refine awp_cond (t := 55) rfl (fun hc42 => ?_) (fun hc42 => ?_)
                    · replace h := bite_t h hc42
                      replace h := chk_some h
                      obtain ⟨hp0, h⟩ := h
                      refine awp_regE ftCOk [(4, .pp 2 0), (5, .pp 4 0)] [.box [.sl 1, .v (.int .i64 y_18)], .row false (.ints .u8 a0_0), .box [.v (.int .i64 0), .sl 3], .row true (.trips []), .box [.v (.int .i64 t5_0_1), .sl 5], .row true (.trips (t5_1s_1 ++ [(0, 0, 0)])), .row true (.trips [(0, 0, 0)])] ?_
                      clear hp0
                      (try simp only [Thn, InBlk, ↓reduceIte, Nat.reduceEqDiff])
                      (try simp only [Thn, InBlk, ↓reduceIte, Nat.reduceEqDiff])
                      refine ⟨_, h, ?_⟩
                      exact Red.selA [0, 1, 2, 3, 4, 5] Red.auto
                    · replace h := bite_f h hc42
                      refine awp_reg ftCOk [(4, .pp 2 0), (5, .pp 4 0), (63, .v (.bool (y_17 == 2)))] [.box [.sl 1, .v (.int .i64 y_18)], .row false (.ints .u8 a0_0), .box [.v (.int .i64 0), .sl 3], .row true (.trips []), .box [.v (.int .i64 t5_0_1), .sl 5], .row true (.trips t5_1s_1)] ?_
                      refine awp_cond (t := 63) rfl (fun hc43 => ?_) (fun hc43 => ?_)
                      · replace h := bite_t h hc43
                        replace h := chk_some h
                        obtain ⟨hp0, h⟩ := h
                        refine awp_regE ftCOk [(4, .pp 2 0), (5, .pp 4 0)] [.box [.sl 1, .v (.int .i64 y_18)], .row false (.ints .u8 a0_0), .box [.v (.int .i64 0), .sl 3], .row true (.trips []), .box [.v (.int .i64 t5_0_1), .sl 5], .row true (.trips (t5_1s_1 ++ [(0, 1, 21)])), .row true (.trips [(0, 1, 21)])] ?_
                        clear hp0
                        (try simp only [Thn, InBlk, ↓reduceIte, Nat.reduceEqDiff])
                        (try simp only [Thn, InBlk, ↓reduceIte, Nat.reduceEqDiff])
                        refine ⟨_, h, ?_⟩
                        exact Red.selA [0, 1, 2, 3, 4, 5] Red.auto
                      · replace h := bite_f h hc43
                        replace h := chk_some h
                        obtain ⟨hp0, h⟩ := h
                        refine awp_regE ftCOk [(4, .pp 2 0), (5, .pp 4 0)] [.box [.sl 1, .v (.int .i64 y_18)], .row false (.ints .u8 a0_0), .box [.v (.int .i64 0), .sl 3], .row true (.trips []), .box [.v (.int .i64 t5_0_1), .sl 6], .row true (.trips t5_1s_1), .row true (.trips ([(15, 0, 0)] ++ t5_1s_1))] ?_
                        clear hp0
                        (try simp only [Thn, InBlk, ↓reduceIte, Nat.reduceEqDiff])
                        (try simp only [Thn, InBlk, ↓reduceIte, Nat.reduceEqDiff])
                        refine ⟨_, h, ?_⟩
                        exact Red.selA [0, 1, 2, 3, 4, 6] Red.auto
              · replace h := bite_f h hc40
                refine awp_skip ?_
                (try simp only [Thn, InBlk, ↓reduceIte, Nat.reduceEqDiff])
                refine ⟨_, h, ?_⟩
                exact Red.auto
          · clear h
            rintro ⟨p0_1_2, t5_0_2, t5_1s_2⟩ h
            try dsimp only at h
            try dsimp only
            refine awp_reg ftCOk [(4, .pp 2 0)] [.box [.sl 1, .v (.int .i64 p0_1_2)], .row false (.ints .u8 a0_0), .box [.v (.int .i64 t5_0_2), .sl 5], .row true (.trips []), .box [.v (.int .i64 t5_0_2), .sl 5], .row true (.trips t5_1s_2)] ?_
            refine awp_ret ?_
            (try simp only [Thn, InBlk, ↓reduceIte, Nat.reduceEqDiff])
            obtain rfl := Option.some.inj h
            refine ⟨by simp, _, [0, 1, 5], (by simp only [go_sem, Nat.reduceBEq, Nat.reduceLT, Nat.reduceAdd, Nat.reduceLeDiff, Nat.reduceSub, Nat.reduceEqDiff, Int.reduceToNat, reduceCtorEq, ↓reduceIte]; exact rfl), ?_, ?_, ?_, ?_⟩
            · first | exact trivial | exact ⟨trivial, trivial⟩ | exact ⟨trivial, trivial, trivial⟩ | exact ⟨trivial, trivial, trivial, trivial⟩ | (simp only [allP, and_true, true_and]; done) | (simp only [allP, and_true, true_and]; omega)
            · simp [selOk, pos]
            · simp
            · first | exact ⟨rfl, rfl⟩ | (simp only [go_sem, Nat.reduceBEq, Nat.reduceLT, Nat.reduceAdd, Nat.reduceLeDiff, Nat.reduceSub, Nat.reduceEqDiff, Int.reduceToNat, reduceCtorEq, ↓reduceIte]; done) | (simp [go_sem, Nat.reduceBEq, Nat.reduceLT, Nat.reduceAdd, Nat.reduceLeDiff, Nat.reduceSub, Nat.reduceEqDiff, Int.reduceToNat, reduceCtorEq, ↓reduceIte]; done) | (simp only [go_sem, Nat.reduceBEq, Nat.reduceLT, Nat.reduceAdd, Nat.reduceLeDiff, Nat.reduceSub, Nat.reduceEqDiff, Int.reduceToNat, reduceCtorEq, ↓reduceIte]; exact ⟨rfl, rfl⟩) | (simp_all [go_sem, Nat.reduceBEq, Nat.reduceLT, Nat.reduceAdd, Nat.reduceLeDiff, Nat.reduceSub, Nat.reduceEqDiff, Int.reduceToNat, reduceCtorEq, ↓reduceIte]; done)
theorem k_spec_l8Fill (a0 : Int) (a1 : Int) {r : List Int} (h : spec_l8Fill a0 a1 = some r) :
    FnA Try.prog 67 [.v (.int .i64 a0), .v (.int .i64 a1)] [] [] (fun x H => x = .sl 0 ∧ H = [.row true (.ints .i64 r)]) := by
  unfold spec_l8Fill at h
  refine FnA.of (N := 18) (pin := []) (rs := [.tmp 4]) Try.func67 rfl en67 rfl rfl (by simp) (by simp; try omega) ?_
  refine awp_reg ftCOk [(0, .v (.int .i64 a0)), (1, .v (.int .i64 a1))] [] ?_
  refine awp_reg ftCOk [(0, .v (.int .i64 a0)), (1, .v (.int .i64 a1)), (5, .sl 0)] [.row true (.ints .i64 [])] ?_
  refine awp_seq fun K14 hK14 => ?_
  refine awp_reg ftCOk [(0, .v (.int .i64 a0)), (1, .v (.int .i64 a1)), (5, .sl 0), (6, .v (.int .i64 0))] [.row true (.ints .i64 [])] ?_
  refine awp_block ?_
  replace h := bind_some h
  obtain ⟨t5s_1, hx, h⟩ := h
  refine awp_loopL hx (fun ((t6, t5s) : Int × List Int) => [(0, .v (.int .i64 a0)), (1, .v (.int .i64 a1)), (5, .sl 0), (6, .v (.int .i64 t6))]) (fun ((t6, t5s) : Int × List Int) => [.row true (.ints .i64 t5s)]) (fun (t5s_1 : List Int) => Exit.exit 0) (fun (t5s_1 : List Int) => [(5, .sl 0)]) (fun (t5s_1 : List Int) => [.row true (.ints .i64 t5s_1)]) ?_ ?_ ?_ ?_
  · rintro t5s_1 hy <;> cases hy
  · clear h hx
    exact Red.auto
  · clear h hx
    rintro ⟨t6, t5s⟩ r h
    unfold spec_l8Fill_b0 at h
    try dsimp only at h
    try dsimp only
    refine awp_seq fun K24 hK24 => ?_
    refine awp_reg ftCOk [(0, .v (.int .i64 a0)), (1, .v (.int .i64 a1)), (5, .sl 0), (6, .v (.int .i64 t6)), (10, .v (.bool (decide (t6 < a0))))] [.row true (.ints .i64 t5s)] ?_
    refine awp_cond (t := 10) rfl (fun hc25 => ?_) (fun hc25 => ?_)
    · replace h := bite_t h hc25
      refine awp_skip ?_
      (try simp only [Thn, InBlk, ↓reduceIte, Nat.reduceEqDiff])
      refine hK24 _ _ ?_
      clear hK24
      refine awp_seq fun K26 hK26 => ?_
      refine awp_block ?_
      replace h := chk_some h
      obtain ⟨hp0, h⟩ := h
      refine awp_regE ftCOk [(0, .v (.int .i64 a0)), (1, .v (.int .i64 a1)), (5, .sl 0), (6, .v (.int .i64 t6))] [.row true (.ints .i64 (t5s ++ [a1])), .row true (.ints .i64 [a1])] ?_
      clear hp0
      (try simp only [Thn, InBlk, ↓reduceIte, Nat.reduceEqDiff])
      (try simp only [Thn, InBlk, ↓reduceIte, Nat.reduceEqDiff])
      refine hK26 _ _ ?_
      clear hK26
      replace h := chk_some h
      obtain ⟨hp0, h⟩ := h
      refine awp_regE ftCOk [(0, .v (.int .i64 a0)), (1, .v (.int .i64 a1)), (5, .sl 0), (6, .v (.int .i64 (t6 + 1)))] [.row true (.ints .i64 (t5s ++ [a1])), .row true (.ints .i64 [a1])] ?_
      clear hp0
      obtain rfl := Option.some.inj h
      refine LoopQ.next ?_
      exact Red.selA [0] Red.auto
    · replace h := bite_f h hc25
      refine awp_exit ?_
      (try simp only [Thn, InBlk, ↓reduceIte, Nat.reduceEqDiff])
      obtain rfl := Option.some.inj h
      refine LoopQ.out rfl ?_
      exact Red.auto
  · clear hx
    skip
    · try dsimp only [Sum.elim_inl, Sum.elim_inr] at h
      try dsimp only [Sum.elim_inl, Sum.elim_inr]
      (try simp only [Thn, InBlk, ↓reduceIte, Nat.reduceEqDiff])
      (try simp only [Thn, InBlk, ↓reduceIte, Nat.reduceEqDiff])
      (try simp only [Thn, InBlk, ↓reduceIte, Nat.reduceEqDiff])
      refine hK14 _ _ ?_
      clear hK14
      refine awp_reg ftCOk [(4, .sl 0)] [.row true (.ints .i64 t5s_1)] ?_
      refine awp_ret ?_
      (try simp only [Thn, InBlk, ↓reduceIte, Nat.reduceEqDiff])
      obtain rfl := Option.some.inj h
      refine ⟨by simp, _, [0], (by simp only [go_sem, Nat.reduceBEq, Nat.reduceLT, Nat.reduceAdd, Nat.reduceLeDiff, Nat.reduceSub, Nat.reduceEqDiff, Int.reduceToNat, reduceCtorEq, ↓reduceIte]; exact rfl), ?_, ?_, ?_, ?_⟩
      · first | exact trivial | exact ⟨trivial, trivial⟩ | exact ⟨trivial, trivial, trivial⟩ | exact ⟨trivial, trivial, trivial, trivial⟩ | (simp only [allP, and_true, true_and]; done) | (simp only [allP, and_true, true_and]; omega)
      · simp [selOk, pos]
      · simp
      · first | exact ⟨rfl, rfl⟩ | (simp only [go_sem, Nat.reduceBEq, Nat.reduceLT, Nat.reduceAdd, Nat.reduceLeDiff, Nat.reduceSub, Nat.reduceEqDiff, Int.reduceToNat, reduceCtorEq, ↓reduceIte]; done) | (simp [go_sem, Nat.reduceBEq, Nat.reduceLT, Nat.reduceAdd, Nat.reduceLeDiff, Nat.reduceSub, Nat.reduceEqDiff, Int.reduceToNat, reduceCtorEq, ↓reduceIte]; done) | (simp only [go_sem, Nat.reduceBEq, Nat.reduceLT, Nat.reduceAdd, Nat.reduceLeDiff, Nat.reduceSub, Nat.reduceEqDiff, Int.reduceToNat, reduceCtorEq, ↓reduceIte]; exact ⟨rfl, rfl⟩) | (simp_all [go_sem, Nat.reduceBEq, Nat.reduceLT, Nat.reduceAdd, Nat.reduceLeDiff, Nat.reduceSub, Nat.reduceEqDiff, Int.reduceToNat, reduceCtorEq, ↓reduceIte]; done)
theorem k_impl_BytesValid (a0 : List Int) {r : Bool} (h : impl_BytesValid a0 = some r) :
    FnA Try.prog 68 [.sl 0] [.row false (.ints .i64 a0)] [] (fun x H => x = .v (.bool r) ∧ H = [.row false (.ints .i64 a0)]) := by
  unfold impl_BytesValid at h
  refine FnA.of (N := 21) (pin := [0]) (rs := [.tmp 2]) Try.func68 rfl en68 rfl rfl (by simp) (by simp; try omega) ?_
  refine awp_reg ftCOk [(0, .sl 0)] [.row false (.ints .i64 a0)] ?_
  refine awp_seq fun K2 hK2 => ?_
  refine awp_reg ftCOk [(0, .sl 0), (7, .v (.bool (decide (2000 < (a0.length : Int)))))] [.row false (.ints .i64 a0)] ?_
  refine awp_cond (t := 7) rfl (fun hc3 => ?_) (fun hc3 => ?_)
  · replace h := bite_t h hc3
    refine awp_reg ftCOk [(2, .v (.bool false))] [.row false (.ints .i64 a0)] ?_
    refine awp_ret ?_
    (try simp only [Thn, InBlk, ↓reduceIte, Nat.reduceEqDiff])
    obtain rfl := Option.some.inj h
    refine ⟨by simp, _, [0], (by simp only [go_sem, Nat.reduceBEq, Nat.reduceLT, Nat.reduceAdd, Nat.reduceLeDiff, Nat.reduceSub, Nat.reduceEqDiff, Int.reduceToNat, reduceCtorEq, ↓reduceIte]; exact rfl), ?_, ?_, ?_, ?_⟩
    · first | exact trivial | exact ⟨trivial, trivial⟩ | exact ⟨trivial, trivial, trivial⟩ | exact ⟨trivial, trivial, trivial, trivial⟩ | (simp only [allP, and_true, true_and]; done) | (simp only [allP, and_true, true_and]; omega)
    · simp [selOk, pos]
    · simp
    · first | exact ⟨rfl, rfl⟩ | (simp only [go_sem, Nat.reduceBEq, Nat.reduceLT, Nat.reduceAdd, Nat.reduceLeDiff, Nat.reduceSub, Nat.reduceEqDiff, Int.reduceToNat, reduceCtorEq, ↓reduceIte]; done) | (simp [go_sem, Nat.reduceBEq, Nat.reduceLT, Nat.reduceAdd, Nat.reduceLeDiff, Nat.reduceSub, Nat.reduceEqDiff, Int.reduceToNat, reduceCtorEq, ↓reduceIte]; done) | (simp only [go_sem, Nat.reduceBEq, Nat.reduceLT, Nat.reduceAdd, Nat.reduceLeDiff, Nat.reduceSub, Nat.reduceEqDiff, Int.reduceToNat, reduceCtorEq, ↓reduceIte]; exact ⟨rfl, rfl⟩) | (simp_all [go_sem, Nat.reduceBEq, Nat.reduceLT, Nat.reduceAdd, Nat.reduceLeDiff, Nat.reduceSub, Nat.reduceEqDiff, Int.reduceToNat, reduceCtorEq, ↓reduceIte]; done)
  · replace h := bite_f h hc3
    refine awp_skip ?_
    (try simp only [Thn, InBlk, ↓reduceIte, Nat.reduceEqDiff])
    refine hK2 _ _ ?_
    clear hK2
    refine awp_seq fun K23 hK23 => ?_
    refine awp_reg ftCOk [(8, .sl 0), (9, .v (.int .i64 (a0.length : Int))), (10, .v (.int .i64 0))] [.row false (.ints .i64 a0)] ?_
    refine awp_block ?_
    replace h := bind_some h
    obtain ⟨x42, hx, h⟩ := h
    refine awp_loopL hx (fun (t10 : Int) => [(8, .sl 0), (9, .v (.int .i64 (a0.length : Int))), (10, .v (.int .i64 t10))]) (fun (t10 : Int) => [.row false (.ints .i64 a0)]) (Sum.elim (fun (_ : Unit) => Exit.exit 0) (fun (_ : Unit) => Exit.ret)) (Sum.elim (fun (_ : Unit) => []) (fun (_ : Unit) => [(2, .v (.bool false))])) (Sum.elim (fun (_ : Unit) => [.row false (.ints .i64 a0)]) (fun (_ : Unit) => [.row false (.ints .i64 a0)])) ?_ ?_ ?_ ?_
    · rintro (⟨⟩ | ⟨⟩) hy <;> cases hy
    · clear h hx
      exact Red.auto
    · clear h hx
      rintro t10 r h
      unfold impl_BytesValid_b0 at h
      try dsimp only at h
      try dsimp only
      refine awp_reg ftCOk [(8, .sl 0), (9, .v (.int .i64 (a0.length : Int))), (10, .v (.int .i64 t10)), (11, .v (.bool (decide (t10 < (a0.length : Int)))))] [.row false (.ints .i64 a0)] ?_
      refine awp_seq fun K37 hK37 => ?_
      refine awp_cond (t := 11) rfl (fun hc38 => ?_) (fun hc38 => ?_)
      · replace h := bite_t h hc38
        refine awp_skip ?_
        (try simp only [Thn, InBlk, ↓reduceIte, Nat.reduceEqDiff])
        refine hK37 _ _ ?_
        clear hK37
        refine awp_seq fun K40 hK40 => ?_
        refine awp_block ?_
        replace h := chk_some h
        obtain ⟨hp0, h⟩ := h
        refine awp_reg ftCOk [(4, .v (.int .i64 (a0.getD t10.toNat 0))), (8, .sl 0), (9, .v (.int .i64 (a0.length : Int))), (10, .v (.int .i64 t10))] [.row false (.ints .i64 a0)] ?_
        clear hp0
        refine awp_reg ftCOk [(8, .sl 0), (9, .v (.int .i64 (a0.length : Int))), (10, .v (.int .i64 t10)), (19, .v (.bool ((decide ((a0.getD t10.toNat 0) < 0)) || (decide (255 < (a0.getD t10.toNat 0))))))] [.row false (.ints .i64 a0)] ?_
        refine awp_cond (t := 19) rfl (fun hc41 => ?_) (fun hc41 => ?_)
        · replace h := bite_t h hc41
          refine awp_reg ftCOk [(2, .v (.bool false))] [.row false (.ints .i64 a0)] ?_
          refine awp_ret ?_
          (try simp only [Thn, InBlk, ↓reduceIte, Nat.reduceEqDiff])
          obtain rfl := Option.some.inj h
          refine LoopQ.out rfl ?_
          exact Red.auto
        · replace h := bite_f h hc41
          refine awp_skip ?_
          (try simp only [Thn, InBlk, ↓reduceIte, Nat.reduceEqDiff])
          (try simp only [Thn, InBlk, ↓reduceIte, Nat.reduceEqDiff])
          refine hK40 _ _ ?_
          clear hK40
          replace h := chk_some h
          obtain ⟨hp0, h⟩ := h
          refine awp_regE ftCOk [(8, .sl 0), (9, .v (.int .i64 (a0.length : Int))), (10, .v (.int .i64 (t10 + 1)))] [.row false (.ints .i64 a0)] ?_
          clear hp0
          obtain rfl := Option.some.inj h
          refine LoopQ.next ?_
          exact Red.auto
      · replace h := bite_f h hc38
        refine awp_exit ?_
        (try simp only [Thn, InBlk, ↓reduceIte, Nat.reduceEqDiff])
        obtain rfl := Option.some.inj h
        refine LoopQ.out rfl ?_
        exact Red.auto
    · clear hx
      rcases x42 with (⟨⟩ | ⟨⟩)
      · try dsimp only [Sum.elim_inl, Sum.elim_inr] at h
        try dsimp only [Sum.elim_inl, Sum.elim_inr]
        (try simp only [Thn, InBlk, ↓reduceIte, Nat.reduceEqDiff])
        (try simp only [Thn, InBlk, ↓reduceIte, Nat.reduceEqDiff])
        (try simp only [Thn, InBlk, ↓reduceIte, Nat.reduceEqDiff])
        refine hK23 _ _ ?_
        clear hK23
        refine awp_reg ftCOk [(2, .v (.bool true))] [.row false (.ints .i64 a0)] ?_
        refine awp_ret ?_
        (try simp only [Thn, InBlk, ↓reduceIte, Nat.reduceEqDiff])
        obtain rfl := Option.some.inj h
        refine ⟨by simp, _, [0], (by simp only [go_sem, Nat.reduceBEq, Nat.reduceLT, Nat.reduceAdd, Nat.reduceLeDiff, Nat.reduceSub, Nat.reduceEqDiff, Int.reduceToNat, reduceCtorEq, ↓reduceIte]; exact rfl), ?_, ?_, ?_, ?_⟩
        · first | exact trivial | exact ⟨trivial, trivial⟩ | exact ⟨trivial, trivial, trivial⟩ | exact ⟨trivial, trivial, trivial, trivial⟩ | (simp only [allP, and_true, true_and]; done) | (simp only [allP, and_true, true_and]; omega)
        · simp [selOk, pos]
        · simp
        · first | exact ⟨rfl, rfl⟩ | (simp only [go_sem, Nat.reduceBEq, Nat.reduceLT, Nat.reduceAdd, Nat.reduceLeDiff, Nat.reduceSub, Nat.reduceEqDiff, Int.reduceToNat, reduceCtorEq, ↓reduceIte]; done) | (simp [go_sem, Nat.reduceBEq, Nat.reduceLT, Nat.reduceAdd, Nat.reduceLeDiff, Nat.reduceSub, Nat.reduceEqDiff, Int.reduceToNat, reduceCtorEq, ↓reduceIte]; done) | (simp only [go_sem, Nat.reduceBEq, Nat.reduceLT, Nat.reduceAdd, Nat.reduceLeDiff, Nat.reduceSub, Nat.reduceEqDiff, Int.reduceToNat, reduceCtorEq, ↓reduceIte]; exact ⟨rfl, rfl⟩) | (simp_all [go_sem, Nat.reduceBEq, Nat.reduceLT, Nat.reduceAdd, Nat.reduceLeDiff, Nat.reduceSub, Nat.reduceEqDiff, Int.reduceToNat, reduceCtorEq, ↓reduceIte]; done)
      · try dsimp only [Sum.elim_inl, Sum.elim_inr] at h
        try dsimp only [Sum.elim_inl, Sum.elim_inr]
        (try simp only [Thn, InBlk, ↓reduceIte, Nat.reduceEqDiff])
        obtain rfl := Option.some.inj h
        refine ⟨by simp, _, [0], (by simp only [go_sem, Nat.reduceBEq, Nat.reduceLT, Nat.reduceAdd, Nat.reduceLeDiff, Nat.reduceSub, Nat.reduceEqDiff, Int.reduceToNat, reduceCtorEq, ↓reduceIte]; exact rfl), ?_, ?_, ?_, ?_⟩
        · first | exact trivial | exact ⟨trivial, trivial⟩ | exact ⟨trivial, trivial, trivial⟩ | exact ⟨trivial, trivial, trivial, trivial⟩ | (simp only [allP, and_true, true_and]; done) | (simp only [allP, and_true, true_and]; omega)
        · simp [selOk, pos]
        · simp
        · first | exact ⟨rfl, rfl⟩ | (simp only [go_sem, Nat.reduceBEq, Nat.reduceLT, Nat.reduceAdd, Nat.reduceLeDiff, Nat.reduceSub, Nat.reduceEqDiff, Int.reduceToNat, reduceCtorEq, ↓reduceIte]; done) | (simp [go_sem, Nat.reduceBEq, Nat.reduceLT, Nat.reduceAdd, Nat.reduceLeDiff, Nat.reduceSub, Nat.reduceEqDiff, Int.reduceToNat, reduceCtorEq, ↓reduceIte]; done) | (simp only [go_sem, Nat.reduceBEq, Nat.reduceLT, Nat.reduceAdd, Nat.reduceLeDiff, Nat.reduceSub, Nat.reduceEqDiff, Int.reduceToNat, reduceCtorEq, ↓reduceIte]; exact ⟨rfl, rfl⟩) | (simp_all [go_sem, Nat.reduceBEq, Nat.reduceLT, Nat.reduceAdd, Nat.reduceLeDiff, Nat.reduceSub, Nat.reduceEqDiff, Int.reduceToNat, reduceCtorEq, ↓reduceIte]; done)
theorem k_impl_CheckSum (a0 : List Int) {r : Int} (h : impl_CheckSum a0 = some r) :
    FnA Try.prog 53 [.sl 0] [.row false (.ints .i64 a0)] [] (fun x H => x = .v (.int .i64 r) ∧ H = [.row false (.ints .i64 a0)]) := by
  unfold impl_CheckSum at h
  refine FnA.of (N := 23) (pin := [0]) (rs := [.tmp 2]) Try.func53 rfl en53 rfl rfl (by simp) (by simp; try omega) ?_
  refine awp_reg ftCOk [(0, .sl 0)] [.row false (.ints .i64 a0)] ?_
  refine awp_seq fun K2 hK2 => ?_
  replace h := bind_some h
  obtain ⟨y, hr0, h⟩ := h
  try dsimp only at h
  refine awp_to [(0, .sl 0), (8, .v (.bool (!y)))] [.row false (.ints .i64 a0)] ?_ ?_
  · clear h
    intro K hK
    refine awp_region ftCOk ?_
    simp (maxSteps := 4000000) only [go_sem, Nat.reduceBEq, Nat.reduceLT, Nat.reduceAdd, Nat.reduceLeDiff, Nat.reduceSub, Nat.reduceEqDiff, Int.reduceToNat, reduceCtorEq, ↓reduceIte]
    repeat' (first | refine And.intro ?_ ?_ | intro hg)
    all_goals (try simp (disch := omega) only [wrap_fits])
    all_goals first
      | (refine hK _ _ ?_; exact Red.auto)
      | exact trivial
      | assumption
      | omega
      | exact wrap_fits (by omega) (by omega)
      | (refine wpA_callA (k_impl_BytesValid a0 (h := hr0)) [0] [] ?_
         rintro x Hc' ⟨rfl, rfl⟩ hlen
         refine vcOps_sound ftCOk ?_
         simp (maxSteps := 4000000) only [go_sem, Nat.reduceBEq, Nat.reduceLT, Nat.reduceAdd, Nat.reduceLeDiff, Nat.reduceSub, Nat.reduceEqDiff, Int.reduceToNat, reduceCtorEq, ↓reduceIte]
         repeat' (first | refine And.intro ?_ ?_ | intro hg)
         all_goals (try simp (disch := omega) only [wrap_fits])
         all_goals first
           | (refine hK _ _ ?_; exact Red.auto)
           | exact trivial
           | assumption
           | omega
           | exact wrap_fits (by omega) (by omega)
           | (simp_all; done)
           | (simp_all; omega))
      | (simp_all; done)
      | (simp_all; omega)
  · clear hr0
    refine awp_cond (t := 8) rfl (fun hc3 => ?_) (fun hc3 => ?_)
    · replace h := bite_t h hc3
      refine awp_reg ftCOk [(2, .v (.int .i64 (-1)))] [.row false (.ints .i64 a0)] ?_
      refine awp_ret ?_
      (try simp only [Thn, InBlk, ↓reduceIte, Nat.reduceEqDiff])
      obtain rfl := Option.some.inj h
      refine ⟨by simp, _, [0], (by simp only [go_sem, Nat.reduceBEq, Nat.reduceLT, Nat.reduceAdd, Nat.reduceLeDiff, Nat.reduceSub, Nat.reduceEqDiff, Int.reduceToNat, reduceCtorEq, ↓reduceIte]; exact rfl), ?_, ?_, ?_, ?_⟩
      · first | exact trivial | exact ⟨trivial, trivial⟩ | exact ⟨trivial, trivial, trivial⟩ | exact ⟨trivial, trivial, trivial, trivial⟩ | (simp only [allP, and_true, true_and]; done) | (simp only [allP, and_true, true_and]; omega)
      · simp [selOk, pos]
      · simp
      · first | exact ⟨rfl, rfl⟩ | (simp only [go_sem, Nat.reduceBEq, Nat.reduceLT, Nat.reduceAdd, Nat.reduceLeDiff, Nat.reduceSub, Nat.reduceEqDiff, Int.reduceToNat, reduceCtorEq, ↓reduceIte]; done) | (simp [go_sem, Nat.reduceBEq, Nat.reduceLT, Nat.reduceAdd, Nat.reduceLeDiff, Nat.reduceSub, Nat.reduceEqDiff, Int.reduceToNat, reduceCtorEq, ↓reduceIte]; done) | (simp only [go_sem, Nat.reduceBEq, Nat.reduceLT, Nat.reduceAdd, Nat.reduceLeDiff, Nat.reduceSub, Nat.reduceEqDiff, Int.reduceToNat, reduceCtorEq, ↓reduceIte]; exact ⟨rfl, rfl⟩) | (simp_all [go_sem, Nat.reduceBEq, Nat.reduceLT, Nat.reduceAdd, Nat.reduceLeDiff, Nat.reduceSub, Nat.reduceEqDiff, Int.reduceToNat, reduceCtorEq, ↓reduceIte]; done)
    · replace h := bite_f h hc3
      refine awp_skip ?_
      (try simp only [Thn, InBlk, ↓reduceIte, Nat.reduceEqDiff])
      refine hK2 _ _ ?_
      clear hK2
      refine awp_reg ftCOk [(0, .sl 0), (3, .v (.int .i64 7))] [.row false (.ints .i64 a0)] ?_
      refine awp_seq fun K17 hK17 => ?_
      refine awp_reg ftCOk [(3, .v (.int .i64 7)), (9, .sl 0), (10, .v (.int .i64 (a0.length : Int))), (11, .v (.int .i64 0))] [.row false (.ints .i64 a0)] ?_
      refine awp_block ?_
      replace h := bind_some h
      obtain ⟨t3_1, hx, h⟩ := h
      refine awp_loopL hx (fun ((t3, t11) : Int × Int) => [(3, .v (.int .i64 t3)), (9, .sl 0), (10, .v (.int .i64 (a0.length : Int))), (11, .v (.int .i64 t11))]) (fun ((t3, t11) : Int × Int) => [.row false (.ints .i64 a0)]) (fun (t3_1 : Int) => Exit.exit 0) (fun (t3_1 : Int) => [(3, .v (.int .i64 t3_1))]) (fun (t3_1 : Int) => [.row false (.ints .i64 a0)]) ?_ ?_ ?_ ?_
      · rintro t3_1 hy <;> cases hy
      · clear h hx
        exact Red.auto
      · clear h hx
        rintro ⟨t3, t11⟩ r h
        unfold impl_CheckSum_b0 at h
        try dsimp only at h
        try dsimp only
        refine awp_reg ftCOk [(3, .v (.int .i64 t3)), (9, .sl 0), (10, .v (.int .i64 (a0.length : Int))), (11, .v (.int .i64 t11)), (12, .v (.bool (decide (t11 < (a0.length : Int)))))] [.row false (.ints .i64 a0)] ?_
        refine awp_seq fun K27 hK27 => ?_
        refine awp_cond (t := 12) rfl (fun hc28 => ?_) (fun hc28 => ?_)
        · replace h := bite_t h hc28
          refine awp_skip ?_
          (try simp only [Thn, InBlk, ↓reduceIte, Nat.reduceEqDiff])
          refine hK27 _ _ ?_
          clear hK27
          refine awp_seq fun K29 hK29 => ?_
          refine awp_block ?_
          replace h := chk_some h
          obtain ⟨hp0, h⟩ := h
          refine awp_reg ftCOk [(3, .v (.int .i64 t3)), (5, .v (.int .i64 (a0.getD t11.toNat 0))), (9, .sl 0), (10, .v (.int .i64 (a0.length : Int))), (11, .v (.int .i64 t11))] [.row false (.ints .i64 a0)] ?_
          clear hp0
          replace h := chk_some h
          obtain ⟨hp0, h⟩ := h
          replace h := chk_some h
          obtain ⟨hp1, h⟩ := h
          replace h := chk_some h
          obtain ⟨hp2, h⟩ := h
          replace h := chk_some h
          obtain ⟨hp3, h⟩ := h
          refine awp_regE ftCOk [(3, .v (.int .i64 ((((31 * t3) + (a0.getD t11.toNat 0)) + 1) % 251))), (9, .sl 0), (10, .v (.int .i64 (a0.length : Int))), (11, .v (.int .i64 t11))] [.row false (.ints .i64 a0)] ?_
          clear hp0 hp1 hp2 hp3
          (try simp only [Thn, InBlk, ↓reduceIte, Nat.reduceEqDiff])
          (try simp only [Thn, InBlk, ↓reduceIte, Nat.reduceEqDiff])
          refine hK29 _ _ ?_
          clear hK29
          replace h := chk_some h
          obtain ⟨hp0, h⟩ := h
          refine awp_regE ftCOk [(3, .v (.int .i64 ((((31 * t3) + (a0.getD t11.toNat 0)) + 1) % 251))), (9, .sl 0), (10, .v (.int .i64 (a0.length : Int))), (11, .v (.int .i64 (t11 + 1)))] [.row false (.ints .i64 a0)] ?_
          clear hp0
          obtain rfl := Option.some.inj h
          refine LoopQ.next ?_
          exact Red.auto
        · replace h := bite_f h hc28
          refine awp_exit ?_
          (try simp only [Thn, InBlk, ↓reduceIte, Nat.reduceEqDiff])
          obtain rfl := Option.some.inj h
          refine LoopQ.out rfl ?_
          exact Red.auto
      · clear hx
        skip
        · try dsimp only [Sum.elim_inl, Sum.elim_inr] at h
          try dsimp only [Sum.elim_inl, Sum.elim_inr]
          (try simp only [Thn, InBlk, ↓reduceIte, Nat.reduceEqDiff])
          (try simp only [Thn, InBlk, ↓reduceIte, Nat.reduceEqDiff])
          (try simp only [Thn, InBlk, ↓reduceIte, Nat.reduceEqDiff])
          refine hK17 _ _ ?_
          clear hK17
          refine awp_reg ftCOk [(2, .v (.int .i64 t3_1))] [.row false (.ints .i64 a0)] ?_
          refine awp_ret ?_
          (try simp only [Thn, InBlk, ↓reduceIte, Nat.reduceEqDiff])
          obtain rfl := Option.some.inj h
          refine ⟨by simp, _, [0], (by simp only [go_sem, Nat.reduceBEq, Nat.reduceLT, Nat.reduceAdd, Nat.reduceLeDiff, Nat.reduceSub, Nat.reduceEqDiff, Int.reduceToNat, reduceCtorEq, ↓reduceIte]; exact rfl), ?_, ?_, ?_, ?_⟩
          · first | exact trivial | exact ⟨trivial, trivial⟩ | exact ⟨trivial, trivial, trivial⟩ | exact ⟨trivial, trivial, trivial, trivial⟩ | (simp only [allP, and_true, true_and]; done) | (simp only [allP, and_true, true_and]; omega)
          · simp [selOk, pos]
          · simp
          · first | exact ⟨rfl, rfl⟩ | (simp only [go_sem, Nat.reduceBEq, Nat.reduceLT, Nat.reduceAdd, Nat.reduceLeDiff, Nat.reduceSub, Nat.reduceEqDiff, Int.reduceToNat, reduceCtorEq, ↓reduceIte]; done) | (simp [go_sem, Nat.reduceBEq, Nat.reduceLT, Nat.reduceAdd, Nat.reduceLeDiff, Nat.reduceSub, Nat.reduceEqDiff, Int.reduceToNat, reduceCtorEq, ↓reduceIte]; done) | (simp only [go_sem, Nat.reduceBEq, Nat.reduceLT, Nat.reduceAdd, Nat.reduceLeDiff, Nat.reduceSub, Nat.reduceEqDiff, Int.reduceToNat, reduceCtorEq, ↓reduceIte]; exact ⟨rfl, rfl⟩) | (simp_all [go_sem, Nat.reduceBEq, Nat.reduceLT, Nat.reduceAdd, Nat.reduceLeDiff, Nat.reduceSub, Nat.reduceEqDiff, Int.reduceToNat, reduceCtorEq, ↓reduceIte]; done)
theorem k_laws_alive {r : Bool} (h : laws_alive = some r) :
    FnA Try.prog 25 [] [] [] (fun x H => x = .v (.bool r) ∧ H = []) := by
  unfold laws_alive at h
  refine FnA.of (N := 4) (pin := []) (rs := [.tmp 0]) Try.func25 rfl en25 rfl rfl (by simp) (by simp; try omega) ?_
  refine awp_reg ftCOk [] [] ?_
  replace h := bind_some h
  obtain ⟨y, hr0, h⟩ := h
  try dsimp only at h
  refine awp_to [(0, .v (.bool (y == 7)))] [.row true (.ints .i64 [])] ?_ ?_
  · clear h
    intro K hK
    refine awp_region ftCOk ?_
    simp (maxSteps := 4000000) only [go_sem, Nat.reduceBEq, Nat.reduceLT, Nat.reduceAdd, Nat.reduceLeDiff, Nat.reduceSub, Nat.reduceEqDiff, Int.reduceToNat, reduceCtorEq, ↓reduceIte]
    repeat' (first | refine And.intro ?_ ?_ | intro hg)
    all_goals (try simp (disch := omega) only [wrap_fits])
    all_goals first
      | (refine hK _ _ ?_; exact Red.auto)
      | exact trivial
      | assumption
      | omega
      | exact wrap_fits (by omega) (by omega)
      | (refine wpA_callA (k_impl_CheckSum [] (h := hr0)) [0] [] ?_
         rintro x Hc' ⟨rfl, rfl⟩ hlen
         refine vcOps_sound ftCOk ?_
         simp (maxSteps := 4000000) only [go_sem, Nat.reduceBEq, Nat.reduceLT, Nat.reduceAdd, Nat.reduceLeDiff, Nat.reduceSub, Nat.reduceEqDiff, Int.reduceToNat, reduceCtorEq, ↓reduceIte]
         repeat' (first | refine And.intro ?_ ?_ | intro hg)
         all_goals (try simp (disch := omega) only [wrap_fits])
         all_goals first
           | (refine hK _ _ ?_; exact Red.auto)
           | exact trivial
           | assumption
           | omega
           | exact wrap_fits (by omega) (by omega)
           | (simp_all; done)
           | (simp_all; omega))
      | (simp_all; done)
      | (simp_all; omega)
  · clear hr0
    refine awp_ret ?_
    (try simp only [Thn, InBlk, ↓reduceIte, Nat.reduceEqDiff])
    obtain rfl := Option.some.inj h
    refine ⟨by simp, _, [], (by simp only [go_sem, Nat.reduceBEq, Nat.reduceLT, Nat.reduceAdd, Nat.reduceLeDiff, Nat.reduceSub, Nat.reduceEqDiff, Int.reduceToNat, reduceCtorEq, ↓reduceIte]; exact rfl), ?_, ?_, ?_, ?_⟩
    · first | exact trivial | exact ⟨trivial, trivial⟩ | exact ⟨trivial, trivial, trivial⟩ | exact ⟨trivial, trivial, trivial, trivial⟩ | (simp only [allP, and_true, true_and]; done) | (simp only [allP, and_true, true_and]; omega)
    · simp [selOk, pos]
    · simp
    · first | exact ⟨rfl, rfl⟩ | (simp only [go_sem, Nat.reduceBEq, Nat.reduceLT, Nat.reduceAdd, Nat.reduceLeDiff, Nat.reduceSub, Nat.reduceEqDiff, Int.reduceToNat, reduceCtorEq, ↓reduceIte]; done) | (simp [go_sem, Nat.reduceBEq, Nat.reduceLT, Nat.reduceAdd, Nat.reduceLeDiff, Nat.reduceSub, Nat.reduceEqDiff, Int.reduceToNat, reduceCtorEq, ↓reduceIte]; done) | (simp only [go_sem, Nat.reduceBEq, Nat.reduceLT, Nat.reduceAdd, Nat.reduceLeDiff, Nat.reduceSub, Nat.reduceEqDiff, Int.reduceToNat, reduceCtorEq, ↓reduceIte]; exact ⟨rfl, rfl⟩) | (simp_all [go_sem, Nat.reduceBEq, Nat.reduceLT, Nat.reduceAdd, Nat.reduceLeDiff, Nat.reduceSub, Nat.reduceEqDiff, Int.reduceToNat, reduceCtorEq, ↓reduceIte]; done)
theorem k_spec_ForestOf (a0_0 : Int) (a0_1 : List (Int × Int × Int)) {r : List Int} (h : spec_ForestOf a0_0 a0_1 = some r) :
    FnA Try.prog 57 [.agg [.v (.int .i64 a0_0), .sl 0]] [.row false (.trips a0_1)] [] (fun x H => x = .sl 1 ∧ H = [.row false (.trips a0_1), .row true (.ints .i64 r)]) := by
  unfold spec_ForestOf at h
  refine FnA.of (N := 77) (pin := [0]) (rs := [.tmp 2]) Try.func57 rfl en57 rfl rfl (by simp) (by simp; try omega) ?_
  refine awp_reg ftCOk [(1, .pp 1 0)] [.row false (.trips a0_1), .box [.v (.int .i64 a0_0), .sl 0]] ?_
  refine awp_freeze 1 (by rfl) (by rfl) (by exact rfl) ?_
  refine awp_seq fun K2 hK2 => ?_
  replace h := bind_some h
  obtain ⟨y, hr0, h⟩ := h
  try dsimp only at h
  refine awp_to [(1, .pp 1 0), (11, .v (.bool (!y)))] [.row false (.trips a0_1), .rbox [.v (.int .i64 a0_0), .sl 0]] ?_ ?_
  · clear h
    intro K hK
    refine awp_region ftCOk ?_
    simp (maxSteps := 4000000) only [go_sem, Nat.reduceBEq, Nat.reduceLT, Nat.reduceAdd, Nat.reduceLeDiff, Nat.reduceSub, Nat.reduceEqDiff, Int.reduceToNat, reduceCtorEq, ↓reduceIte]
    repeat' (first | refine And.intro ?_ ?_ | intro hg)
    all_goals (try simp (disch := omega) only [wrap_fits])
    all_goals first
      | (refine hK _ _ ?_; exact Red.auto)
      | exact trivial
      | assumption
      | omega
      | exact wrap_fits (by omega) (by omega)
      | (refine wpA_callA (k_spec_GraphValid a0_0 a0_1 (h := hr0)) [0] [] ?_
         rintro x Hc' ⟨rfl, rfl⟩ hlen
         refine vcOps_sound ftCOk ?_
         simp (maxSteps := 4000000) only [go_sem, Nat.reduceBEq, Nat.reduceLT, Nat.reduceAdd, Nat.reduceLeDiff, Nat.reduceSub, Nat.reduceEqDiff, Int.reduceToNat, reduceCtorEq, ↓reduceIte]
         repeat' (first | refine And.intro ?_ ?_ | intro hg)
         all_goals (try simp (disch := omega) only [wrap_fits])
         all_goals first
           | (refine hK _ _ ?_; exact Red.auto)
           | exact trivial
           | assumption
           | omega
           | exact wrap_fits (by omega) (by omega)
           | (simp_all; done)
           | (simp_all; omega))
      | (simp_all; done)
      | (simp_all; omega)
  · clear hr0
    refine awp_cond (t := 11) rfl (fun hc3 => ?_) (fun hc3 => ?_)
    · replace h := bite_t h hc3
      refine awp_reg ftCOk [(2, .sl 2)] [.row false (.trips a0_1), .rbox [.v (.int .i64 a0_0), .sl 0], .row true (.ints .i64 [])] ?_
      refine awp_ret ?_
      (try simp only [Thn, InBlk, ↓reduceIte, Nat.reduceEqDiff])
      obtain rfl := Option.some.inj h
      refine ⟨by simp, _, [0, 2], (by simp only [go_sem, Nat.reduceBEq, Nat.reduceLT, Nat.reduceAdd, Nat.reduceLeDiff, Nat.reduceSub, Nat.reduceEqDiff, Int.reduceToNat, reduceCtorEq, ↓reduceIte]; exact rfl), ?_, ?_, ?_, ?_⟩
      · first | exact trivial | exact ⟨trivial, trivial⟩ | exact ⟨trivial, trivial, trivial⟩ | exact ⟨trivial, trivial, trivial, trivial⟩ | (simp only [allP, and_true, true_and]; done) | (simp only [allP, and_true, true_and]; omega)
      · simp [selOk, pos]
      · simp
      · first | exact ⟨rfl, rfl⟩ | (simp only [go_sem, Nat.reduceBEq, Nat.reduceLT, Nat.reduceAdd, Nat.reduceLeDiff, Nat.reduceSub, Nat.reduceEqDiff, Int.reduceToNat, reduceCtorEq, ↓reduceIte]; done) | (simp [go_sem, Nat.reduceBEq, Nat.reduceLT, Nat.reduceAdd, Nat.reduceLeDiff, Nat.reduceSub, Nat.reduceEqDiff, Int.reduceToNat, reduceCtorEq, ↓reduceIte]; done) | (simp only [go_sem, Nat.reduceBEq, Nat.reduceLT, Nat.reduceAdd, Nat.reduceLeDiff, Nat.reduceSub, Nat.reduceEqDiff, Int.reduceToNat, reduceCtorEq, ↓reduceIte]; exact ⟨rfl, rfl⟩) | (simp_all [go_sem, Nat.reduceBEq, Nat.reduceLT, Nat.reduceAdd, Nat.reduceLeDiff, Nat.reduceSub, Nat.reduceEqDiff, Int.reduceToNat, reduceCtorEq, ↓reduceIte]; done)
    · replace h := bite_f h hc3
      refine awp_skip ?_
      (try simp only [Thn, InBlk, ↓reduceIte, Nat.reduceEqDiff])
      refine hK2 _ _ ?_
      clear hK2
      replace h := bind_some h
      obtain ⟨y_1, hr0, h⟩ := h
      try dsimp only at h
      refine awp_to [(1, .pp 1 0), (3, .sl 2)] [.row false (.trips a0_1), .rbox [.v (.int .i64 a0_0), .sl 0], .row true (.ints .i64 y_1)] ?_ ?_
      · clear h
        intro K hK
        refine awp_region ftCOk ?_
        simp (maxSteps := 4000000) only [go_sem, Nat.reduceBEq, Nat.reduceLT, Nat.reduceAdd, Nat.reduceLeDiff, Nat.reduceSub, Nat.reduceEqDiff, Int.reduceToNat, reduceCtorEq, ↓reduceIte]
        repeat' (first | refine And.intro ?_ ?_ | intro hg)
        all_goals (try simp (disch := omega) only [wrap_fits])
        all_goals first
          | (refine hK _ _ ?_; exact Red.auto)
          | exact trivial
          | assumption
          | omega
          | exact wrap_fits (by omega) (by omega)
          | (refine wpA_callA (k_spec_l8Fill a0_0 (-1) (h := hr0)) [] [] ?_
             rintro x Hc' ⟨rfl, rfl⟩ hlen
             refine vcOps_sound ftCOk ?_
             simp (maxSteps := 4000000) only [go_sem, Nat.reduceBEq, Nat.reduceLT, Nat.reduceAdd, Nat.reduceLeDiff, Nat.reduceSub, Nat.reduceEqDiff, Int.reduceToNat, reduceCtorEq, ↓reduceIte]
             repeat' (first | refine And.intro ?_ ?_ | intro hg)
             all_goals (try simp (disch := omega) only [wrap_fits])
             all_goals first
               | (refine hK _ _ ?_; exact Red.auto)
               | exact trivial
               | assumption
               | omega
               | exact wrap_fits (by omega) (by omega)
               | (simp_all; done)
               | (simp_all; omega))
          | (simp_all; done)
          | (simp_all; omega)
      · clear hr0
        refine awp_seq fun K686 hK686 => ?_
        refine awp_reg ftCOk [(1, .pp 1 0), (3, .sl 2), (4, .v (.int .i64 0))] [.row false (.trips a0_1), .rbox [.v (.int .i64 a0_0), .sl 0], .row true (.ints .i64 y_1)] ?_
        refine awp_block ?_
        replace h := bind_some h
        obtain ⟨t3s_1, hx, h⟩ := h
        refine awp_loopL hx (fun ((t4, t3s) : Int × List Int) => [(1, .pp 1 0), (3, .sl 2), (4, .v (.int .i64 t4))]) (fun ((t4, t3s) : Int × List Int) => [.row false (.trips a0_1), .rbox [.v (.int .i64 a0_0), .sl 0], .row true (.ints .i64 t3s)]) (fun (t3s_1 : List Int) => Exit.exit 0) (fun (t3s_1 : List Int) => [(3, .sl 1)]) (fun (t3s_1 : List Int) => [.row false (.trips a0_1), .row true (.ints .i64 t3s_1)]) ?_ ?_ ?_ ?_
        · rintro t3s_1 hy <;> cases hy
        · clear h hx
          exact Red.auto
        · clear h hx
          rintro ⟨t4, t3s⟩ r h
          unfold spec_ForestOf_b2 at h
          try dsimp only at h
          try dsimp only
          refine awp_seq fun K1142 hK1142 => ?_
          refine awp_reg ftCOk [(1, .pp 1 0), (3, .sl 2), (4, .v (.int .i64 t4)), (19, .v (.bool (decide (t4 < a0_0))))] [.row false (.trips a0_1), .rbox [.v (.int .i64 a0_0), .sl 0], .row true (.ints .i64 t3s)] ?_
          refine awp_cond (t := 19) rfl (fun hc1143 => ?_) (fun hc1143 => ?_)
          · replace h := bite_t h hc1143
            refine awp_skip ?_
            (try simp only [Thn, InBlk, ↓reduceIte, Nat.reduceEqDiff])
            refine hK1142 _ _ ?_
            clear hK1142
            refine awp_join h (fun (t3s_2 : List Int) => [(1, .pp 1 0), (3, .sl 2), (4, .v (.int .i64 t4))]) (fun (t3s_2 : List Int) => [.row false (.trips a0_1), .rbox [.v (.int .i64 a0_0), .sl 0], .row true (.ints .i64 t3s_2)]) ?_ ?_
            · clear h
              intro k h
              try dsimp only at h
              refine awp_block ?_
              refine awp_seq fun K1257 hK1257 => ?_
              replace h := chk_some h
              obtain ⟨hp0, h⟩ := h
              refine awp_reg ftCOk [(1, .pp 1 0), (3, .sl 2), (4, .v (.int .i64 t4)), (26, .v (.bool (decide (0 ≤ (t3s.getD t4.toNat 0)))))] [.row false (.trips a0_1), .rbox [.v (.int .i64 a0_0), .sl 0], .row true (.ints .i64 t3s)] ?_
              clear hp0
              refine awp_cond (t := 26) rfl (fun hc1258 => ?_) (fun hc1258 => ?_)
              · replace h := bite_t h hc1258
                refine awp_exit ?_
                (try simp only [Thn, InBlk, ↓reduceIte, Nat.reduceEqDiff])
                (try simp only [Thn, InBlk, ↓reduceIte, Nat.reduceEqDiff])
                (try simp only [Thn, InBlk, ↓reduceIte, Nat.reduceEqDiff])
                refine ⟨_, h, ?_⟩
                exact Red.auto
              · replace h := bite_f h hc1258
                refine awp_skip ?_
                (try simp only [Thn, InBlk, ↓reduceIte, Nat.reduceEqDiff])
                refine hK1257 _ _ ?_
                clear hK1257
                replace h := chk_some h
                obtain ⟨hp0, h⟩ := h
                refine awp_reg ftCOk [(1, .pp 1 0), (3, .sl 2), (4, .v (.int .i64 t4))] [.row false (.trips a0_1), .rbox [.v (.int .i64 a0_0), .sl 0], .row true (.ints .i64 (t3s.set t4.toNat t4))] ?_
                clear hp0
                refine awp_reg ftCOk [(1, .pp 1 0), (3, .sl 2), (4, .v (.int .i64 t4)), (5, .sl 3)] [.row false (.trips a0_1), .rbox [.v (.int .i64 a0_0), .sl 0], .row true (.ints .i64 (t3s.set t4.toNat t4)), .row true (.ints .i64 [t4])] ?_
                refine awp_reg ftCOk [(1, .pp 1 0), (3, .sl 2), (4, .v (.int .i64 t4)), (5, .sl 3), (6, .v (.int .i64 0))] [.row false (.trips a0_1), .rbox [.v (.int .i64 a0_0), .sl 0], .row true (.ints .i64 (t3s.set t4.toNat t4)), .row true (.ints .i64 [t4])] ?_
                refine awp_block ?_
                replace h := bind_some h
                obtain ⟨t3s_4, hx, h⟩ := h
                refine awp_loopL hx (fun ((t6, t3s_3, t5s) : Int × List Int × List Int) => [(1, .pp 1 0), (3, .sl 2), (4, .v (.int .i64 t4)), (5, .sl 3), (6, .v (.int .i64 t6))]) (fun ((t6, t3s_3, t5s) : Int × List Int × List Int) => [.row false (.trips a0_1), .rbox [.v (.int .i64 a0_0), .sl 0], .row true (.ints .i64 t3s_3), .row true (.ints .i64 t5s)]) (fun (t3s_4 : List Int) => Exit.exit 2) (fun (t3s_4 : List Int) => [(1, .pp 1 0), (3, .sl 2), (4, .v (.int .i64 t4))]) (fun (t3s_4 : List Int) => [.row false (.trips a0_1), .rbox [.v (.int .i64 a0_0), .sl 0], .row true (.ints .i64 t3s_4)]) ?_ ?_ ?_ ?_
                · rintro t3s_4 hy <;> cases hy
                · clear h hx
                  exact Red.auto
                · clear h hx
                  rintro ⟨t6, t3s_3, t5s⟩ r h
                  unfold spec_ForestOf_b1 at h
                  try dsimp only at h
                  try dsimp only
                  refine awp_seq fun K1332 hK1332 => ?_
                  refine awp_reg ftCOk [(1, .pp 1 0), (3, .sl 2), (4, .v (.int .i64 t4)), (5, .sl 3), (6, .v (.int .i64 t6)), (36, .v (.bool (decide (t6 < (t5s.length : Int)))))] [.row false (.trips a0_1), .rbox [.v (.int .i64 a0_0), .sl 0], .row true (.ints .i64 t3s_3), .row true (.ints .i64 t5s)] ?_
                  refine awp_cond (t := 36) rfl (fun hc1333 => ?_) (fun hc1333 => ?_)
                  · replace h := bite_t h hc1333
                    refine awp_skip ?_
                    (try simp only [Thn, InBlk, ↓reduceIte, Nat.reduceEqDiff])
                    refine hK1332 _ _ ?_
                    clear hK1332
                    refine awp_seq fun K1350 hK1350 => ?_
                    refine awp_block ?_
                    replace h := chk_some h
                    obtain ⟨hp0, h⟩ := h
                    replace h := bind_some h
                    obtain ⟨y_2, hr1, h⟩ := h
                    try dsimp only at h
                    refine awp_to [(1, .pp 1 0), (3, .sl 2), (4, .v (.int .i64 t4)), (5, .sl 3), (6, .v (.int .i64 t6)), (7, .sl 4)] [.row false (.trips a0_1), .rbox [.v (.int .i64 a0_0), .sl 0], .row true (.ints .i64 t3s_3), .row true (.ints .i64 t5s), .row true (.ints .i64 y_2)] ?_ ?_
                    · clear h
                      intro K hK
                      refine awp_drawT mixed ftCOk (.free 1 (.free 2 (.free 0 (.one 3 (.one 4 (.one 5 (.one 6 .fin))))))) (by kernel_rfl) (by simp) ?_
                      simp (maxSteps := 4000000) only [go_sem, Nat.reduceBEq, Nat.reduceLT, Nat.reduceAdd, Nat.reduceLeDiff, Nat.reduceSub, Nat.reduceEqDiff, Int.reduceToNat, reduceCtorEq, ↓reduceIte]
                      repeat' (first | refine And.intro ?_ ?_ | intro hg)
                      all_goals (try simp (disch := omega) only [wrap_fits])
                      all_goals first
                        | (refine hK _ _ ?_; exact Red.auto)
                        | exact trivial
                        | assumption
                        | omega
                        | exact wrap_fits (by omega) (by omega)
                        | (refine OpK_callA (k_spec_NearOf a0_0 a0_1 (t5s.getD t6.toNat 0) (h := hr1)) [0] [] ?_
                           rintro x Hc' ⟨rfl, rfl⟩ hlen
                           simp (maxSteps := 4000000) only [go_sem, Nat.reduceBEq, Nat.reduceLT, Nat.reduceAdd, Nat.reduceLeDiff, Nat.reduceSub, Nat.reduceEqDiff, Int.reduceToNat, reduceCtorEq, ↓reduceIte]
                           repeat' (first | refine And.intro ?_ ?_ | intro hg)
                           all_goals (try simp (disch := omega) only [wrap_fits])
                           all_goals first
                             | (refine hK _ _ ?_; exact Red.auto)
                             | exact trivial
                             | assumption
                             | omega
                             | exact wrap_fits (by omega) (by omega)
                             | (simp_all; done)
                             | (simp_all; omega))
                        | (simp_all; done)
                        | (simp_all; omega)
                    · clear hp0 hr1
                      refine awp_reg ftCOk [(1, .pp 1 0), (3, .sl 2), (4, .v (.int .i64 t4)), (5, .sl 3), (6, .v (.int .i64 t6)), (7, .sl 4), (8, .v (.int .i64 0))] [.row false (.trips a0_1), .rbox [.v (.int .i64 a0_0), .sl 0], .row true (.ints .i64 t3s_3), .row true (.ints .i64 t5s), .row true (.ints .i64 y_2)] ?_
                      refine awp_block ?_
                      replace h := bind_some h
                      obtain ⟨x1366, hx, h⟩ := h
                      refine awp_loopL hx (fun ((t8, t3s_5, t5s_1) : Int × List Int × List Int) => [(1, .pp 1 0), (3, .sl 2), (4, .v (.int .i64 t4)), (5, .sl 3), (6, .v (.int .i64 t6)), (7, .sl 4), (8, .v (.int .i64 t8))]) (fun ((t8, t3s_5, t5s_1) : Int × List Int × List Int) => [.row false (.trips a0_1), .rbox [.v (.int .i64 a0_0), .sl 0], .row true (.ints .i64 t3s_5), .row true (.ints .i64 t5s_1), .row true (.ints .i64 y_2)]) (fun ((t3s_6, t5s_2) : List Int × List Int) => Exit.exit 4) (fun ((t3s_6, t5s_2) : List Int × List Int) => [(1, .pp 1 0), (3, .sl 2), (4, .v (.int .i64 t4)), (5, .sl 3), (6, .v (.int .i64 t6))]) (fun ((t3s_6, t5s_2) : List Int × List Int) => [.row false (.trips a0_1), .rbox [.v (.int .i64 a0_0), .sl 0], .row true (.ints .i64 t3s_6), .row true (.ints .i64 t5s_2)]) ?_ ?_ ?_ ?_
                      · rintro ⟨t3s_6, t5s_2⟩ hy <;> cases hy
                      · clear h hx
                        exact Red.auto
                      · clear h hx
                        rintro ⟨t8, t3s_5, t5s_1⟩ r h
                        unfold spec_ForestOf_b0 at h
                        try dsimp only at h
                        try dsimp only
                        refine awp_seq fun K1362 hK1362 => ?_
                        refine awp_reg ftCOk [(1, .pp 1 0), (3, .sl 2), (4, .v (.int .i64 t4)), (5, .sl 3), (6, .v (.int .i64 t6)), (7, .sl 4), (8, .v (.int .i64 t8)), (48, .v (.bool (decide (t8 < (y_2.length : Int)))))] [.row false (.trips a0_1), .rbox [.v (.int .i64 a0_0), .sl 0], .row true (.ints .i64 t3s_5), .row true (.ints .i64 t5s_1), .row true (.ints .i64 y_2)] ?_
                        refine awp_cond (t := 48) rfl (fun hc1363 => ?_) (fun hc1363 => ?_)
                        · replace h := bite_t h hc1363
                          refine awp_skip ?_
                          (try simp only [Thn, InBlk, ↓reduceIte, Nat.reduceEqDiff])
                          refine hK1362 _ _ ?_
                          clear hK1362
                          refine awp_join h (fun ((t3s_7, t5s_3) : List Int × List Int) => [(1, .pp 1 0), (3, .sl 2), (4, .v (.int .i64 t4)), (5, .sl 3), (6, .v (.int .i64 t6)), (7, .sl 4), (8, .v (.int .i64 t8))]) (fun ((t3s_7, t5s_3) : List Int × List Int) => [.row false (.trips a0_1), .rbox [.v (.int .i64 a0_0), .sl 0], .row true (.ints .i64 t3s_7), .row true (.ints .i64 t5s_3), .row true (.ints .i64 y_2)]) ?_ ?_
                          · clear h
                            intro k_1 h
                            try dsimp only at h
                            refine awp_block ?_
                            replace h := chk_some h
                            obtain ⟨hp0, h⟩ := h
                            replace h := chk_some h
                            obtain ⟨hp1, h⟩ := h
                            refine awp_reg ftCOk [(1, .pp 1 0), (3, .sl 2), (4, .v (.int .i64 t4)), (5, .sl 3), (6, .v (.int .i64 t6)), (7, .sl 4), (8, .v (.int .i64 t8)), (58, .v (.bool (decide ((t3s_5.getD ((y_2.getD t8.toNat 0).toNat) 0) < 0))))] [.row false (.trips a0_1), .rbox [.v (.int .i64 a0_0), .sl 0], .row true (.ints .i64 t3s_5), .row true (.ints .i64 t5s_1), .row true (.ints .i64 y_2)] ?_
                            clear hp0 hp1
                            refine awp_cond (t := 58) rfl (fun hc1365 => ?_) (fun hc1365 => ?_)
                            · replace h := bite_t h hc1365
                              replace h := chk_some h
                              obtain ⟨hp0, h⟩ := h
                              replace h := chk_some h
                              obtain ⟨hp1, h⟩ := h
                              replace h := chk_some h
                              obtain ⟨hp2, h⟩ := h
                              refine awp_to [(1, .pp 1 0), (3, .sl 2), (4, .v (.int .i64 t4)), (5, .sl 3), (6, .v (.int .i64 t6)), (7, .sl 4), (8, .v (.int .i64 t8))] [.row false (.trips a0_1), .rbox [.v (.int .i64 a0_0), .sl 0], .row true (.ints .i64 (t3s_5.set ((y_2.getD t8.toNat 0).toNat) (t5s_1.getD t6.toNat 0))), .row true (.ints .i64 t5s_1), .row true (.ints .i64 y_2)] ?_ ?_
                              · clear h
                                intro K hK
                                refine awp_drawT mixed ftCOk (.free 0 (.free 1 (.free 2 (.free 5 (.free 6 (.two 3 7 (.two 4 7 (.one 7 (.one 8 (.one 9 (.one 10 .fin)))) (.two 4 8 (.one 8 (.one 9 (.one 10 .fin))) (.one 4 (.one 9 (.one 10 .fin))))) (.two 3 8 (.two 4 8 (.one 8 (.one 9 (.one 10 .fin))) (.one 4 (.one 9 (.one 10 .fin)))) (.one 3 (.one 4 (.one 9 (.one 10 .fin))))))))))) (by kernel_rfl) (by simp) ?_
                                simp (maxSteps := 4000000) only [go_sem, Nat.reduceBEq, Nat.reduceLT, Nat.reduceAdd, Nat.reduceLeDiff, Nat.reduceSub, Nat.reduceEqDiff, Int.reduceToNat, reduceCtorEq, ↓reduceIte]
                                repeat' (first | refine And.intro ?_ ?_ | intro hg)
                                all_goals (try simp (disch := omega) only [wrap_fits])
                                all_goals first
                                  | (refine hK _ _ ?_; exact Red.auto)
                                  | exact trivial
                                  | assumption
                                  | omega
                                  | exact wrap_fits (by omega) (by omega)
                                  | (simp_all; done)
                                  | (simp_all; omega)
                              · clear hp0 hp1 hp2
                                replace h := chk_some h
                                obtain ⟨hp0, h⟩ := h
                                replace h := chk_some h
                                obtain ⟨hp1, h⟩ := h
                                refine awp_regE ftCOk [(1, .pp 1 0), (3, .sl 2), (4, .v (.int .i64 t4)), (5, .sl 3), (6, .v (.int .i64 t6)), (7, .sl 4), (8, .v (.int .i64 t8))] [.row false (.trips a0_1), .rbox [.v (.int .i64 a0_0), .sl 0], .row true (.ints .i64 (t3s_5.set ((y_2.getD t8.toNat 0).toNat) (t5s_1.getD t6.toNat 0))), .row true (.ints .i64 (t5s_1 ++ [(y_2.getD t8.toNat 0)])), .row true (.ints .i64 y_2), .row true (.ints .i64 [(y_2.getD t8.toNat 0)])] ?_
                                clear hp0 hp1
                                (try simp only [Thn, InBlk, ↓reduceIte, Nat.reduceEqDiff])
                                (try simp only [Thn, InBlk, ↓reduceIte, Nat.reduceEqDiff])
                                refine ⟨_, h, ?_⟩
                                exact Red.selA [0, 1, 2, 3, 4] Red.auto
                            · replace h := bite_f h hc1365
                              refine awp_skip ?_
                              (try simp only [Thn, InBlk, ↓reduceIte, Nat.reduceEqDiff])
                              (try simp only [Thn, InBlk, ↓reduceIte, Nat.reduceEqDiff])
                              refine ⟨_, h, ?_⟩
                              exact Red.auto
                          · clear h
                            rintro ⟨t3s_7, t5s_3⟩ h
                            try dsimp only at h
                            try dsimp only
                            replace h := chk_some h
                            obtain ⟨hp0, h⟩ := h
                            refine awp_regE ftCOk [(1, .pp 1 0), (3, .sl 2), (4, .v (.int .i64 t4)), (5, .sl 3), (6, .v (.int .i64 t6)), (7, .sl 4), (8, .v (.int .i64 (t8 + 1)))] [.row false (.trips a0_1), .rbox [.v (.int .i64 a0_0), .sl 0], .row true (.ints .i64 t3s_7), .row true (.ints .i64 t5s_3), .row true (.ints .i64 y_2)] ?_
                            clear hp0
                            obtain rfl := Option.some.inj h
                            refine LoopQ.next ?_
                            exact Red.auto
                        · replace h := bite_f h hc1363
                          refine awp_exit ?_
                          (try simp only [Thn, InBlk, ↓reduceIte, Nat.reduceEqDiff])
                          obtain rfl := Option.some.inj h
                          refine LoopQ.out rfl ?_
                          exact Red.selA [0, 1, 2, 3] Red.auto
                      · clear hx
                        rcases x1366 with ⟨t3s_6, t5s_2⟩
                        · try dsimp only [Sum.elim_inl, Sum.elim_inr] at h
                          try dsimp only [Sum.elim_inl, Sum.elim_inr]
                          (try simp only [Thn, InBlk, ↓reduceIte, Nat.reduceEqDiff])
                          (try simp only [Thn, InBlk, ↓reduceIte, Nat.reduceEqDiff])
                          (try simp only [Thn, InBlk, ↓reduceIte, Nat.reduceEqDiff])
                          (try simp only [Thn, InBlk, ↓reduceIte, Nat.reduceEqDiff])
                          refine hK1350 _ _ ?_
                          clear hK1350
                          replace h := chk_some h
                          obtain ⟨hp0, h⟩ := h
                          refine awp_regE ftCOk [(1, .pp 1 0), (3, .sl 2), (4, .v (.int .i64 t4)), (5, .sl 3), (6, .v (.int .i64 (t6 + 1)))] [.row false (.trips a0_1), .rbox [.v (.int .i64 a0_0), .sl 0], .row true (.ints .i64 t3s_6), .row true (.ints .i64 t5s_2)] ?_
                          clear hp0
                          obtain rfl := Option.some.inj h
                          refine LoopQ.next ?_
                          exact Red.auto
                  · replace h := bite_f h hc1333
                    refine awp_exit ?_
                    (try simp only [Thn, InBlk, ↓reduceIte, Nat.reduceEqDiff])
                    obtain rfl := Option.some.inj h
                    refine LoopQ.out rfl ?_
                    exact Red.selA [0, 1, 2] Red.auto
                · clear hx
                  skip
                  · try dsimp only [Sum.elim_inl, Sum.elim_inr] at h
                    try dsimp only [Sum.elim_inl, Sum.elim_inr]
                    (try simp only [Thn, InBlk, ↓reduceIte, Nat.reduceEqDiff])
                    (try simp only [Thn, InBlk, ↓reduceIte, Nat.reduceEqDiff])
                    (try simp only [Thn, InBlk, ↓reduceIte, Nat.reduceEqDiff])
                    (try simp only [Thn, InBlk, ↓reduceIte, Nat.reduceEqDiff])
                    refine ⟨_, h, ?_⟩
                    exact Red.auto
            · clear h
              rintro t3s_2 h
              try dsimp only at h
              try dsimp only
              replace h := chk_some h
              obtain ⟨hp0, h⟩ := h
              refine awp_regE ftCOk [(1, .pp 1 0), (3, .sl 2), (4, .v (.int .i64 (t4 + 1)))] [.row false (.trips a0_1), .rbox [.v (.int .i64 a0_0), .sl 0], .row true (.ints .i64 t3s_2)] ?_
              clear hp0
              obtain rfl := Option.some.inj h
              refine LoopQ.next ?_
              exact Red.auto
          · replace h := bite_f h hc1143
            refine awp_exit ?_
            (try simp only [Thn, InBlk, ↓reduceIte, Nat.reduceEqDiff])
            obtain rfl := Option.some.inj h
            refine LoopQ.out rfl ?_
            exact Red.selA [0, 2] Red.auto
        · clear hx
          skip
          · try dsimp only [Sum.elim_inl, Sum.elim_inr] at h
            try dsimp only [Sum.elim_inl, Sum.elim_inr]
            (try simp only [Thn, InBlk, ↓reduceIte, Nat.reduceEqDiff])
            (try simp only [Thn, InBlk, ↓reduceIte, Nat.reduceEqDiff])
            (try simp only [Thn, InBlk, ↓reduceIte, Nat.reduceEqDiff])
            refine hK686 _ _ ?_
            clear hK686
            refine awp_reg ftCOk [(2, .sl 1)] [.row false (.trips a0_1), .row true (.ints .i64 t3s_1)] ?_
            refine awp_ret ?_
            (try simp only [Thn, InBlk, ↓reduceIte, Nat.reduceEqDiff])
            obtain rfl := Option.some.inj h
            refine ⟨by simp, _, [0, 1], (by simp only [go_sem, Nat.reduceBEq, Nat.reduceLT, Nat.reduceAdd, Nat.reduceLeDiff, Nat.reduceSub, Nat.reduceEqDiff, Int.reduceToNat, reduceCtorEq, ↓reduceIte]; exact rfl), ?_, ?_, ?_, ?_⟩
            · first | exact trivial | exact ⟨trivial, trivial⟩ | exact ⟨trivial, trivial, trivial⟩ | exact ⟨trivial, trivial, trivial, trivial⟩ | (simp only [allP, and_true, true_and]; done) | (simp only [allP, and_true, true_and]; omega)
            · simp [selOk, pos]
            · simp
            · first | exact ⟨rfl, rfl⟩ | (simp only [go_sem, Nat.reduceBEq, Nat.reduceLT, Nat.reduceAdd, Nat.reduceLeDiff, Nat.reduceSub, Nat.reduceEqDiff, Int.reduceToNat, reduceCtorEq, ↓reduceIte]; done) | (simp [go_sem, Nat.reduceBEq, Nat.reduceLT, Nat.reduceAdd, Nat.reduceLeDiff, Nat.reduceSub, Nat.reduceEqDiff, Int.reduceToNat, reduceCtorEq, ↓reduceIte]; done) | (simp only [go_sem, Nat.reduceBEq, Nat.reduceLT, Nat.reduceAdd, Nat.reduceLeDiff, Nat.reduceSub, Nat.reduceEqDiff, Int.reduceToNat, reduceCtorEq, ↓reduceIte]; exact ⟨rfl, rfl⟩) | (simp_all [go_sem, Nat.reduceBEq, Nat.reduceLT, Nat.reduceAdd, Nat.reduceLeDiff, Nat.reduceSub, Nat.reduceEqDiff, Int.reduceToNat, reduceCtorEq, ↓reduceIte]; done)
theorem k_spec_l20Open_v1 (a0 : List Int) {r : List Int × Int} (h : spec_l20Open_v1 a0 = some r) :
    FnA Try.prog 49 [.sl 0] [.row false (.ints .u8 a0), .box [.v (.int .i64 0), .v (.slice none 0 0)]] [] (fun x H => x = .pp 2 0 ∧ H = [.row false (.ints .u8 a0), .box [.v (.int .i64 0), .v (.slice none 0 0)], .box [.sl 3, .v (.int .i64 r.2)], .row false (.ints .u8 r.1)]) := by
  unfold spec_l20Open_v1 at h
  refine FnA.of (N := 11) (pin := [0, 1]) (rs := [.tmp 2]) Try.func49 rfl en49 rfl rfl (by simp) (by simp; try omega) ?_
  refine awp_reg ftCOk [(0, .sl 0)] [.row false (.ints .u8 a0), .box [.v (.int .i64 0), .v (.slice none 0 0)]] ?_
  refine awp_join h (fun (t0s : List Int) => [(0, .sl 2)]) (fun (t0s : List Int) => [.row false (.ints .u8 a0), .box [.v (.int .i64 0), .v (.slice none 0 0)], .row false (.ints .u8 t0s)]) ?_ ?_
  · clear h
    intro k h
    try dsimp only at h
    refine awp_reg ftCOk [(0, .sl 0), (5, .v (.bool (decide (2000 < (a0.length : Int)))))] [.row false (.ints .u8 a0), .box [.v (.int .i64 0), .v (.slice none 0 0)]] ?_
    refine awp_cond (t := 5) rfl (fun hc2 => ?_) (fun hc2 => ?_)
    · replace h := bite_t h hc2
      replace h := chk_some h
      obtain ⟨hp0, h⟩ := h
      refine awp_regE ftCOk [(0, .sl 2)] [.row false (.ints .u8 a0), .box [.v (.int .i64 0), .v (.slice none 0 0)], .row false (.ints .u8 ((a0.take 2000).drop 0))] ?_
      clear hp0
      (try simp only [Thn, InBlk, ↓reduceIte, Nat.reduceEqDiff])
      refine ⟨_, h, ?_⟩
      exact Red.auto
    · replace h := bite_f h hc2
      refine awp_skip ?_
      (try simp only [Thn, InBlk, ↓reduceIte, Nat.reduceEqDiff])
      refine ⟨_, h, ?_⟩
      refine Red.trans (Red.dup (t := 0) rfl rfl) ?_
      exact Red.auto
  · clear h
    rintro t0s h
    try dsimp only at h
    try dsimp only
    refine awp_reg ftCOk [(2, .pp 3 0)] [.row false (.ints .u8 a0), .box [.v (.int .i64 0), .v (.slice none 0 0)], .row false (.ints .u8 t0s), .box [.sl 2, .v (.int .i64 0)]] ?_
    refine awp_ret ?_
    (try simp only [Thn, InBlk, ↓reduceIte, Nat.reduceEqDiff])
    obtain rfl := Option.some.inj h
    refine ⟨by simp, _, [0, 1, 3, 2], (by simp only [go_sem, Nat.reduceBEq, Nat.reduceLT, Nat.reduceAdd, Nat.reduceLeDiff, Nat.reduceSub, Nat.reduceEqDiff, Int.reduceToNat, reduceCtorEq, ↓reduceIte]; exact rfl), ?_, ?_, ?_, ?_⟩
    · first | exact trivial | exact ⟨trivial, trivial⟩ | exact ⟨trivial, trivial, trivial⟩ | exact ⟨trivial, trivial, trivial, trivial⟩ | (simp only [allP, and_true, true_and]; done) | (simp only [allP, and_true, true_and]; omega)
    · simp [selOk, pos]
    · simp
    · first | exact ⟨rfl, rfl⟩ | (simp only [go_sem, Nat.reduceBEq, Nat.reduceLT, Nat.reduceAdd, Nat.reduceLeDiff, Nat.reduceSub, Nat.reduceEqDiff, Int.reduceToNat, reduceCtorEq, ↓reduceIte]; done) | (simp [go_sem, Nat.reduceBEq, Nat.reduceLT, Nat.reduceAdd, Nat.reduceLeDiff, Nat.reduceSub, Nat.reduceEqDiff, Int.reduceToNat, reduceCtorEq, ↓reduceIte]; done) | (simp only [go_sem, Nat.reduceBEq, Nat.reduceLT, Nat.reduceAdd, Nat.reduceLeDiff, Nat.reduceSub, Nat.reduceEqDiff, Int.reduceToNat, reduceCtorEq, ↓reduceIte]; exact ⟨rfl, rfl⟩) | (simp_all [go_sem, Nat.reduceBEq, Nat.reduceLT, Nat.reduceAdd, Nat.reduceLeDiff, Nat.reduceSub, Nat.reduceEqDiff, Int.reduceToNat, reduceCtorEq, ↓reduceIte]; done)
theorem k_spec_DrawForestRight (a0 : List Int) {r : Int × (List (Int × Int × Int)) × List Int} (h : spec_DrawForestRight a0 = some r) :
    FnA Try.prog 31 [.sl 0] [.row false (.ints .u8 a0)] [] (fun x H => x = .tup [.agg [.v (.int .i64 r.1), .sl 1], .sl 2] ∧ H = [.row false (.ints .u8 a0), .row true (.trips r.2.1), .row true (.ints .i64 r.2.2)]) := by
  unfold spec_DrawForestRight at h
  refine FnA.of (N := 46) (pin := [0]) (rs := [.cell 2 30, .tmp 3]) Try.func31 rfl en31 rfl rfl (by simp) (by simp; try omega) ?_
  refine awp_reg ftCOk [(0, .sl 0), (2, .pp 1 0)] [.row false (.ints .u8 a0), .box [.v (.int .i64 0), .v (.slice none 0 0)]] ?_
  replace h := bind_some h
  obtain ⟨⟨y, y_1⟩, hr0, h⟩ := h
  try dsimp only at h
  refine awp_to [(2, .pp 1 0), (4, .pp 2 0)] [.row false (.ints .u8 a0), .box [.v (.int .i64 0), .v (.slice none 0 0)], .box [.sl 3, .v (.int .i64 y_1)], .row false (.ints .u8 y)] ?_ ?_
  · clear h
    intro K hK
    refine awp_region ftCOk ?_
    simp (maxSteps := 4000000) only [go_sem, Nat.reduceBEq, Nat.reduceLT, Nat.reduceAdd, Nat.reduceLeDiff, Nat.reduceSub, Nat.reduceEqDiff, Int.reduceToNat, reduceCtorEq, ↓reduceIte]
    repeat' (first | refine And.intro ?_ ?_ | intro hg)
    all_goals (try simp (disch := omega) only [wrap_fits])
    all_goals first
      | (refine hK _ _ ?_; exact Red.auto)
      | exact trivial
      | assumption
      | omega
      | exact wrap_fits (by omega) (by omega)
      | (refine wpA_here (k_spec_l20Open_v1 a0 (h := hr0)) ?_
         rintro x Hc' ⟨rfl, rfl⟩ hlen
         refine vcOps_sound ftCOk ?_
         simp (maxSteps := 4000000) only [go_sem, Nat.reduceBEq, Nat.reduceLT, Nat.reduceAdd, Nat.reduceLeDiff, Nat.reduceSub, Nat.reduceEqDiff, Int.reduceToNat, reduceCtorEq, ↓reduceIte]
         repeat' (first | refine And.intro ?_ ?_ | intro hg)
         all_goals (try simp (disch := omega) only [wrap_fits])
         all_goals first
           | (refine hK _ _ ?_; exact Red.auto)
           | exact trivial
           | assumption
           | omega
           | exact wrap_fits (by omega) (by omega)
           | (simp_all; done)
           | (simp_all; omega))
      | (simp_all; done)
      | (simp_all; omega)
  · clear hr0
    replace h := bind_some h
    obtain ⟨⟨y_2, y_3, y_4⟩, hr0, h⟩ := h
    try dsimp only at h
    refine awp_to [(2, .pp 1 0), (4, .pp 2 0), (5, .pp 5 0)] [.row false (.ints .u8 a0), .box [.v (.int .i64 0), .v (.slice none 0 0)], .box [.sl 3, .v (.int .i64 y_4)], .row false (.ints .u8 y), .row true (.trips y_3), .box [.v (.int .i64 y_2), .sl 4]] ?_ ?_
    · clear h
      intro K hK
      refine awp_region ftCOk ?_
      simp (maxSteps := 4000000) only [go_sem, Nat.reduceBEq, Nat.reduceLT, Nat.reduceAdd, Nat.reduceLeDiff, Nat.reduceSub, Nat.reduceEqDiff, Int.reduceToNat, reduceCtorEq, ↓reduceIte]
      repeat' (first | refine And.intro ?_ ?_ | intro hg)
      all_goals (try simp (disch := omega) only [wrap_fits])
      all_goals first
        | (refine hK _ _ ?_; exact Red.auto)
        | exact trivial
        | assumption
        | omega
        | exact wrap_fits (by omega) (by omega)
        | (refine wpA_callA (k_spec_l20Graph y y_1 12 (h := hr0)) [2, 3] [] ?_
           rintro x Hc' ⟨rfl, rfl⟩ hlen
           refine vcOps_sound ftCOk ?_
           simp (maxSteps := 4000000) only [go_sem, Nat.reduceBEq, Nat.reduceLT, Nat.reduceAdd, Nat.reduceLeDiff, Nat.reduceSub, Nat.reduceEqDiff, Int.reduceToNat, reduceCtorEq, ↓reduceIte]
           repeat' (first | refine And.intro ?_ ?_ | intro hg)
           all_goals (try simp (disch := omega) only [wrap_fits])
           all_goals first
             | (refine hK _ _ ?_; exact Red.auto)
             | exact trivial
             | assumption
             | omega
             | exact wrap_fits (by omega) (by omega)
             | (simp_all; done)
             | (simp_all; omega))
        | (simp_all; done)
        | (simp_all; omega)
    · clear hr0
      replace h := bind_some h
      obtain ⟨y_5, hr0, h⟩ := h
      try dsimp only at h
      refine awp_to [(2, .pp 1 0), (4, .pp 2 0), (5, .pp 5 0), (6, .sl 6)] [.row false (.ints .u8 a0), .box [.v (.int .i64 0), .v (.slice none 0 0)], .box [.sl 3, .v (.int .i64 y_4)], .row false (.ints .u8 y), .row true (.trips y_3), .box [.v (.int .i64 y_2), .sl 4], .row true (.ints .i64 y_5)] ?_ ?_
      · clear h
        intro K hK
        refine awp_region ftCOk ?_
        simp (maxSteps := 4000000) only [go_sem, Nat.reduceBEq, Nat.reduceLT, Nat.reduceAdd, Nat.reduceLeDiff, Nat.reduceSub, Nat.reduceEqDiff, Int.reduceToNat, reduceCtorEq, ↓reduceIte]
        repeat' (first | refine And.intro ?_ ?_ | intro hg)
        all_goals (try simp (disch := omega) only [wrap_fits])
        all_goals first
          | (refine hK _ _ ?_; exact Red.auto)
          | exact trivial
          | assumption
          | omega
          | exact wrap_fits (by omega) (by omega)
          | (refine wpA_callA (k_spec_ForestOf y_2 y_3 (h := hr0)) [4] [] ?_
             rintro x Hc' ⟨rfl, rfl⟩ hlen
             refine vcOps_sound ftCOk ?_
             simp (maxSteps := 4000000) only [go_sem, Nat.reduceBEq, Nat.reduceLT, Nat.reduceAdd, Nat.reduceLeDiff, Nat.reduceSub, Nat.reduceEqDiff, Int.reduceToNat, reduceCtorEq, ↓reduceIte]
             repeat' (first | refine And.intro ?_ ?_ | intro hg)
             all_goals (try simp (disch := omega) only [wrap_fits])
             all_goals first
               | (refine hK _ _ ?_; exact Red.auto)
               | exact trivial
               | assumption
               | omega
               | exact wrap_fits (by omega) (by omega)
               | (simp_all; done)
               | (simp_all; omega))
          | (simp_all; done)
          | (simp_all; omega)
      · clear hr0
        refine awp_seq fun K17 hK17 => ?_
        refine awp_reg ftCOk [(2, .pp 1 0), (4, .pp 2 0), (5, .pp 5 0), (6, .sl 6), (7, .v (.int .i64 0))] [.row false (.ints .u8 a0), .box [.v (.int .i64 0), .v (.slice none 0 0)], .box [.sl 3, .v (.int .i64 y_4)], .row false (.ints .u8 y), .row true (.trips y_3), .box [.v (.int .i64 y_2), .sl 4], .row true (.ints .i64 y_5)] ?_
        refine awp_block ?_
        replace h := bind_some h
        obtain ⟨x33, hx, h⟩ := h
        refine awp_loopL hx (fun ((t7, t4_1, t6s) : Int × Int × List Int) => [(2, .pp 1 0), (4, .pp 2 0), (5, .pp 4 0), (6, .sl 6), (7, .v (.int .i64 t7))]) (fun ((t7, t4_1, t6s) : Int × Int × List Int) => [.row false (.ints .u8 a0), .box [.v (.int .i64 0), .v (.slice none 0 0)], .box [.sl 3, .v (.int .i64 t4_1)], .row false (.ints .u8 y), .box [.v (.int .i64 y_2), .sl 5], .row true (.trips y_3), .row true (.ints .i64 t6s)]) (fun ((t4_1_1, t6s_1) : Int × List Int) => Exit.exit 0) (fun ((t4_1_1, t6s_1) : Int × List Int) => [(2, .pp 1 0), (4, .pp 2 0), (5, .pp 4 0), (6, .sl 6)]) (fun ((t4_1_1, t6s_1) : Int × List Int) => [.row false (.ints .u8 a0), .box [.v (.int .i64 0), .v (.slice none 0 0)], .box [.sl 3, .v (.int .i64 t4_1_1)], .row false (.ints .u8 y), .box [.v (.int .i64 y_2), .sl 5], .row true (.trips y_3), .row true (.ints .i64 t6s_1)]) ?_ ?_ ?_ ?_
        · rintro ⟨t4_1_1, t6s_1⟩ hy <;> cases hy
        · clear h hx
          exact Red.selA [0, 1, 2, 3, 5, 4, 6] Red.auto
        · clear h hx
          rintro ⟨t7, t4_1, t6s⟩ r h
          unfold spec_DrawForestRight_b0 at h
          try dsimp only at h
          try dsimp only
          refine awp_seq fun K29 hK29 => ?_
          refine awp_reg ftCOk [(2, .pp 1 0), (4, .pp 2 0), (5, .pp 4 0), (6, .sl 6), (7, .v (.int .i64 t7)), (17, .v (.bool (decide (t7 < (t6s.length : Int)))))] [.row false (.ints .u8 a0), .box [.v (.int .i64 0), .v (.slice none 0 0)], .box [.sl 3, .v (.int .i64 t4_1)], .row false (.ints .u8 y), .box [.v (.int .i64 y_2), .sl 5], .row true (.trips y_3), .row true (.ints .i64 t6s)] ?_
          refine awp_cond (t := 17) rfl (fun hc30 => ?_) (fun hc30 => ?_)
          · replace h := bite_t h hc30
            refine awp_skip ?_
            (try simp only [Thn, InBlk, ↓reduceIte, Nat.reduceEqDiff])
            refine hK29 _ _ ?_
            clear hK29
            refine awp_join h (fun ((t4_1_2, t6s_2) : Int × List Int) => [(2, .pp 1 0), (4, .pp 2 0), (5, .pp 4 0), (6, .sl 6), (7, .v (.int .i64 t7))]) (fun ((t4_1_2, t6s_2) : Int × List Int) => [.row false (.ints .u8 a0), .box [.v (.int .i64 0), .v (.slice none 0 0)], .box [.sl 3, .v (.int .i64 t4_1_2)], .row false (.ints .u8 y), .box [.v (.int .i64 y_2), .sl 5], .row true (.trips y_3), .row true (.ints .i64 t6s_2)]) ?_ ?_
            · clear h
              intro k h
              try dsimp only at h
              refine awp_block ?_
              replace h := bind_some h
              obtain ⟨⟨y_6, y_7⟩, hr0, h⟩ := h
              try dsimp only at h
              refine awp_to [(2, .pp 1 0), (4, .pp 2 0), (5, .pp 4 0), (6, .sl 6), (7, .v (.int .i64 t7)), (22, .v (.bool (y_6 == 0)))] [.row false (.ints .u8 a0), .box [.v (.int .i64 0), .v (.slice none 0 0)], .box [.sl 3, .v (.int .i64 y_7)], .row false (.ints .u8 y), .box [.v (.int .i64 y_2), .sl 5], .row true (.trips y_3), .row true (.ints .i64 t6s)] ?_ ?_
              · clear h
                intro K hK
                refine awp_region ftCOk ?_
                simp (maxSteps := 4000000) only [go_sem, Nat.reduceBEq, Nat.reduceLT, Nat.reduceAdd, Nat.reduceLeDiff, Nat.reduceSub, Nat.reduceEqDiff, Int.reduceToNat, reduceCtorEq, ↓reduceIte]
                repeat' (first | refine And.intro ?_ ?_ | intro hg)
                all_goals (try simp (disch := omega) only [wrap_fits])
                all_goals first
                  | (refine hK _ _ ?_; exact Red.auto)
                  | exact trivial
                  | assumption
                  | omega
                  | exact wrap_fits (by omega) (by omega)
                  | (refine wpA_callA (k_spec_l20Rd_pick y t4_1 9 (h := hr0)) [2, 3] [] ?_
                     rintro x Hc' ⟨rfl, rfl⟩ hlen
                     refine vcOps_sound ftCOk ?_
                     simp (maxSteps := 4000000) only [go_sem, Nat.reduceBEq, Nat.reduceLT, Nat.reduceAdd, Nat.reduceLeDiff, Nat.reduceSub, Nat.reduceEqDiff, Int.reduceToNat, reduceCtorEq, ↓reduceIte]
                     repeat' (first | refine And.intro ?_ ?_ | intro hg)
                     all_goals (try simp (disch := omega) only [wrap_fits])
                     all_goals first
                       | (refine hK _ _ ?_; exact Red.auto)
                       | exact trivial
                       | assumption
                       | omega
                       | exact wrap_fits (by omega) (by omega)
                       | (simp_all; done)
                       | (simp_all; omega))
                  | (simp_all; done)
                  | (simp_all; omega)
              · clear hr0
                refine awp_cond (t := 22) rfl (fun hc32 => ?_) (fun hc32 => ?_)
                · replace h := bite_t h hc32
                  replace h := bind_some h
                  obtain ⟨⟨y_8, y_9⟩, hr0, h⟩ := h
                  try dsimp only at h
                  replace h := bind_some h
                  obtain ⟨⟨y_10, y_11⟩, hr1, h⟩ := h
                  try dsimp only at h
                  replace h := chk_some h
                  obtain ⟨hp2, h⟩ := h
                  replace h := chk_some h
                  obtain ⟨hp3, h⟩ := h
                  replace h := chk_some h
                  obtain ⟨hp4, h⟩ := h
                  refine awp_end [(2, .pp 1 0), (4, .pp 2 0), (5, .pp 4 0), (6, .sl 6), (7, .v (.int .i64 t7))] [.row false (.ints .u8 a0), .box [.v (.int .i64 0), .v (.slice none 0 0)], .box [.sl 3, .v (.int .i64 y_11)], .row false (.ints .u8 y), .box [.v (.int .i64 y_2), .sl 5], .row true (.trips y_3), .row true (.ints .i64 (t6s.set t7.toNat (([t7, y_8, (-1)] : List Int).getD ((([0, 0, 1, 1, 2] : List Int).getD y_10.toNat 0).toNat) 0))), .row true (.ints .i64 [t7, y_8, (-1)]), .row true (.ints .i64 [0, 0, 1, 1, 2])] ?_ ?_
                  · clear h
                    intro K hK
                    refine awp_region ftCOk ?_
                    simp (maxSteps := 4000000) only [go_sem, Nat.reduceBEq, Nat.reduceLT, Nat.reduceAdd, Nat.reduceLeDiff, Nat.reduceSub, Nat.reduceEqDiff, Int.reduceToNat, reduceCtorEq, ↓reduceIte]
                    repeat' (first | refine And.intro ?_ ?_ | intro hg)
                    all_goals (try simp (disch := omega) only [wrap_fits])
                    all_goals first
                      | (refine hK _ _ ?_; exact Red.auto)
                      | exact trivial
                      | assumption
                      | omega
                      | exact wrap_fits (by omega) (by omega)
                      | (refine wpA_callA (k_spec_l20Rd_pick y y_7 (t6s.length : Int) (h := hr0)) [2, 3] [] ?_
                         rintro x Hc' ⟨rfl, rfl⟩ hlen
                         refine vcOps_sound ftCOk ?_
                         simp (maxSteps := 4000000) only [go_sem, Nat.reduceBEq, Nat.reduceLT, Nat.reduceAdd, Nat.reduceLeDiff, Nat.reduceSub, Nat.reduceEqDiff, Int.reduceToNat, reduceCtorEq, ↓reduceIte]
                         repeat' (first | refine And.intro ?_ ?_ | intro hg)
                         all_goals (try simp (disch := omega) only [wrap_fits])
                         all_goals first
                           | (refine hK _ _ ?_; exact Red.auto)
                           | exact trivial
                           | assumption
                           | omega
                           | exact wrap_fits (by omega) (by omega)
                           | (refine wpA_callA (k_spec_l20Rd_pick y y_9 5 (h := hr1)) [2, 3] [] ?_
                              rintro x Hc' ⟨rfl, rfl⟩ hlen
                              refine vcOps_sound ftCOk ?_
                              simp (maxSteps := 4000000) only [go_sem, Nat.reduceBEq, Nat.reduceLT, Nat.reduceAdd, Nat.reduceLeDiff, Nat.reduceSub, Nat.reduceEqDiff, Int.reduceToNat, reduceCtorEq, ↓reduceIte]
                              repeat' (first | refine And.intro ?_ ?_ | intro hg)
                              all_goals (try simp (disch := omega) only [wrap_fits])
                              all_goals first
                                | (refine hK _ _ ?_; exact Red.auto)
                                | exact trivial
                                | assumption
                                | omega
                                | exact wrap_fits (by omega) (by omega)
                                | (simp_all; done)
                                | (simp_all; omega))
                           | (simp_all; done)
                           | (simp_all; omega))
                      | (simp_all; done)
                      | (simp_all; omega)
                  · clear hr0 hr1 hp2 hp3 hp4
                    (try simp only [Thn, InBlk, ↓reduceIte, Nat.reduceEqDiff])
                    (try simp only [Thn, InBlk, ↓reduceIte, Nat.reduceEqDiff])
                    refine ⟨_, h, ?_⟩
                    exact Red.selA [0, 1, 2, 3, 4, 5, 6] Red.auto
                · replace h := bite_f h hc32
                  refine awp_skip ?_
                  (try simp only [Thn, InBlk, ↓reduceIte, Nat.reduceEqDiff])
                  (try simp only [Thn, InBlk, ↓reduceIte, Nat.reduceEqDiff])
                  refine ⟨_, h, ?_⟩
                  exact Red.auto
            · clear h
              rintro ⟨t4_1_2, t6s_2⟩ h
              try dsimp only at h
              try dsimp only
              replace h := chk_some h
              obtain ⟨hp0, h⟩ := h
              refine awp_regE ftCOk [(2, .pp 1 0), (4, .pp 2 0), (5, .pp 4 0), (6, .sl 6), (7, .v (.int .i64 (t7 + 1)))] [.row false (.ints .u8 a0), .box [.v (.int .i64 0), .v (.slice none 0 0)], .box [.sl 3, .v (.int .i64 t4_1_2)], .row false (.ints .u8 y), .box [.v (.int .i64 y_2), .sl 5], .row true (.trips y_3), .row true (.ints .i64 t6s_2)] ?_
              clear hp0
              obtain rfl := Option.some.inj h
              refine LoopQ.next ?_
              exact Red.auto
          · replace h := bite_f h hc30
            refine awp_exit ?_
            (try simp only [Thn, InBlk, ↓reduceIte, Nat.reduceEqDiff])
            obtain rfl := Option.some.inj h
            refine LoopQ.out rfl ?_
            exact Red.auto
        · clear hx
          rcases x33 with ⟨t4_1_1, t6s_1⟩
          · try dsimp only [Sum.elim_inl, Sum.elim_inr] at h
            try dsimp only [Sum.elim_inl, Sum.elim_inr]
            (try simp only [Thn, InBlk, ↓reduceIte, Nat.reduceEqDiff])
            (try simp only [Thn, InBlk, ↓reduceIte, Nat.reduceEqDiff])
            (try simp only [Thn, InBlk, ↓reduceIte, Nat.reduceEqDiff])
            refine hK17 _ _ ?_
            clear hK17
            refine awp_join h (fun (t6s_3 : List Int) => [(2, .pp 1 0), (5, .pp 2 0), (6, .sl 4)]) (fun (t6s_3 : List Int) => [.row false (.ints .u8 a0), .box [.v (.int .i64 0), .v (.slice none 0 0)], .box [.v (.int .i64 y_2), .sl 3], .row true (.trips y_3), .row true (.ints .i64 t6s_3)]) ?_ ?_
            · clear h
              intro k_1 h
              try dsimp only at h
              replace h := bind_some h
              obtain ⟨⟨y_12, y_13⟩, hr0, h⟩ := h
              try dsimp only at h
              refine awp_to [(2, .pp 1 0), (5, .pp 4 0), (6, .sl 6), (40, .v (.bool y_12))] [.row false (.ints .u8 a0), .box [.v (.int .i64 0), .v (.slice none 0 0)], .box [.sl 3, .v (.int .i64 y_13)], .row false (.ints .u8 y), .box [.v (.int .i64 y_2), .sl 5], .row true (.trips y_3), .row true (.ints .i64 t6s_1)] ?_ ?_
              · clear h
                intro K hK
                refine awp_region ftCOk ?_
                simp (maxSteps := 4000000) only [go_sem, Nat.reduceBEq, Nat.reduceLT, Nat.reduceAdd, Nat.reduceLeDiff, Nat.reduceSub, Nat.reduceEqDiff, Int.reduceToNat, reduceCtorEq, ↓reduceIte]
                repeat' (first | refine And.intro ?_ ?_ | intro hg)
                all_goals (try simp (disch := omega) only [wrap_fits])
                all_goals first
                  | (refine hK _ _ ?_; exact Red.auto)
                  | exact trivial
                  | assumption
                  | omega
                  | exact wrap_fits (by omega) (by omega)
                  | (refine wpA_callA (k_spec_l20Rd_odd y t4_1_1 14 (h := hr0)) [2, 3] [] ?_
                     rintro x Hc' ⟨rfl, rfl⟩ hlen
                     refine vcOps_sound ftCOk ?_
                     simp (maxSteps := 4000000) only [go_sem, Nat.reduceBEq, Nat.reduceLT, Nat.reduceAdd, Nat.reduceLeDiff, Nat.reduceSub, Nat.reduceEqDiff, Int.reduceToNat, reduceCtorEq, ↓reduceIte]
                     repeat' (first | refine And.intro ?_ ?_ | intro hg)
                     all_goals (try simp (disch := omega) only [wrap_fits])
                     all_goals first
                       | (refine hK _ _ ?_; exact Red.auto)
                       | exact trivial
                       | assumption
                       | omega
                       | exact wrap_fits (by omega) (by omega)
                       | (simp_all; done)
                       | (simp_all; omega))
                  | (simp_all; done)
                  | (simp_all; omega)
              · clear hr0
                refine awp_cond (t := 40) rfl (fun hc35 => ?_) (fun hc35 => ?_)
                · replace h := bite_t h hc35
                  replace h := chk_some h
                  obtain ⟨hp0, h⟩ := h
                  refine awp_regE ftCOk [(2, .pp 1 0), (5, .pp 4 0), (6, .sl 6)] [.row false (.ints .u8 a0), .box [.v (.int .i64 0), .v (.slice none 0 0)], .box [.sl 3, .v (.int .i64 y_13)], .row false (.ints .u8 y), .box [.v (.int .i64 y_2), .sl 5], .row true (.trips y_3), .row true (.ints .i64 (t6s_1 ++ [0])), .row true (.ints .i64 [0])] ?_
                  clear hp0
                  (try simp only [Thn, InBlk, ↓reduceIte, Nat.reduceEqDiff])
                  refine ⟨_, h, ?_⟩
                  exact Red.selA [0, 1, 4, 5, 6] Red.auto
                · replace h := bite_f h hc35
                  refine awp_skip ?_
                  (try simp only [Thn, InBlk, ↓reduceIte, Nat.reduceEqDiff])
                  refine ⟨_, h, ?_⟩
                  exact Red.selA [0, 1, 4, 5, 6] Red.auto
            · clear h
              rintro t6s_3 h
              try dsimp only at h
              try dsimp only
              refine awp_reg ftCOk [(2, .pp 1 0), (3, .sl 4)] [.row false (.ints .u8 a0), .box [.v (.int .i64 y_2), .sl 3], .box [.v (.int .i64 y_2), .sl 3], .row true (.trips y_3), .row true (.ints .i64 t6s_3)] ?_
              refine awp_ret ?_
              (try simp only [Thn, InBlk, ↓reduceIte, Nat.reduceEqDiff])
              obtain rfl := Option.some.inj h
              refine ⟨by simp, _, [0, 3, 4], (by simp only [go_sem, Nat.reduceBEq, Nat.reduceLT, Nat.reduceAdd, Nat.reduceLeDiff, Nat.reduceSub, Nat.reduceEqDiff, Int.reduceToNat, reduceCtorEq, ↓reduceIte]; exact rfl), ?_, ?_, ?_, ?_⟩
              · first | exact trivial | exact ⟨trivial, trivial⟩ | exact ⟨trivial, trivial, trivial⟩ | exact ⟨trivial, trivial, trivial, trivial⟩ | (simp only [allP, and_true, true_and]; done) | (simp only [allP, and_true, true_and]; omega)
              · simp [selOk, pos]
              · simp
              · first | exact ⟨rfl, rfl⟩ | (simp only [go_sem, Nat.reduceBEq, Nat.reduceLT, Nat.reduceAdd, Nat.reduceLeDiff, Nat.reduceSub, Nat.reduceEqDiff, Int.reduceToNat, reduceCtorEq, ↓reduceIte]; done) | (simp [go_sem, Nat.reduceBEq, Nat.reduceLT, Nat.reduceAdd, Nat.reduceLeDiff, Nat.reduceSub, Nat.reduceEqDiff, Int.reduceToNat, reduceCtorEq, ↓reduceIte]; done) | (simp only [go_sem, Nat.reduceBEq, Nat.reduceLT, Nat.reduceAdd, Nat.reduceLeDiff, Nat.reduceSub, Nat.reduceEqDiff, Int.reduceToNat, reduceCtorEq, ↓reduceIte]; exact ⟨rfl, rfl⟩) | (simp_all [go_sem, Nat.reduceBEq, Nat.reduceLT, Nat.reduceAdd, Nat.reduceLeDiff, Nat.reduceSub, Nat.reduceEqDiff, Int.reduceToNat, reduceCtorEq, ↓reduceIte]; done)
theorem k_impl_ForestDepth (a0 : List Int) (a1 : Int) {r : Int} (h : impl_ForestDepth a0 a1 = some r) :
    FnA Try.prog 32 [.sl 0, .v (.int .i64 a1)] [.row false (.ints .i64 a0)] [] (fun x H => x = .v (.int .i64 r) ∧ H = [.row false (.ints .i64 a0)]) := by
  unfold impl_ForestDepth at h
  refine FnA.of (N := 21) (pin := [0]) (rs := [.tmp 4]) Try.func32 rfl en32 rfl rfl (by simp) (by simp; try omega) ?_
  refine awp_reg ftCOk [(0, .sl 0), (1, .v (.int .i64 a1))] [.row false (.ints .i64 a0)] ?_
  refine awp_seq fun K2 hK2 => ?_
  refine awp_reg ftCOk [(0, .sl 0), (1, .v (.int .i64 a1)), (10, .v (.bool (decide (16 < (a0.length : Int)))))] [.row false (.ints .i64 a0)] ?_
  refine awp_cond (t := 10) rfl (fun hc3 => ?_) (fun hc3 => ?_)
  · replace h := bite_t h hc3
    refine awp_reg ftCOk [(4, .v (.int .i64 (-1)))] [.row false (.ints .i64 a0)] ?_
    refine awp_ret ?_
    (try simp only [Thn, InBlk, ↓reduceIte, Nat.reduceEqDiff])
    obtain rfl := Option.some.inj h
    refine ⟨by simp, _, [0], (by simp only [go_sem, Nat.reduceBEq, Nat.reduceLT, Nat.reduceAdd, Nat.reduceLeDiff, Nat.reduceSub, Nat.reduceEqDiff, Int.reduceToNat, reduceCtorEq, ↓reduceIte]; exact rfl), ?_, ?_, ?_, ?_⟩
    · first | exact trivial | exact ⟨trivial, trivial⟩ | exact ⟨trivial, trivial, trivial⟩ | exact ⟨trivial, trivial, trivial, trivial⟩ | (simp only [allP, and_true, true_and]; done) | (simp only [allP, and_true, true_and]; omega)
    · simp [selOk, pos]
    · simp
    · first | exact ⟨rfl, rfl⟩ | (simp only [go_sem, Nat.reduceBEq, Nat.reduceLT, Nat.reduceAdd, Nat.reduceLeDiff, Nat.reduceSub, Nat.reduceEqDiff, Int.reduceToNat, reduceCtorEq, ↓reduceIte]; done) | (simp [go_sem, Nat.reduceBEq, Nat.reduceLT, Nat.reduceAdd, Nat.reduceLeDiff, Nat.reduceSub, Nat.reduceEqDiff, Int.reduceToNat, reduceCtorEq, ↓reduceIte]; done) | (simp only [go_sem, Nat.reduceBEq, Nat.reduceLT, Nat.reduceAdd, Nat.reduceLeDiff, Nat.reduceSub, Nat.reduceEqDiff, Int.reduceToNat, reduceCtorEq, ↓reduceIte]; exact ⟨rfl, rfl⟩) | (simp_all [go_sem, Nat.reduceBEq, Nat.reduceLT, Nat.reduceAdd, Nat.reduceLeDiff, Nat.reduceSub, Nat.reduceEqDiff, Int.reduceToNat, reduceCtorEq, ↓reduceIte]; done)
  · replace h := bite_f h hc3
    refine awp_skip ?_
    (try simp only [Thn, InBlk, ↓reduceIte, Nat.reduceEqDiff])
    refine hK2 _ _ ?_
    clear hK2
    replace h := bind_some h
    obtain ⟨⟨y, y_1, y_2⟩, hr0, h⟩ := h
    try dsimp only at h
    refine awp_to [(6, .v (.int .i64 y_1)), (7, .v (.bool y_2))] [.row false (.ints .i64 a0)] ?_ ?_
    · clear h
      intro K hK
      refine awp_region ftCOk ?_
      simp (maxSteps := 4000000) only [go_sem, Nat.reduceBEq, Nat.reduceLT, Nat.reduceAdd, Nat.reduceLeDiff, Nat.reduceSub, Nat.reduceEqDiff, Int.reduceToNat, reduceCtorEq, ↓reduceIte]
      repeat' (first | refine And.intro ?_ ?_ | intro hg)
      all_goals (try simp (disch := omega) only [wrap_fits])
      all_goals first
        | (refine hK _ _ ?_; exact Red.auto)
        | exact trivial
        | assumption
        | omega
        | exact wrap_fits (by omega) (by omega)
        | (refine wpA_callA (k_impl_endOf a0 a1 (h := hr0)) [0] [] ?_
           rintro x Hc' ⟨rfl, rfl⟩ hlen
           refine vcOps_sound ftCOk ?_
           simp (maxSteps := 4000000) only [go_sem, Nat.reduceBEq, Nat.reduceLT, Nat.reduceAdd, Nat.reduceLeDiff, Nat.reduceSub, Nat.reduceEqDiff, Int.reduceToNat, reduceCtorEq, ↓reduceIte]
           repeat' (first | refine And.intro ?_ ?_ | intro hg)
           all_goals (try simp (disch := omega) only [wrap_fits])
           all_goals first
             | (refine hK _ _ ?_; exact Red.auto)
             | exact trivial
             | assumption
             | omega
             | exact wrap_fits (by omega) (by omega)
             | (simp_all; done)
             | (simp_all; omega))
        | (simp_all; done)
        | (simp_all; omega)
    · clear hr0
      refine awp_seq fun K5 hK5 => ?_
      refine awp_reg ftCOk [(6, .v (.int .i64 y_1)), (19, .v (.bool (!y_2)))] [.row false (.ints .i64 a0)] ?_
      refine awp_cond (t := 19) rfl (fun hc6 => ?_) (fun hc6 => ?_)
      · replace h := bite_t h hc6
        refine awp_reg ftCOk [(4, .v (.int .i64 (-1)))] [.row false (.ints .i64 a0)] ?_
        refine awp_ret ?_
        (try simp only [Thn, InBlk, ↓reduceIte, Nat.reduceEqDiff])
        obtain rfl := Option.some.inj h
        refine ⟨by simp, _, [0], (by simp only [go_sem, Nat.reduceBEq, Nat.reduceLT, Nat.reduceAdd, Nat.reduceLeDiff, Nat.reduceSub, Nat.reduceEqDiff, Int.reduceToNat, reduceCtorEq, ↓reduceIte]; exact rfl), ?_, ?_, ?_, ?_⟩
        · first | exact trivial | exact ⟨trivial, trivial⟩ | exact ⟨trivial, trivial, trivial⟩ | exact ⟨trivial, trivial, trivial, trivial⟩ | (simp only [allP, and_true, true_and]; done) | (simp only [allP, and_true, true_and]; omega)
        · simp [selOk, pos]
        · simp
        · first | exact ⟨rfl, rfl⟩ | (simp only [go_sem, Nat.reduceBEq, Nat.reduceLT, Nat.reduceAdd, Nat.reduceLeDiff, Nat.reduceSub, Nat.reduceEqDiff, Int.reduceToNat, reduceCtorEq, ↓reduceIte]; done) | (simp [go_sem, Nat.reduceBEq, Nat.reduceLT, Nat.reduceAdd, Nat.reduceLeDiff, Nat.reduceSub, Nat.reduceEqDiff, Int.reduceToNat, reduceCtorEq, ↓reduceIte]; done) | (simp only [go_sem, Nat.reduceBEq, Nat.reduceLT, Nat.reduceAdd, Nat.reduceLeDiff, Nat.reduceSub, Nat.reduceEqDiff, Int.reduceToNat, reduceCtorEq, ↓reduceIte]; exact ⟨rfl, rfl⟩) | (simp_all [go_sem, Nat.reduceBEq, Nat.reduceLT, Nat.reduceAdd, Nat.reduceLeDiff, Nat.reduceSub, Nat.reduceEqDiff, Int.reduceToNat, reduceCtorEq, ↓reduceIte]; done)
      · replace h := bite_f h hc6
        refine awp_skip ?_
        (try simp only [Thn, InBlk, ↓reduceIte, Nat.reduceEqDiff])
        refine hK5 _ _ ?_
        clear hK5
        refine awp_reg ftCOk [(4, .v (.int .i64 y_1))] [.row false (.ints .i64 a0)] ?_
        refine awp_ret ?_
        (try simp only [Thn, InBlk, ↓reduceIte, Nat.reduceEqDiff])
        obtain rfl := Option.some.inj h
        refine ⟨by simp, _, [0], (by simp only [go_sem, Nat.reduceBEq, Nat.reduceLT, Nat.reduceAdd, Nat.reduceLeDiff, Nat.reduceSub, Nat.reduceEqDiff, Int.reduceToNat, reduceCtorEq, ↓reduceIte]; exact rfl), ?_, ?_, ?_, ?_⟩
        · first | exact trivial | exact ⟨trivial, trivial⟩ | exact ⟨trivial, trivial, trivial⟩ | exact ⟨trivial, trivial, trivial, trivial⟩ | (simp only [allP, and_true, true_and]; done) | (simp only [allP, and_true, true_and]; omega)
        · simp [selOk, pos]
        · simp
        · first | exact ⟨rfl, rfl⟩ | (simp only [go_sem, Nat.reduceBEq, Nat.reduceLT, Nat.reduceAdd, Nat.reduceLeDiff, Nat.reduceSub, Nat.reduceEqDiff, Int.reduceToNat, reduceCtorEq, ↓reduceIte]; done) | (simp [go_sem, Nat.reduceBEq, Nat.reduceLT, Nat.reduceAdd, Nat.reduceLeDiff, Nat.reduceSub, Nat.reduceEqDiff, Int.reduceToNat, reduceCtorEq, ↓reduceIte]; done) | (simp only [go_sem, Nat.reduceBEq, Nat.reduceLT, Nat.reduceAdd, Nat.reduceLeDiff, Nat.reduceSub, Nat.reduceEqDiff, Int.reduceToNat, reduceCtorEq, ↓reduceIte]; exact ⟨rfl, rfl⟩) | (simp_all [go_sem, Nat.reduceBEq, Nat.reduceLT, Nat.reduceAdd, Nat.reduceLeDiff, Nat.reduceSub, Nat.reduceEqDiff, Int.reduceToNat, reduceCtorEq, ↓reduceIte]; done)
theorem k_laws_FnForestRight (a0 : List Int) {r : Bool} (h : laws_FnForestRight a0 = some r) :
    FnA Try.prog 7 [.sl 0] [.row false (.ints .u8 a0)] [] (fun x H => x = .v (.bool r) ∧ H = [.row false (.ints .u8 a0)]) := by
  unfold laws_FnForestRight at h
  refine FnA.of (N := 58) (pin := [0]) (rs := [.tmp 2]) Try.func7 rfl en7 rfl rfl (by simp) (by simp; try omega) ?_
  refine awp_reg ftCOk [(0, .sl 0)] [.row false (.ints .u8 a0)] ?_
  refine awp_seq fun K2 hK2 => ?_
  refine awp_reg ftCOk [(0, .sl 0), (10, .v (.bool (decide (1048576 < (a0.length : Int)))))] [.row false (.ints .u8 a0)] ?_
  refine awp_cond (t := 10) rfl (fun hc3 => ?_) (fun hc3 => ?_)
  · replace h := bite_t h hc3
    refine awp_reg ftCOk [(2, .v (.bool true))] [.row false (.ints .u8 a0)] ?_
    refine awp_ret ?_
    (try simp only [Thn, InBlk, ↓reduceIte, Nat.reduceEqDiff])
    obtain rfl := Option.some.inj h
    refine ⟨by simp, _, [0], (by simp only [go_sem, Nat.reduceBEq, Nat.reduceLT, Nat.reduceAdd, Nat.reduceLeDiff, Nat.reduceSub, Nat.reduceEqDiff, Int.reduceToNat, reduceCtorEq, ↓reduceIte]; exact rfl), ?_, ?_, ?_, ?_⟩
    · first | exact trivial | exact ⟨trivial, trivial⟩ | exact ⟨trivial, trivial, trivial⟩ | exact ⟨trivial, trivial, trivial, trivial⟩ | (simp only [allP, and_true, true_and]; done) | (simp only [allP, and_true, true_and]; omega)
    · simp [selOk, pos]
    · simp
    · first | exact ⟨rfl, rfl⟩ | (simp only [go_sem, Nat.reduceBEq, Nat.reduceLT, Nat.reduceAdd, Nat.reduceLeDiff, Nat.reduceSub, Nat.reduceEqDiff, Int.reduceToNat, reduceCtorEq, ↓reduceIte]; done) | (simp [go_sem, Nat.reduceBEq, Nat.reduceLT, Nat.reduceAdd, Nat.reduceLeDiff, Nat.reduceSub, Nat.reduceEqDiff, Int.reduceToNat, reduceCtorEq, ↓reduceIte]; done) | (simp only [go_sem, Nat.reduceBEq, Nat.reduceLT, Nat.reduceAdd, Nat.reduceLeDiff, Nat.reduceSub, Nat.reduceEqDiff, Int.reduceToNat, reduceCtorEq, ↓reduceIte]; exact ⟨rfl, rfl⟩) | (simp_all [go_sem, Nat.reduceBEq, Nat.reduceLT, Nat.reduceAdd, Nat.reduceLeDiff, Nat.reduceSub, Nat.reduceEqDiff, Int.reduceToNat, reduceCtorEq, ↓reduceIte]; done)
  · replace h := bite_f h hc3
    refine awp_skip ?_
    (try simp only [Thn, InBlk, ↓reduceIte, Nat.reduceEqDiff])
    refine hK2 _ _ ?_
    clear hK2
    replace h := bind_some h
    obtain ⟨⟨y, y_1, y_2⟩, hr0, h⟩ := h
    try dsimp only at h
    refine awp_to [(3, .pp 3 0), (4, .sl 2)] [.row false (.ints .u8 a0), .row true (.trips y_1), .row true (.ints .i64 y_2), .box [.v (.int .i64 y), .sl 1]] ?_ ?_
    · clear h
      intro K hK
      refine awp_region ftCOk ?_
      simp (maxSteps := 4000000) only [go_sem, Nat.reduceBEq, Nat.reduceLT, Nat.reduceAdd, Nat.reduceLeDiff, Nat.reduceSub, Nat.reduceEqDiff, Int.reduceToNat, reduceCtorEq, ↓reduceIte]
      repeat' (first | refine And.intro ?_ ?_ | intro hg)
      all_goals (try simp (disch := omega) only [wrap_fits])
      all_goals first
        | (refine hK _ _ ?_; exact Red.auto)
        | exact trivial
        | assumption
        | omega
        | exact wrap_fits (by omega) (by omega)
        | (refine wpA_callA (k_spec_DrawForestRight a0 (h := hr0)) [0] [] ?_
           rintro x Hc' ⟨rfl, rfl⟩ hlen
           refine vcOps_sound ftCOk ?_
           simp (maxSteps := 4000000) only [go_sem, Nat.reduceBEq, Nat.reduceLT, Nat.reduceAdd, Nat.reduceLeDiff, Nat.reduceSub, Nat.reduceEqDiff, Int.reduceToNat, reduceCtorEq, ↓reduceIte]
           repeat' (first | refine And.intro ?_ ?_ | intro hg)
           all_goals (try simp (disch := omega) only [wrap_fits])
           all_goals first
             | (refine hK _ _ ?_; exact Red.auto)
             | exact trivial
             | assumption
             | omega
             | exact wrap_fits (by omega) (by omega)
             | (simp_all; done)
             | (simp_all; omega))
        | (simp_all; done)
        | (simp_all; omega)
    · clear hr0
      replace h := bind_some h
      obtain ⟨y_3, hr0, h⟩ := h
      try dsimp only at h
      refine awp_to [(3, .pp 3 0), (4, .sl 2), (5, .v (.bool y_3))] [.row false (.ints .u8 a0), .row true (.trips y_1), .row true (.ints .i64 y_2), .box [.v (.int .i64 y), .sl 1]] ?_ ?_
      · clear h
        intro K hK
        refine awp_region ftCOk ?_
        simp (maxSteps := 4000000) only [go_sem, Nat.reduceBEq, Nat.reduceLT, Nat.reduceAdd, Nat.reduceLeDiff, Nat.reduceSub, Nat.reduceEqDiff, Int.reduceToNat, reduceCtorEq, ↓reduceIte]
        repeat' (first | refine And.intro ?_ ?_ | intro hg)
        all_goals (try simp (disch := omega) only [wrap_fits])
        all_goals first
          | (refine hK _ _ ?_; exact Red.auto)
          | exact trivial
          | assumption
          | omega
          | exact wrap_fits (by omega) (by omega)
          | (refine wpA_callA (k_impl_ForestRight y y_1 y_2 (h := hr0)) [1, 2] [] ?_
             rintro x Hc' ⟨rfl, rfl⟩ hlen
             refine vcOps_sound ftCOk ?_
             simp (maxSteps := 4000000) only [go_sem, Nat.reduceBEq, Nat.reduceLT, Nat.reduceAdd, Nat.reduceLeDiff, Nat.reduceSub, Nat.reduceEqDiff, Int.reduceToNat, reduceCtorEq, ↓reduceIte]
             repeat' (first | refine And.intro ?_ ?_ | intro hg)
             all_goals (try simp (disch := omega) only [wrap_fits])
             all_goals first
               | (refine hK _ _ ?_; exact Red.auto)
               | exact trivial
               | assumption
               | omega
               | exact wrap_fits (by omega) (by omega)
               | (simp_all; done)
               | (simp_all; omega))
          | (simp_all; done)
          | (simp_all; omega)
      · clear hr0
        refine awp_seq fun K5 hK5 => ?_
        replace h := bind_some h
        obtain ⟨y_4, hr0, h⟩ := h
        try dsimp only at h
        refine awp_to [(3, .pp 3 0), (4, .sl 2), (5, .v (.bool y_3)), (23, .v (.bool (!(y_3 == y_4))))] [.row false (.ints .u8 a0), .row true (.trips y_1), .row true (.ints .i64 y_2), .box [.v (.int .i64 y), .sl 1]] ?_ ?_
        · clear h
          intro K hK
          refine awp_region ftCOk ?_
          simp (maxSteps := 4000000) only [go_sem, Nat.reduceBEq, Nat.reduceLT, Nat.reduceAdd, Nat.reduceLeDiff, Nat.reduceSub, Nat.reduceEqDiff, Int.reduceToNat, reduceCtorEq, ↓reduceIte]
          repeat' (first | refine And.intro ?_ ?_ | intro hg)
          all_goals (try simp (disch := omega) only [wrap_fits])
          all_goals first
            | (refine hK _ _ ?_; exact Red.auto)
            | exact trivial
            | assumption
            | omega
            | exact wrap_fits (by omega) (by omega)
            | (refine wpA_callA (k_spec_ForestRight y y_1 y_2 (h := hr0)) [1, 2] [] ?_
               rintro x Hc' ⟨rfl, rfl⟩ hlen
               refine vcOps_sound ftCOk ?_
               simp (maxSteps := 4000000) only [go_sem, Nat.reduceBEq, Nat.reduceLT, Nat.reduceAdd, Nat.reduceLeDiff, Nat.reduceSub, Nat.reduceEqDiff, Int.reduceToNat, reduceCtorEq, ↓reduceIte]
               repeat' (first | refine And.intro ?_ ?_ | intro hg)
               all_goals (try simp (disch := omega) only [wrap_fits])
               all_goals first
                 | (refine hK _ _ ?_; exact Red.auto)
                 | exact trivial
                 | assumption
                 | omega
                 | exact wrap_fits (by omega) (by omega)
                 | (simp_all; done)
                 | (simp_all; omega))
            | (simp_all; done)
            | (simp_all; omega)
        · clear hr0
          refine awp_cond (t := 23) rfl (fun hc6 => ?_) (fun hc6 => ?_)
          · replace h := bite_t h hc6
            refine awp_reg ftCOk [(2, .v (.bool false))] [.row false (.ints .u8 a0), .row true (.trips y_1), .row true (.ints .i64 y_2), .box [.v (.int .i64 y), .sl 1]] ?_
            refine awp_ret ?_
            (try simp only [Thn, InBlk, ↓reduceIte, Nat.reduceEqDiff])
            obtain rfl := Option.some.inj h
            refine ⟨by simp, _, [0], (by simp only [go_sem, Nat.reduceBEq, Nat.reduceLT, Nat.reduceAdd, Nat.reduceLeDiff, Nat.reduceSub, Nat.reduceEqDiff, Int.reduceToNat, reduceCtorEq, ↓reduceIte]; exact rfl), ?_, ?_, ?_, ?_⟩
            · first | exact trivial | exact ⟨trivial, trivial⟩ | exact ⟨trivial, trivial, trivial⟩ | exact ⟨trivial, trivial, trivial, trivial⟩ | (simp only [allP, and_true, true_and]; done) | (simp only [allP, and_true, true_and]; omega)
            · simp [selOk, pos]
            · simp
            · first | exact ⟨rfl, rfl⟩ | (simp only [go_sem, Nat.reduceBEq, Nat.reduceLT, Nat.reduceAdd, Nat.reduceLeDiff, Nat.reduceSub, Nat.reduceEqDiff, Int.reduceToNat, reduceCtorEq, ↓reduceIte]; done) | (simp [go_sem, Nat.reduceBEq, Nat.reduceLT, Nat.reduceAdd, Nat.reduceLeDiff, Nat.reduceSub, Nat.reduceEqDiff, Int.reduceToNat, reduceCtorEq, ↓reduceIte]; done) | (simp only [go_sem, Nat.reduceBEq, Nat.reduceLT, Nat.reduceAdd, Nat.reduceLeDiff, Nat.reduceSub, Nat.reduceEqDiff, Int.reduceToNat, reduceCtorEq, ↓reduceIte]; exact ⟨rfl, rfl⟩) | (simp_all [go_sem, Nat.reduceBEq, Nat.reduceLT, Nat.reduceAdd, Nat.reduceLeDiff, Nat.reduceSub, Nat.reduceEqDiff, Int.reduceToNat, reduceCtorEq, ↓reduceIte]; done)
          · replace h := bite_f h hc6
            refine awp_skip ?_
            (try simp only [Thn, InBlk, ↓reduceIte, Nat.reduceEqDiff])
            refine hK5 _ _ ?_
            clear hK5
            refine awp_reg ftCOk [(3, .pp 3 0), (4, .sl 2), (5, .v (.bool y_3)), (6, .sl 4)] [.row false (.ints .u8 a0), .row true (.trips y_1), .row true (.ints .i64 y_2), .box [.v (.int .i64 y), .sl 1], .row true (.ints .i64 [])] ?_
            refine awp_seq fun K26 hK26 => ?_
            refine awp_reg ftCOk [(3, .pp 3 0), (4, .sl 2), (5, .v (.bool y_3)), (6, .sl 4), (7, .v (.int .i64 0))] [.row false (.ints .u8 a0), .row true (.trips y_1), .row true (.ints .i64 y_2), .box [.v (.int .i64 y), .sl 1], .row true (.ints .i64 [])] ?_
            refine awp_block ?_
            replace h := bind_some h
            obtain ⟨x45, hx, h⟩ := h
            refine awp_loopL hx (fun ((t7, t6s) : Int × List Int) => [(3, .pp 1 0), (4, .sl 3), (5, .v (.bool y_3)), (6, .sl 4), (7, .v (.int .i64 t7))]) (fun ((t7, t6s) : Int × List Int) => [.row false (.ints .u8 a0), .box [.v (.int .i64 y), .sl 2], .row true (.trips y_1), .row true (.ints .i64 y_2), .row true (.ints .i64 t6s)]) (Sum.elim (fun (t6s_1 : List Int) => Exit.exit 0) (fun (_ : Unit) => Exit.ret)) (Sum.elim (fun (t6s_1 : List Int) => [(3, .pp 1 0), (6, .sl 3)]) (fun (_ : Unit) => [(2, .v (.bool false))])) (Sum.elim (fun (t6s_1 : List Int) => [.row false (.ints .u8 a0), .box [.v (.int .i64 y), .sl 2], .row true (.trips y_1), .row true (.ints .i64 t6s_1)]) (fun (_ : Unit) => [.row false (.ints .u8 a0)])) ?_ ?_ ?_ ?_
            · rintro (t6s_1 | ⟨⟩) hy <;> cases hy
            · clear h hx
              exact Red.selA [0, 3, 1, 2, 4] Red.auto
            · clear h hx
              rintro ⟨t7, t6s⟩ r h
              unfold laws_FnForestRight_b0 at h
              try dsimp only at h
              try dsimp only
              refine awp_seq fun K40 hK40 => ?_
              refine awp_reg ftCOk [(3, .pp 1 0), (4, .sl 3), (5, .v (.bool y_3)), (6, .sl 4), (7, .v (.int .i64 t7)), (28, .v (.bool (decide (t7 < y))))] [.row false (.ints .u8 a0), .box [.v (.int .i64 y), .sl 2], .row true (.trips y_1), .row true (.ints .i64 y_2), .row true (.ints .i64 t6s)] ?_
              refine awp_cond (t := 28) rfl (fun hc41 => ?_) (fun hc41 => ?_)
              · replace h := bite_t h hc41
                refine awp_skip ?_
                (try simp only [Thn, InBlk, ↓reduceIte, Nat.reduceEqDiff])
                refine hK40 _ _ ?_
                clear hK40
                refine awp_seq fun K43 hK43 => ?_
                refine awp_block ?_
                replace h := chk_some h
                obtain ⟨hp0, h⟩ := h
                refine awp_reg ftCOk [(3, .pp 1 0), (4, .sl 3), (5, .v (.bool y_3)), (6, .sl 4), (7, .v (.int .i64 t7))] [.row false (.ints .u8 a0), .box [.v (.int .i64 y), .sl 2], .row true (.trips y_1), .row true (.ints .i64 y_2), .row true (.ints .i64 (t6s ++ [t7])), .row true (.ints .i64 [t7])] ?_
                clear hp0
                replace h := bind_some h
                obtain ⟨y_5, hr0, h⟩ := h
                try dsimp only at h
                refine awp_to [(3, .pp 1 0), (4, .sl 3), (5, .v (.bool y_3)), (6, .sl 4), (7, .v (.int .i64 t7)), (41, .v (.bool (y_3 && (decide (y_5 < 0)))))] [.row false (.ints .u8 a0), .box [.v (.int .i64 y), .sl 2], .row true (.trips y_1), .row true (.ints .i64 y_2), .row true (.ints .i64 (t6s ++ [t7])), .row true (.ints .i64 [t7])] ?_ ?_
                · clear h
                  intro K hK
                  refine awp_region ftCOk ?_
                  simp (maxSteps := 4000000) only [go_sem, Nat.reduceBEq, Nat.reduceLT, Nat.reduceAdd, Nat.reduceLeDiff, Nat.reduceSub, Nat.reduceEqDiff, Int.reduceToNat, reduceCtorEq, ↓reduceIte]
                  repeat' (first | refine And.intro ?_ ?_ | intro hg)
                  all_goals (try simp (disch := omega) only [wrap_fits])
                  all_goals first
                    | (refine hK _ _ ?_; exact Red.auto)
                    | exact trivial
                    | assumption
                    | omega
                    | exact wrap_fits (by omega) (by omega)
                    | (refine wpA_guard rfl rfl ?_
                       refine wpA_callA (k_impl_ForestDepth y_2 t7 (h := (bite_t hr0 (by first | assumption | (simp only [*, Bool.false_or, Bool.true_or, Bool.or_false, Bool.or_true, Bool.false_and, Bool.true_and, Bool.and_false, Bool.and_true, Bool.not_true, Bool.not_false, beq_self_eq_true]; done) | (simp_all; done))))) [3] [] ?_
                       rintro x Hc' ⟨rfl, rfl⟩ hlen
                       refine vcOps_sound ftCOk ?_
                       simp (maxSteps := 4000000) only [go_sem, Nat.reduceBEq, Nat.reduceLT, Nat.reduceAdd, Nat.reduceLeDiff, Nat.reduceSub, Nat.reduceEqDiff, Int.reduceToNat, reduceCtorEq, ↓reduceIte]
                       repeat' (first | refine And.intro ?_ ?_ | intro hg)
                       all_goals (try simp (disch := omega) only [wrap_fits])
                       all_goals first
                         | (refine hK _ _ ?_; exact Red.auto)
                         | exact trivial
                         | assumption
                         | omega
                         | exact wrap_fits (by omega) (by omega)
                         | (simp_all; done)
                         | (simp_all; omega))
                    | (simp_all; done)
                    | (simp_all; omega)
                · clear hr0
                  refine awp_cond (t := 41) rfl (fun hc44 => ?_) (fun hc44 => ?_)
                  · replace h := bite_t h hc44
                    refine awp_reg ftCOk [(2, .v (.bool false))] [.row false (.ints .u8 a0), .box [.v (.int .i64 y), .sl 2], .row true (.trips y_1), .row true (.ints .i64 y_2), .row true (.ints .i64 (t6s ++ [t7])), .row true (.ints .i64 [t7])] ?_
                    refine awp_ret ?_
                    (try simp only [Thn, InBlk, ↓reduceIte, Nat.reduceEqDiff])
                    obtain rfl := Option.some.inj h
                    refine LoopQ.out rfl ?_
                    exact Red.selA [0] Red.auto
                  · replace h := bite_f h hc44
                    refine awp_skip ?_
                    (try simp only [Thn, InBlk, ↓reduceIte, Nat.reduceEqDiff])
                    (try simp only [Thn, InBlk, ↓reduceIte, Nat.reduceEqDiff])
                    refine hK43 _ _ ?_
                    clear hK43
                    replace h := chk_some h
                    obtain ⟨hp0, h⟩ := h
                    refine awp_regE ftCOk [(3, .pp 1 0), (4, .sl 3), (5, .v (.bool y_3)), (6, .sl 4), (7, .v (.int .i64 (t7 + 1)))] [.row false (.ints .u8 a0), .box [.v (.int .i64 y), .sl 2], .row true (.trips y_1), .row true (.ints .i64 y_2), .row true (.ints .i64 (t6s ++ [t7])), .row true (.ints .i64 [t7])] ?_
                    clear hp0
                    obtain rfl := Option.some.inj h
                    refine LoopQ.next ?_
                    exact Red.selA [0, 1, 2, 3, 4] Red.auto
              · replace h := bite_f h hc41
                refine awp_exit ?_
                (try simp only [Thn, InBlk, ↓reduceIte, Nat.reduceEqDiff])
                obtain rfl := Option.some.inj h
                refine LoopQ.out rfl ?_
                exact Red.selA [0, 1, 2, 4] Red.auto
            · clear hx
              rcases x45 with (t6s_1 | ⟨⟩)
              · try dsimp only [Sum.elim_inl, Sum.elim_inr] at h
                try dsimp only [Sum.elim_inl, Sum.elim_inr]
                (try simp only [Thn, InBlk, ↓reduceIte, Nat.reduceEqDiff])
                (try simp only [Thn, InBlk, ↓reduceIte, Nat.reduceEqDiff])
                (try simp only [Thn, InBlk, ↓reduceIte, Nat.reduceEqDiff])
                refine hK26 _ _ ?_
                clear hK26
                replace h := bind_some h
                obtain ⟨y_6, hr0, h⟩ := h
                try dsimp only at h
                replace h := bind_some h
                obtain ⟨y_7, hr1, h⟩ := h
                try dsimp only at h
                replace h := bind_some h
                obtain ⟨y_8, hr2, h⟩ := h
                try dsimp only at h
                refine awp_to [(2, .v (.bool (((!y_6) || (y_7 == ((y_1.length : Int) == 0))) && y_8)))] [.row false (.ints .u8 a0), .box [.v (.int .i64 y), .sl 2], .row true (.trips y_1), .row true (.ints .i64 t6s_1)] ?_ ?_
                · clear h
                  intro K hK
                  refine awp_drawT mixed ftCOk (.one 0 (.one 1 (.one 2 (.one 3 (.free 5 (.free 7 (.two 4 8 (.two 6 8 (.one 8 (.one 9 (.one 10 (.one 11 (.one 12 (.one 13 (.one 14 (.one 15 (.one 16 .fin))))))))) (.two 6 9 (.one 9 (.one 10 (.one 11 (.one 12 (.one 13 (.one 14 (.one 15 (.one 16 .fin)))))))) (.free 10 (.one 6 (.one 11 (.one 12 (.one 13 (.one 14 (.one 15 (.one 16 .fin)))))))))) (.two 4 9 (.two 6 9 (.one 9 (.one 10 (.one 11 (.one 12 (.one 13 (.one 14 (.one 15 (.one 16 .fin)))))))) (.free 10 (.one 6 (.one 11 (.one 12 (.one 13 (.one 14 (.one 15 (.one 16 .fin))))))))) (.free 10 (.one 4 (.one 6 (.one 11 (.one 12 (.one 13 (.one 14 (.one 15 (.one 16 .fin))))))))))))))))) (by kernel_rfl) (by simp) ?_
                  simp (maxSteps := 4000000) only [go_sem, Nat.reduceBEq, Nat.reduceLT, Nat.reduceAdd, Nat.reduceLeDiff, Nat.reduceSub, Nat.reduceEqDiff, Int.reduceToNat, reduceCtorEq, ↓reduceIte]
                  repeat' (first | refine And.intro ?_ ?_ | intro hg)
                  all_goals (try simp (disch := omega) only [wrap_fits])
                  all_goals first
                    | (refine hK _ _ ?_; exact Red.auto)
                    | exact trivial
                    | assumption
                    | omega
                    | exact wrap_fits (by omega) (by omega)
                    | (refine OpK_callA (k_impl_GraphValid y y_1 (h := hr0)) [2] [] ?_
                       rintro x Hc' ⟨rfl, rfl⟩ hlen
                       simp (maxSteps := 4000000) only [go_sem, Nat.reduceBEq, Nat.reduceLT, Nat.reduceAdd, Nat.reduceLeDiff, Nat.reduceSub, Nat.reduceEqDiff, Int.reduceToNat, reduceCtorEq, ↓reduceIte]
                       repeat' (first | refine And.intro ?_ ?_ | intro hg)
                       all_goals (try simp (disch := omega) only [wrap_fits])
                       all_goals first
                         | (refine hK _ _ ?_; exact Red.auto)
                         | exact trivial
                         | assumption
                         | omega
                         | exact wrap_fits (by omega) (by omega)
                         | (refine OpK_callA (k_impl_ForestRight y y_1 t6s_1 (h := (bite_t hr1 (by rw [Bool.not_eq_true']; exact (by first | assumption | (simp only [*, Bool.false_or, Bool.true_or, Bool.or_false, Bool.or_true, Bool.false_and, Bool.true_and, Bool.and_false, Bool.and_true, Bool.not_true, Bool.not_false, beq_self_eq_true]; done) | (simp_all; done)))))) [2, 3] [] ?_
                            rintro x Hc' ⟨rfl, rfl⟩ hlen
                            simp (maxSteps := 4000000) only [go_sem, Nat.reduceBEq, Nat.reduceLT, Nat.reduceAdd, Nat.reduceLeDiff, Nat.reduceSub, Nat.reduceEqDiff, Int.reduceToNat, reduceCtorEq, ↓reduceIte]
                            repeat' (first | refine And.intro ?_ ?_ | intro hg)
                            all_goals (try simp (disch := omega) only [wrap_fits])
                            all_goals first
                              | (refine hK _ _ ?_; exact Red.auto)
                              | exact trivial
                              | assumption
                              | omega
                              | exact wrap_fits (by omega) (by omega)
                              | (refine OpK_callA (k_laws_alive  (h := (bite_t hr2 (by first | assumption | (simp only [*, Bool.false_or, Bool.true_or, Bool.or_false, Bool.or_true, Bool.false_and, Bool.true_and, Bool.and_false, Bool.and_true, Bool.not_true, Bool.not_false, beq_self_eq_true]; done) | (simp_all; done))))) [] [] ?_
                                 rintro x Hc' ⟨rfl, rfl⟩ hlen
                                 simp (maxSteps := 4000000) only [go_sem, Nat.reduceBEq, Nat.reduceLT, Nat.reduceAdd, Nat.reduceLeDiff, Nat.reduceSub, Nat.reduceEqDiff, Int.reduceToNat, reduceCtorEq, ↓reduceIte]
                                 repeat' (first | refine And.intro ?_ ?_ | intro hg)
                                 all_goals (try simp (disch := omega) only [wrap_fits])
                                 all_goals first
                                   | (refine hK _ _ ?_; exact Red.auto)
                                   | exact trivial
                                   | assumption
                                   | omega
                                   | exact wrap_fits (by omega) (by omega)
                                   | (simp_all; done)
                                   | (simp_all; omega))
                              | (simp_all; done)
                              | (simp_all; omega))
                         | (refine OpK_callA (k_laws_alive  (h := (bite_t hr2 (by first | assumption | (simp only [*, Bool.false_or, Bool.true_or, Bool.or_false, Bool.or_true, Bool.false_and, Bool.true_and, Bool.and_false, Bool.and_true, Bool.not_true, Bool.not_false, beq_self_eq_true]; done) | (simp_all; done))))) [] [] ?_
                            rintro x Hc' ⟨rfl, rfl⟩ hlen
                            simp (maxSteps := 4000000) only [go_sem, Nat.reduceBEq, Nat.reduceLT, Nat.reduceAdd, Nat.reduceLeDiff, Nat.reduceSub, Nat.reduceEqDiff, Int.reduceToNat, reduceCtorEq, ↓reduceIte]
                            repeat' (first | refine And.intro ?_ ?_ | intro hg)
                            all_goals (try simp (disch := omega) only [wrap_fits])
                            all_goals first
                              | (refine hK _ _ ?_; exact Red.auto)
                              | exact trivial
                              | assumption
                              | omega
                              | exact wrap_fits (by omega) (by omega)
                              | (simp_all; done)
                              | (simp_all; omega))
                         | (simp_all; done)
                         | (simp_all; omega))
                    | (simp_all; done)
                    | (simp_all; omega)
                · clear hr0 hr1 hr2
                  refine awp_ret ?_
                  (try simp only [Thn, InBlk, ↓reduceIte, Nat.reduceEqDiff])
                  obtain rfl := Option.some.inj h
                  refine ⟨by simp, _, [0], (by simp only [go_sem, Nat.reduceBEq, Nat.reduceLT, Nat.reduceAdd, Nat.reduceLeDiff, Nat.reduceSub, Nat.reduceEqDiff, Int.reduceToNat, reduceCtorEq, ↓reduceIte]; exact rfl), ?_, ?_, ?_, ?_⟩
                  · first | exact trivial | exact ⟨trivial, trivial⟩ | exact ⟨trivial, trivial, trivial⟩ | exact ⟨trivial, trivial, trivial, trivial⟩ | (simp only [allP, and_true, true_and]; done) | (simp only [allP, and_true, true_and]; omega)
                  · simp [selOk, pos]
                  · simp
                  · first | exact ⟨rfl, rfl⟩ | (simp only [go_sem, Nat.reduceBEq, Nat.reduceLT, Nat.reduceAdd, Nat.reduceLeDiff, Nat.reduceSub, Nat.reduceEqDiff, Int.reduceToNat, reduceCtorEq, ↓reduceIte]; done) | (simp [go_sem, Nat.reduceBEq, Nat.reduceLT, Nat.reduceAdd, Nat.reduceLeDiff, Nat.reduceSub, Nat.reduceEqDiff, Int.reduceToNat, reduceCtorEq, ↓reduceIte]; done) | (simp only [go_sem, Nat.reduceBEq, Nat.reduceLT, Nat.reduceAdd, Nat.reduceLeDiff, Nat.reduceSub, Nat.reduceEqDiff, Int.reduceToNat, reduceCtorEq, ↓reduceIte]; exact ⟨rfl, rfl⟩) | (simp_all [go_sem, Nat.reduceBEq, Nat.reduceLT, Nat.reduceAdd, Nat.reduceLeDiff, Nat.reduceSub, Nat.reduceEqDiff, Int.reduceToNat, reduceCtorEq, ↓reduceIte]; done)
              · try dsimp only [Sum.elim_inl, Sum.elim_inr] at h
                try dsimp only [Sum.elim_inl, Sum.elim_inr]
                (try simp only [Thn, InBlk, ↓reduceIte, Nat.reduceEqDiff])
                obtain rfl := Option.some.inj h
                refine ⟨by simp, _, [0], (by simp only [go_sem, Nat.reduceBEq, Nat.reduceLT, Nat.reduceAdd, Nat.reduceLeDiff, Nat.reduceSub, Nat.reduceEqDiff, Int.reduceToNat, reduceCtorEq, ↓reduceIte]; exact rfl), ?_, ?_, ?_, ?_⟩
                · first | exact trivial | exact ⟨trivial, trivial⟩ | exact ⟨trivial, trivial, trivial⟩ | exact ⟨trivial, trivial, trivial, trivial⟩ | (simp only [allP, and_true, true_and]; done) | (simp only [allP, and_true, true_and]; omega)
                · simp [selOk, pos]
                · simp
                · first | exact ⟨rfl, rfl⟩ | (simp only [go_sem, Nat.reduceBEq, Nat.reduceLT, Nat.reduceAdd, Nat.reduceLeDiff, Nat.reduceSub, Nat.reduceEqDiff, Int.reduceToNat, reduceCtorEq, ↓reduceIte]; done) | (simp [go_sem, Nat.reduceBEq, Nat.reduceLT, Nat.reduceAdd, Nat.reduceLeDiff, Nat.reduceSub, Nat.reduceEqDiff, Int.reduceToNat, reduceCtorEq, ↓reduceIte]; done) | (simp only [go_sem, Nat.reduceBEq, Nat.reduceLT, Nat.reduceAdd, Nat.reduceLeDiff, Nat.reduceSub, Nat.reduceEqDiff, Int.reduceToNat, reduceCtorEq, ↓reduceIte]; exact ⟨rfl, rfl⟩) | (simp_all [go_sem, Nat.reduceBEq, Nat.reduceLT, Nat.reduceAdd, Nat.reduceLeDiff, Nat.reduceSub, Nat.reduceEqDiff, Int.reduceToNat, reduceCtorEq, ↓reduceIte]; done)
end Go.Proofs.Ytngpllgpfndkkaa

/- The code computes the functions that were taken out of it. -/
import Derived.Test.YteoedigfnfjopaaLw1
set_option maxRecDepth 100000
set_option maxHeartbeats 4000000
set_option linter.unusedSimpArgs false
set_option linter.unusedVariables false
namespace Go.Proofs.Yteoedigfnfjopaa
open Go Go.Av
attribute [local irreducible] wpA OpK awp OpKI
attribute [local go_sem] vcCalls vcCall List.take_succ_cons List.take_zero List.drop_succ_cons List.drop_zero frs_nil frs_cons pw8_32 pw16_32 pw24_32 pw27_32 eqAgg eqAggV buildQ placesOf buildCells List.toList_toArray vcQg gfind gfree gput un3_agg unI_int unB_bool unK_int guardU skipV resVs resV vcD_nil vcD_cons vcT_fin vcT_free vcT_one vcT_two opS vcD1 roH roOb ftNone ftAdd oneOrTup AV.detup AV.ren AV.ren2 AV.ren1 pos selH AObj.ren fitAll fit fit1 fit1s matchAll matchOb exIds AObj.excl Env.killp pastH setAll upId AObj.past AObj.back AV.killp AV.killp1 AV.killp2 Nat.sub_self Nat.lt_irrefl Bool.or_self vcOps vcOp vcQs vcQ dstOk quiet eff pcall calleeF plain valsOf ev ofConst argEnv List.lookup Nat.add_eq decide_true decide_false Env.put binV quoC isTwo_2 isTwo_1 isTwo_3 isTwo_4 isTwo_5 isTwo_6 isTwo_7 isTwo_8 isTwo_9 isTwo_10 isTwo_11 isTwo_12 isTwo_13 isTwo_14 isTwo_15 isTwo_16 isTwo_17 isTwo_20 isTwo_24 isTwo_32 isTwo_60 isTwo_64 isTwo_100 isTwo_128 isTwo_256 isTwo_1000 wrapTo unV convV loadQ indexQ callQ builtinQ rd rdI globC AObj.globC partAV isAggD isArrayD addrAdd boxE storeE storeXE storeCE storeGE storeFE storeAE storeHE allocAE buildME appendME lookupQ mapUpE plainVs isIfaceD ifaceQ assertQ List.all_cons aggQ arrD arrL arrL_map arrV makeE makeXE makeNE makeGE buildXE buildNE buildGE nestZero Cont.child Cont.setChild buildSliceE buildFold appendE appendXE appendNE appendGE Cont.setG nestApp appendV promoteH sliceE boundAV subObj asCells Value.oneCell' contZero Cont.sets Cont.app Cont.sub Cont.len Cont.esz Cont.cell Cont.cells Cont.flat AV.det AV.det1 guardV AObj.unview AObj.kill Env.kill AV.kill AV.kill1 AV.kill2 fits64 Option.getD_some Option.getD_none Option.map_some Option.map_none Option.bind_some List.map_cons List.map_nil List.getElem?_cons_zero List.getElem?_cons_succ List.getElem?_nil true_and and_true and_false false_and List.getElem?_toArray List.cons_append List.nil_append List.length_cons List.length_nil List.set_cons_zero List.set_cons_succ List.take_succ_cons List.take_zero List.drop_succ_cons List.drop_zero List.drop_nil List.take_nil List.contains_cons List.contains_nil List.elem_cons List.elem_nil Bool.not_true Bool.not_false Bool.false_eq_true Bool.or_false Bool.or_true Bool.and_true Bool.and_false Bool.true_and Bool.false_and List.all_cons List.all_nil List.size_toArray Nat.lt_add_one Nat.zero_lt_succ Nat.one_ne_zero Nat.zero_ne_one and_self List.replicate_succ List.replicate_zero Int.toNat_natCast Int.toNat_zero Value.cells false_implies true_implies forall_const Thn InBlk Nat.zero_add Nat.add_zero Int.zero_add Ele Env.ren Option.some.injEq AV.v.injEq AV.sl.injEq AV.pp.injEq AV.ep.injEq AV.agg.injEq List.cons.injEq Value.int.injEq Value.bool.injEq Value.string.injEq true_or or_true or_false false_or guardOk evN pastY deadAll AObj.gone List.foldl_cons List.foldl_nil List.contains_cons List.contains_nil tsz0 tby0 tz0 Try.underlying0 tsz1 tby1 tz1 Try.underlying1 tsz2 tby2 tz2 Try.underlying2 tsz3 tby3 tz3 Try.underlying3 tsz4 tby4 tz4 Try.underlying4 tsz5 tby5 tz5 Try.underlying5 tsz6 tby6 tz6 Try.underlying6 tsz7 tby7 tz7 Try.underlying7 fo7_0 fo7_1 fo7_2 fo7_3 tsz8 tby8 tz8 Try.underlying8 fo8_0 fo8_1 fo8_2 fo8_3 tsz9 tby9 Try.underlying9 tsz10 tby10 Try.underlying10 tsz12 tby12 tz12 Try.underlying12 tsz16 tby16 tz16 Try.underlying16 tsz17 tby17 tz17 Try.underlying17 tsz20 tby20 tz20 Try.underlying20 tsz21 tby21 tz21 Try.underlying21 tsz22 tby22 tz22 Try.underlying22 tsz23 tby23 tz23 Try.underlying23 tsz24 tby24 tz24 Try.underlying24 tsz25 tby25 tz25 Try.underlying25 fo25_0 fo25_1 fo25_2 fo25_3 tsz26 tby26 tz26 Try.underlying26 fo26_0 fo26_1 fo26_2 fo26_3 tsz28 tby28 tz28 Try.underlying28 fo28_0 fo28_1 tsz29 tby29 tz29 Try.underlying29 fo29_0 fo29_1 tsz30 tby30 tz30 Try.underlying30 tsz32 tby32 tz32 Try.underlying32 tsz33 tby33 tz33 Try.underlying33 fo33_0 fo33_1 fo33_2 fo33_3 tsz34 tby34 tz34 Try.underlying34 fo34_0 fo34_1 fo34_2 fo34_3 tsz40 tby40 tz40 Try.underlying40 tsz41 tby41 tz41 Try.underlying41 fo41_0 fo41_1 tsz44 tby44 tz44 Try.underlying44 tsz56 tby56 tz56 Try.underlying56 tsz61 tby61 tz61 Try.underlying61 peq61 fo61_0 fo61_1 fo61_2 tsz62 tby62 tz62 Try.underlying62 peq62 fo62_0 fo62_1 fo62_2 tsz64 tby64 tz64 Try.underlying64 peq64 fo64_0 fo64_1 fo64_2 tsz66 tby66 tz66 Try.underlying66 tsz67 tby67 tz67 Try.underlying67 tsz71 tby71 tz71 Try.underlying71 tsz72 tby72 tz72 Try.underlying72 tsz79 tby79 tz79 Try.underlying79 peq79 fo79_0 fo79_1 fo79_2 tsz80 tby80 tz80 Try.underlying80 peq80 fo80_0 fo80_1 fo80_2 tsz88 tby88 tz88 Try.underlying88 tsz89 tby89 tz89 Try.underlying89 fo89_0 tsz90 tby90 tz90 Try.underlying90 fo90_0 tsz95 tby95 tz95 Try.underlying95 tsz97 tby97 Try.underlying97 fo97_0 fo97_1 fo97_2 fo97_3 tsz98 tby98 Try.underlying98 fo98_0 fo98_1 fo98_2 fo98_3 tsz99 tby99 tz99 Try.underlying99 tsz100 tby100 tz100 Try.underlying100 tsz101 tby101 tz101 Try.underlying101 tsz102 tby102 tz102 Try.underlying102 tsz103 tby103 tz103 Try.underlying103 tsz104 tby104 tz104 Try.underlying104 tsz105 tby105 tz105 Try.underlying105 tsz106 tby106 tz106 Try.underlying106 tsz107 tby107 tz107 Try.underlying107 tsz108 tby108 tz108 Try.underlying108 tsz109 tby109 tz109 Try.underlying109 tsz110 tby110 tz110 Try.underlying110 fo110_0 fo110_1 fo110_2 fo110_3 fo110_4 fo110_5 fo110_6 fo110_7 fo110_8 fo110_9 fo110_10 tsz111 tby111 tz111 Try.underlying111 fo111_0 fo111_1 fo111_2 fo111_3 fo111_4 fo111_5 fo111_6 fo111_7 fo111_8 fo111_9 fo111_10 tsz113 tby113 tz113 Try.underlying113 l1InG isNaNG cmpIntG cmpMsgG ftC
theorem k_impl_bodiesOf_1 {υ : Type} (Φ : υ → ExtP) (l : Nat) (a1_0 : Int) (a1_1 : List Int) (a1_2 : List Bool) (a1_3 : List (Int × Int × Int)) (yld : (List Int) → υ → Option (Bool × υ)) (u : υ) (hY : ∀ (x : List Int) (u : υ) (b : Bool) (u' : υ), yld x u = some (b, u') → RoundA Try.prog l (Φ u) [.sl 0] [.row true (.ints .i64 x)] (fun b2 Φ2 => b2 = b ∧ Φ2 = Φ u')) {r : υ} (h : impl_bodiesOf_1 a1_0 a1_1 a1_2 a1_3 yld u = some r) :
 FnA Try.prog 62 [.v (yv l), .pp 1 0] [.ext (Φ u), .rbox [.v (.int .i64 a1_0), .sl 2, .sl 3, .sl 4], .row false (.ints .i64 a1_1), .row false (.bools a1_2), .row false (.trips a1_3)] [] (fun x H => x = .tup [] ∧ H = [.ext (Φ r), .rbox [.v (.int .i64 a1_0), .sl 2, .sl 3, .sl 4], .row false (.ints .i64 a1_1), .row false (.bools a1_2), .row false (.trips a1_3)]) := by
 unfold impl_bodiesOf_1 at h
 refine FnA.ofA 67 [0, 1, 2, 3, 4] [] Try.func62 en62 ?_
 refine awp_seq fun K2 hK2 => ?_
 replace ⟨y, hr0, h⟩ := bind_some h
 replace ⟨⟨y_1, u_1⟩, hr1, h⟩ := bind_some h
 try dsimp only at h
 refine awp_to [(0, .v (yv l)), (1, .pp 1 0), (20, .v (.bool (!y_1)))] [.ext (Φ u_1), .rbox [.v (.int .i64 a1_0), .sl 2, .sl 3, .sl 4], .row false (.ints .i64 a1_1), .row false (.bools a1_2), .row false (.trips a1_3), .row true (.ints .i64 [a1_0, (a1_1.length : Int), (a1_3.length : Int)]), .dead] ?_ ?_
 ·clear h
  intro K hK
  refine awp_regionYi 11 ?_
  refine vcOps_sound ftCOk ?_
  simp (maxSteps := 4000000) only [go_sem, Nat.reduceBEq, Nat.reduceLT, Nat.reduceAdd, Nat.reduceLeDiff, Nat.reduceSub, Nat.reduceEqDiff, Int.reduceToNat, reduceCtorEq, ↓reduceIte]
  repeat' (first | refine And.intro ?_ ?_ | intro hg)
  all_goals (try simp (disch := omega) only [wrap_fits])
  all_goals first
   | (refine hK _ _ ?_; exact Red.auto)
   | exact trivial
   | assumption
   | omega
   | exact wrap_fits (by omega) (by omega)
   | (refine wpA_callA (k_impl_taggedBody 1 [a1_0, (a1_1.length : Int), (a1_3.length : Int)] (h := hr0)) [5] [] ?_
      rintro x Hc' ⟨rfl, rfl⟩ hlen
      refine vcOps_sound ftCOk ?_
      simp (maxSteps := 4000000) only [go_sem, Nat.reduceBEq, Nat.reduceLT, Nat.reduceAdd, Nat.reduceLeDiff, Nat.reduceSub, Nat.reduceEqDiff, Int.reduceToNat, reduceCtorEq, ↓reduceIte]
      repeat' (first | refine And.intro ?_ ?_ | intro hg)
      all_goals (try simp (disch := omega) only [wrap_fits])
      all_goals first
       | (refine hK _ _ ?_; exact Red.auto)
       | exact trivial
       | assumption
       | omega
       | exact wrap_fits (by omega) (by omega)
       | (refine OpYA (hY _ _ _ _ hr1) 0 [6] [6] ?_
          rintro b Φ' ⟨rfl, rfl⟩
          refine vcOps_sound ftCOk ?_
          simp (maxSteps := 4000000) only [go_sem, Nat.reduceBEq, Nat.reduceLT, Nat.reduceAdd, Nat.reduceLeDiff, Nat.reduceSub, Nat.reduceEqDiff, Int.reduceToNat, reduceCtorEq, ↓reduceIte]
          repeat' (first | refine And.intro ?_ ?_ | intro hg)
          all_goals (try simp (disch := omega) only [wrap_fits])
          all_goals first | (refine hK _ _ ?_; exact Red.auto) | exact trivial | assumption | omega | exact wrap_fits (by omega) (by omega) | (simp_all; done) | (simp_all; omega))
       | (simp_all; done)
       | (simp_all; omega))
   | (simp_all; done)
   | (simp_all; omega)
 ·clear hr0 hr1
  refine awp_cond (t := 20) rfl (fun hc3 => ?_) (fun hc3 => ?_)
  ·replace h := bite_t h hc3
   refine awp_ret ?_
   obtain rfl := Option.some.inj h
   exact finQ [0, 1, 2, 3, 4]
  ·replace h := bite_f h hc3
   refine awp_skip ?_
   refine hK2 _ _ ?_
   clear hK2
   refine awp_seq fun K35 hK35 => ?_
   refine awp_regS ftCOk [(0, .v (yv l)), (1, .pp 1 0), (22, .sl 2), (23, .v (.int .i64 (a1_1.length : Int))), (24, .v (.int .i64 0))] ?_
   refine awp_block ?_
   replace h := bind_some h
   obtain ⟨x66, hx, h⟩ := h
   refine awp_loopL hx (fun ((t24, p0s) : Int × υ) => [(0, .v (yv l)), (1, .pp 1 0), (22, .sl 2), (23, .v (.int .i64 (a1_1.length : Int))), (24, .v (.int .i64 t24))]) (fun ((t24, p0s) : Int × υ) => [.ext (Φ p0s), .rbox [.v (.int .i64 a1_0), .sl 2, .sl 3, .sl 4], .row false (.ints .i64 a1_1), .row false (.bools a1_2), .row false (.trips a1_3)]) (Sum.elim (fun (p0s_1 : υ) => Exit.exit 0) (fun (p0s_2 : υ) => Exit.ret)) (Sum.elim (fun (p0s_1 : υ) => [(0, .v (yv l)), (1, .pp 1 0)]) (fun (p0s_2 : υ) => [])) (Sum.elim (fun (p0s_1 : υ) => [.ext (Φ p0s_1), .rbox [.v (.int .i64 a1_0), .sl 2, .sl 3, .sl 4], .row false (.ints .i64 a1_1), .row false (.bools a1_2), .row false (.trips a1_3)]) (fun (p0s_2 : υ) => [.ext (Φ p0s_2), .rbox [.v (.int .i64 a1_0), .sl 2, .sl 3, .sl 4], .row false (.ints .i64 a1_1), .row false (.bools a1_2), .row false (.trips a1_3)])) ?_ ?_ ?_ ?_
   ·rintro (p0s_1 | p0s_2) hy <;> cases hy
   ·clear h hx
    exact Red.selA [0, 1, 2, 3, 4] Red.auto
   ·clear h hx
    rintro ⟨t24, p0s⟩ r h
    unfold impl_bodiesOf_1_b0 at h
    try dsimp only at h
    try dsimp only
    refine awp_regS ftCOk [(0, .v (yv l)), (1, .pp 1 0), (22, .sl 2), (23, .v (.int .i64 (a1_1.length : Int))), (24, .v (.int .i64 t24)), (25, .v (.bool (decide (t24 < (a1_1.length : Int)))))] ?_
    refine awp_seq fun K57 hK57 => ?_
    refine awp_cond (t := 25) rfl (fun hc58 => ?_) (fun hc58 => ?_)
    ·replace h := bite_t h hc58
     refine awp_skip ?_
     refine hK57 _ _ ?_
     clear hK57
     refine awp_seq fun K62 hK62 => ?_
     refine awp_block ?_
     replace ⟨hp0, h⟩ := chk_some h
     refine awp_regS ftCOk [(0, .v (yv l)), (1, .pp 1 0), (3, .v (.int .i64 t24)), (4, .v (.int .i64 (a1_1.getD t24.toNat 0))), (22, .sl 2), (23, .v (.int .i64 (a1_1.length : Int))), (24, .v (.int .i64 t24))] ?_
     clear hp0
     refine awp_regS ftCOk [(0, .v (yv l)), (1, .pp 1 0), (3, .v (.int .i64 t24)), (4, .v (.int .i64 (a1_1.getD t24.toNat 0))), (5, .v (.int .i64 0)), (22, .sl 2), (23, .v (.int .i64 (a1_1.length : Int))), (24, .v (.int .i64 t24))] ?_
     refine awp_join h (fun (t5 : Int) => [(0, .v (yv l)), (1, .pp 1 0), (4, .v (.int .i64 (a1_1.getD t24.toNat 0))), (5, .v (.int .i64 t5)), (22, .sl 2), (23, .v (.int .i64 (a1_1.length : Int))), (24, .v (.int .i64 t24))]) (fun (t5 : Int) => [.ext (Φ p0s), .rbox [.v (.int .i64 a1_0), .sl 2, .sl 3, .sl 4], .row false (.ints .i64 a1_1), .row false (.bools a1_2), .row false (.trips a1_3)]) ?_ ?_
     ·clear h
      intro k h
      try dsimp only at h
      replace ⟨hp0, h⟩ := chk_some h
      refine awp_regS ftCOk [(0, .v (yv l)), (1, .pp 1 0), (4, .v (.int .i64 (a1_1.getD t24.toNat 0))), (5, .v (.int .i64 0)), (22, .sl 2), (23, .v (.int .i64 (a1_1.length : Int))), (24, .v (.int .i64 t24)), (33, .v (.bool (a1_2.getD t24.toNat false)))] ?_
      clear hp0
      refine awp_cond (t := 33) rfl (fun hc64 => ?_) (fun hc64 => ?_)
      ·replace h := bite_t h hc64
       refine awp_regES ftCOk [(0, .v (yv l)), (1, .pp 1 0), (4, .v (.int .i64 (a1_1.getD t24.toNat 0))), (5, .v (.int .i64 1)), (22, .sl 2), (23, .v (.int .i64 (a1_1.length : Int))), (24, .v (.int .i64 t24))] ?_
       (try simp only [Thn, InBlk, ↓reduceIte, Nat.reduceEqDiff])
       refine ⟨_, h, ?_⟩
       exact Red.auto
      ·replace h := bite_f h hc64
       refine awp_skip ?_
       (try simp only [Thn, InBlk, ↓reduceIte, Nat.reduceEqDiff])
       refine ⟨_, h, ?_⟩
       exact Red.auto
     ·clear h
      rintro t5 h
      try dsimp only at h
      try dsimp only
      replace ⟨hp0, h⟩ := chk_some h
      replace ⟨y_2, hr1, h⟩ := bind_some h
      replace ⟨hp2, h⟩ := chk_some h
      replace ⟨⟨y_3, u_2⟩, hr3, h⟩ := bind_some h
      try dsimp only at h
      refine awp_to [(0, .v (yv l)), (1, .pp 1 0), (22, .sl 2), (23, .v (.int .i64 (a1_1.length : Int))), (24, .v (.int .i64 t24)), (43, .v (.bool (!y_3)))] [.ext (Φ u_2), .rbox [.v (.int .i64 a1_0), .sl 2, .sl 3, .sl 4], .row false (.ints .i64 a1_1), .row false (.bools a1_2), .row false (.trips a1_3), .row true (.ints .i64 [((a1_1.getD t24.toNat 0) + 1)]), .dead, .row true (.ints .i64 [t5])] ?_ ?_
      ·clear h
       intro K hK
       refine awp_regionYi 8 ?_
       refine vcOps_sound ftCOk ?_
       simp (maxSteps := 4000000) only [go_sem, Nat.reduceBEq, Nat.reduceLT, Nat.reduceAdd, Nat.reduceLeDiff, Nat.reduceSub, Nat.reduceEqDiff, Int.reduceToNat, reduceCtorEq, ↓reduceIte]
       repeat' (first | refine And.intro ?_ ?_ | intro hg)
       all_goals (try simp (disch := omega) only [wrap_fits])
       all_goals first
        | (refine hK _ _ ?_; exact Red.auto)
        | exact trivial
        | assumption
        | omega
        | exact wrap_fits (by omega) (by omega)
        | (refine wpA_callA (k_impl_taggedBody 2 [((a1_1.getD t24.toNat 0) + 1)] (h := hr1)) [5] [] ?_
           rintro x Hc' ⟨rfl, rfl⟩ hlen
           refine vcOps_sound ftCOk ?_
           simp (maxSteps := 4000000) only [go_sem, Nat.reduceBEq, Nat.reduceLT, Nat.reduceAdd, Nat.reduceLeDiff, Nat.reduceSub, Nat.reduceEqDiff, Int.reduceToNat, reduceCtorEq, ↓reduceIte]
           repeat' (first | refine And.intro ?_ ?_ | intro hg)
           all_goals (try simp (disch := omega) only [wrap_fits])
           all_goals first
            | (refine hK _ _ ?_; exact Red.auto)
            | exact trivial
            | assumption
            | omega
            | exact wrap_fits (by omega) (by omega)
            | (refine OpYA (hY _ _ _ _ hr3) 0 [6] [6] ?_
               rintro b Φ' ⟨rfl, rfl⟩
               refine vcOps_sound ftCOk ?_
               simp (maxSteps := 4000000) only [go_sem, Nat.reduceBEq, Nat.reduceLT, Nat.reduceAdd, Nat.reduceLeDiff, Nat.reduceSub, Nat.reduceEqDiff, Int.reduceToNat, reduceCtorEq, ↓reduceIte]
               repeat' (first | refine And.intro ?_ ?_ | intro hg)
               all_goals (try simp (disch := omega) only [wrap_fits])
               all_goals first | (refine hK _ _ ?_; exact Red.auto) | exact trivial | assumption | omega | exact wrap_fits (by omega) (by omega) | (simp_all; done) | (simp_all; omega))
            | (simp_all; done)
            | (simp_all; omega))
        | (simp_all; done)
        | (simp_all; omega)
      ·clear hp0 hr1 hp2 hr3
       refine awp_cond (t := 43) rfl (fun hc65 => ?_) (fun hc65 => ?_)
       ·replace h := bite_t h hc65
        refine awp_ret ?_
        (try simp only [Thn, InBlk, ↓reduceIte, Nat.reduceEqDiff])
        obtain rfl := Option.some.inj h
        refine LoopQ.out rfl ?_
        exact Red.selA [0, 1, 2, 3, 4] Red.auto
       ·replace h := bite_f h hc65
        refine awp_skip ?_
        refine hK62 _ _ ?_
        clear hK62
        replace ⟨hp0, h⟩ := chk_some h
        refine awp_regES ftCOk [(0, .v (yv l)), (1, .pp 1 0), (22, .sl 2), (23, .v (.int .i64 (a1_1.length : Int))), (24, .v (.int .i64 (t24 + 1)))] ?_
        clear hp0
        obtain rfl := Option.some.inj h
        refine LoopQ.next ?_
        exact Red.selA [0, 1, 2, 3, 4] Red.auto
    ·replace h := bite_f h hc58
     refine awp_exit ?_
     (try simp only [Thn, InBlk, ↓reduceIte, Nat.reduceEqDiff])
     obtain rfl := Option.some.inj h
     refine LoopQ.out rfl ?_
     exact Red.auto
   ·clear hx
    rcases x66 with (p0s_1 | p0s_2)
    ·try dsimp only [Sum.elim_inl, Sum.elim_inr] at h
     try dsimp only [Sum.elim_inl, Sum.elim_inr]
     refine hK35 _ _ ?_
     clear hK35
     refine awp_seq fun K86 hK86 => ?_
     refine awp_regS ftCOk [(0, .v (yv l)), (46, .sl 4), (47, .v (.int .i64 (a1_3.length : Int))), (48, .v (.int .i64 0))] ?_
     refine awp_block ?_
     replace h := bind_some h
     obtain ⟨x105, hx, h⟩ := h
     refine awp_loopL hx (fun ((t48, p0s_3) : Int × υ) => [(0, .v (yv l)), (46, .sl 4), (47, .v (.int .i64 (a1_3.length : Int))), (48, .v (.int .i64 t48))]) (fun ((t48, p0s_3) : Int × υ) => [.ext (Φ p0s_3), .rbox [.v (.int .i64 a1_0), .sl 2, .sl 3, .sl 4], .row false (.ints .i64 a1_1), .row false (.bools a1_2), .row false (.trips a1_3)]) (Sum.elim (fun (p0s_4 : υ) => Exit.exit 2) (fun (p0s_5 : υ) => Exit.ret)) (Sum.elim (fun (p0s_4 : υ) => [(0, .v (yv l))]) (fun (p0s_5 : υ) => [])) (Sum.elim (fun (p0s_4 : υ) => [.ext (Φ p0s_4), .rbox [.v (.int .i64 a1_0), .sl 2, .sl 3, .sl 4], .row false (.ints .i64 a1_1), .row false (.bools a1_2), .row false (.trips a1_3)]) (fun (p0s_5 : υ) => [.ext (Φ p0s_5), .rbox [.v (.int .i64 a1_0), .sl 2, .sl 3, .sl 4], .row false (.ints .i64 a1_1), .row false (.bools a1_2), .row false (.trips a1_3)])) ?_ ?_ ?_ ?_
     ·rintro (p0s_4 | p0s_5) hy <;> cases hy
     ·clear h hx
      exact Red.auto
     ·clear h hx
      rintro ⟨t48, p0s_3⟩ r h
      unfold impl_bodiesOf_1_b1 at h
      try dsimp only at h
      try dsimp only
      refine awp_regS ftCOk [(0, .v (yv l)), (46, .sl 4), (47, .v (.int .i64 (a1_3.length : Int))), (48, .v (.int .i64 t48)), (49, .v (.bool (decide (t48 < (a1_3.length : Int)))))] ?_
      refine awp_seq fun K100 hK100 => ?_
      refine awp_cond (t := 49) rfl (fun hc101 => ?_) (fun hc101 => ?_)
      ·replace h := bite_t h hc101
       refine awp_skip ?_
       refine hK100 _ _ ?_
       clear hK100
       refine awp_seq fun K103 hK103 => ?_
       refine awp_block ?_
       replace ⟨hp0, h⟩ := chk_some h
       refine awp_reg ftCOk [(0, .v (yv l)), (7, .pp 5 0), (46, .sl 4), (47, .v (.int .i64 (a1_3.length : Int))), (48, .v (.int .i64 t48))] [.ext (Φ p0s_3), .rbox [.v (.int .i64 a1_0), .sl 2, .sl 3, .sl 4], .row false (.ints .i64 a1_1), .row false (.bools a1_2), .row false (.trips a1_3), .box [.v (.int .i64 ((a1_3.getD t48.toNat (0, 0, 0)).1)), .v (.int .i64 ((a1_3.getD t48.toNat (0, 0, 0)).2.1)), .v (.int .i64 ((a1_3.getD t48.toNat (0, 0, 0)).2.2))]] ?_
       clear hp0
       replace ⟨y_4, hr0, h⟩ := bind_some h
       replace ⟨⟨y_5, u_3⟩, hr1, h⟩ := bind_some h
       try dsimp only at h
       refine awp_to [(0, .v (yv l)), (46, .sl 4), (47, .v (.int .i64 (a1_3.length : Int))), (48, .v (.int .i64 t48)), (62, .v (.bool (!y_5)))] [.ext (Φ u_3), .rbox [.v (.int .i64 a1_0), .sl 2, .sl 3, .sl 4], .row false (.ints .i64 a1_1), .row false (.bools a1_2), .row false (.trips a1_3), .box [.v (.int .i64 ((a1_3.getD t48.toNat (0, 0, 0)).1)), .v (.int .i64 ((a1_3.getD t48.toNat (0, 0, 0)).2.1)), .v (.int .i64 ((a1_3.getD t48.toNat (0, 0, 0)).2.2))], .row true (.ints .i64 [(a1_3.getD t48.toNat (0, 0, 0)).1, (a1_3.getD t48.toNat (0, 0, 0)).2.1, (a1_3.getD t48.toNat (0, 0, 0)).2.2]), .dead] ?_ ?_
       ·clear h
        intro K hK
        refine awp_regionYi 9 ?_
        refine vcOps_sound ftCOk ?_
        simp (maxSteps := 4000000) only [go_sem, Nat.reduceBEq, Nat.reduceLT, Nat.reduceAdd, Nat.reduceLeDiff, Nat.reduceSub, Nat.reduceEqDiff, Int.reduceToNat, reduceCtorEq, ↓reduceIte]
        repeat' (first | refine And.intro ?_ ?_ | intro hg)
        all_goals (try simp (disch := omega) only [wrap_fits])
        all_goals first
         | (refine hK _ _ ?_; exact Red.auto)
         | exact trivial
         | assumption
         | omega
         | exact wrap_fits (by omega) (by omega)
         | (refine wpA_callA (k_impl_taggedBody 3 [(a1_3.getD t48.toNat (0, 0, 0)).1, (a1_3.getD t48.toNat (0, 0, 0)).2.1, (a1_3.getD t48.toNat (0, 0, 0)).2.2] (h := hr0)) [6] [] ?_
            rintro x Hc' ⟨rfl, rfl⟩ hlen
            refine vcOps_sound ftCOk ?_
            simp (maxSteps := 4000000) only [go_sem, Nat.reduceBEq, Nat.reduceLT, Nat.reduceAdd, Nat.reduceLeDiff, Nat.reduceSub, Nat.reduceEqDiff, Int.reduceToNat, reduceCtorEq, ↓reduceIte]
            repeat' (first | refine And.intro ?_ ?_ | intro hg)
            all_goals (try simp (disch := omega) only [wrap_fits])
            all_goals first
             | (refine hK _ _ ?_; exact Red.auto)
             | exact trivial
             | assumption
             | omega
             | exact wrap_fits (by omega) (by omega)
             | (refine OpYA (hY _ _ _ _ hr1) 0 [7] [7] ?_
                rintro b Φ' ⟨rfl, rfl⟩
                refine vcOps_sound ftCOk ?_
                simp (maxSteps := 4000000) only [go_sem, Nat.reduceBEq, Nat.reduceLT, Nat.reduceAdd, Nat.reduceLeDiff, Nat.reduceSub, Nat.reduceEqDiff, Int.reduceToNat, reduceCtorEq, ↓reduceIte]
                repeat' (first | refine And.intro ?_ ?_ | intro hg)
                all_goals (try simp (disch := omega) only [wrap_fits])
                all_goals first | (refine hK _ _ ?_; exact Red.auto) | exact trivial | assumption | omega | exact wrap_fits (by omega) (by omega) | (simp_all; done) | (simp_all; omega))
             | (simp_all; done)
             | (simp_all; omega))
         | (simp_all; done)
         | (simp_all; omega)
       ·clear hr0 hr1
        refine awp_cond (t := 62) rfl (fun hc104 => ?_) (fun hc104 => ?_)
        ·replace h := bite_t h hc104
         refine awp_ret ?_
         (try simp only [Thn, InBlk, ↓reduceIte, Nat.reduceEqDiff])
         obtain rfl := Option.some.inj h
         refine LoopQ.out rfl ?_
         exact Red.selA [0, 1, 2, 3, 4] Red.auto
        ·replace h := bite_f h hc104
         refine awp_skip ?_
         refine hK103 _ _ ?_
         clear hK103
         replace ⟨hp0, h⟩ := chk_some h
         refine awp_regES ftCOk [(0, .v (yv l)), (46, .sl 4), (47, .v (.int .i64 (a1_3.length : Int))), (48, .v (.int .i64 (t48 + 1)))] ?_
         clear hp0
         obtain rfl := Option.some.inj h
         refine LoopQ.next ?_
         exact Red.selA [0, 1, 2, 3, 4] Red.auto
      ·replace h := bite_f h hc101
       refine awp_exit ?_
       (try simp only [Thn, InBlk, ↓reduceIte, Nat.reduceEqDiff])
       obtain rfl := Option.some.inj h
       refine LoopQ.out rfl ?_
       exact Red.auto
     ·clear hx
      rcases x105 with (p0s_4 | p0s_5)
      ·try dsimp only [Sum.elim_inl, Sum.elim_inr] at h
       try dsimp only [Sum.elim_inl, Sum.elim_inr]
       refine hK86 _ _ ?_
       clear hK86
       replace ⟨y_6, hr0, h⟩ := bind_some h
       replace ⟨⟨y_7, u_4⟩, hr1, h⟩ := bind_some h
       try dsimp only at h
       refine awp_end [] [.ext (Φ u_4), .rbox [.v (.int .i64 a1_0), .sl 2, .sl 3, .sl 4], .row false (.ints .i64 a1_1), .row false (.bools a1_2), .row false (.trips a1_3), .row true (.ints .i64 []), .dead] ?_ ?_
       ·clear h
        intro K hK
        refine awp_regionYi 2 ?_
        refine vcOps_sound ftCOk ?_
        simp (maxSteps := 4000000) only [go_sem, Nat.reduceBEq, Nat.reduceLT, Nat.reduceAdd, Nat.reduceLeDiff, Nat.reduceSub, Nat.reduceEqDiff, Int.reduceToNat, reduceCtorEq, ↓reduceIte]
        repeat' (first | refine And.intro ?_ ?_ | intro hg)
        all_goals (try simp (disch := omega) only [wrap_fits])
        all_goals first
         | (refine hK _ _ ?_; exact Red.auto)
         | exact trivial
         | assumption
         | omega
         | exact wrap_fits (by omega) (by omega)
         | (refine wpA_callN (k_impl_taggedBody 4 [] (h := hr0)) (.ints .i64 []) [5] [] ?_
            rintro x Hc' ⟨rfl, rfl⟩ hlen
            refine vcOps_sound ftCOk ?_
            simp (maxSteps := 4000000) only [go_sem, Nat.reduceBEq, Nat.reduceLT, Nat.reduceAdd, Nat.reduceLeDiff, Nat.reduceSub, Nat.reduceEqDiff, Int.reduceToNat, reduceCtorEq, ↓reduceIte]
            repeat' (first | refine And.intro ?_ ?_ | intro hg)
            all_goals (try simp (disch := omega) only [wrap_fits])
            all_goals first
             | (refine hK _ _ ?_; exact Red.auto)
             | exact trivial
             | assumption
             | omega
             | exact wrap_fits (by omega) (by omega)
             | (refine OpYA (hY _ _ _ _ hr1) 0 [6] [6] ?_
                rintro b Φ' ⟨rfl, rfl⟩
                refine vcOps_sound ftCOk ?_
                simp (maxSteps := 4000000) only [go_sem, Nat.reduceBEq, Nat.reduceLT, Nat.reduceAdd, Nat.reduceLeDiff, Nat.reduceSub, Nat.reduceEqDiff, Int.reduceToNat, reduceCtorEq, ↓reduceIte]
                repeat' (first | refine And.intro ?_ ?_ | intro hg)
                all_goals (try simp (disch := omega) only [wrap_fits])
                all_goals first | (refine hK _ _ ?_; exact Red.auto) | exact trivial | assumption | omega | exact wrap_fits (by omega) (by omega) | (simp_all; done) | (simp_all; omega))
             | (simp_all; done)
             | (simp_all; omega))
         | (simp_all; done)
         | (simp_all; omega)
       ·clear hr0 hr1
        obtain rfl := Option.some.inj h
        exact finQ [0, 1, 2, 3, 4]
      ·try dsimp only [Sum.elim_inl, Sum.elim_inr] at h
       try dsimp only [Sum.elim_inl, Sum.elim_inr]
       obtain rfl := Option.some.inj h
       exact finQ [0, 1, 2, 3, 4]
    ·try dsimp only [Sum.elim_inl, Sum.elim_inr] at h
     try dsimp only [Sum.elim_inl, Sum.elim_inr]
     obtain rfl := Option.some.inj h
     exact finQ [0, 1, 2, 3, 4]
theorem k_impl_bodyValid (a0 : List Int) {r : Bool} (h : impl_bodyValid a0 = some r) :
 FnA Try.prog 74 [.sl 0] [.row false (.ints .i64 a0)] [] (fun x H => x = .v (.bool r) ∧ H = [.row false (.ints .i64 a0)]) := by
 unfold impl_bodyValid at h
 refine FnA.ofA 15 [0] [.tmp 2] Try.func74 en74 ?_
 refine awp_regS ftCOk [(0, .sl 0)] ?_
 replace ⟨y, hr0, h⟩ := bind_some h
 refine awp_to [(2, .v (.bool (((decide (1 ≤ (a0.length : Int))) && (decide ((a0.length : Int) ≤ 100))) && y)))] [.row false (.ints .i64 a0)] ?_ ?_
 ·clear h
  intro K hK
  refine awp_regionA ?_
  refine wpA_cutAt 8 [(0, .sl 0), (10, .v (.bool ((decide (1 ≤ (a0.length : Int))) && (decide ((a0.length : Int) ≤ 100)))))] [.row false (.ints .i64 a0)] ?_ ?_
  ·clear hK K
   intro K hK
   refine vcOps_sound ftCOk ?_
   simp (maxSteps := 4000000) only [go_sem, Nat.reduceBEq, Nat.reduceLT, Nat.reduceAdd, Nat.reduceLeDiff, Nat.reduceSub, Nat.reduceEqDiff, Int.reduceToNat, reduceCtorEq, ↓reduceIte]
   repeat' (first | refine And.intro ?_ ?_ | intro hg)
   all_goals (try simp (disch := omega) only [wrap_fits])
   all_goals first | (refine hK _ _ ?_; exact Red.auto) | exact trivial | assumption | omega | exact wrap_fits (by omega) (by omega) | (simp_all; done) | (simp_all; omega)
  refine vcOps_sound ftCOk ?_
  simp (maxSteps := 4000000) only [go_sem, Nat.reduceBEq, Nat.reduceLT, Nat.reduceAdd, Nat.reduceLeDiff, Nat.reduceSub, Nat.reduceEqDiff, Int.reduceToNat, reduceCtorEq, ↓reduceIte]
  repeat' (first | refine And.intro ?_ ?_ | intro hg)
  all_goals (try simp (disch := omega) only [wrap_fits])
  all_goals first
   | (refine hK _ _ ?_; exact Red.auto)
   | exact trivial
   | assumption
   | omega
   | exact wrap_fits (by omega) (by omega)
   | (refine wpA_guard rfl rfl ?_
      refine wpA_callA (k_impl_BytesValid a0 (h := (bite_t hr0 (by first | assumption | (simp only [*, Bool.false_or, Bool.true_or, Bool.or_false, Bool.or_true, Bool.false_and, Bool.true_and, Bool.and_false, Bool.and_true, Bool.not_true, Bool.not_false, beq_self_eq_true]; done) | (simp_all; done))))) [0] [] ?_
      rintro x Hc' ⟨rfl, rfl⟩ hlen
      refine vcOps_sound ftCOk ?_
      simp (maxSteps := 4000000) only [go_sem, Nat.reduceBEq, Nat.reduceLT, Nat.reduceAdd, Nat.reduceLeDiff, Nat.reduceSub, Nat.reduceEqDiff, Int.reduceToNat, reduceCtorEq, ↓reduceIte]
      repeat' (first | refine And.intro ?_ ?_ | intro hg)
      all_goals (try simp (disch := omega) only [wrap_fits])
      all_goals first | (refine hK _ _ ?_; exact Red.auto) | exact trivial | assumption | omega | exact wrap_fits (by omega) (by omega) | (simp_all; done) | (simp_all; omega))
   | (simp_all; done)
   | (simp_all; omega)
 ·clear hr0
  refine awp_ret ?_
  obtain rfl := Option.some.inj h
  exact finQ [0]
theorem k_impl_CheckSum (a0 : List Int) {r : Int} (h : impl_CheckSum a0 = some r) :
 FnA Try.prog 75 [.sl 0] [.row false (.ints .i64 a0)] [] (fun x H => x = .v (.int .i64 r) ∧ H = [.row false (.ints .i64 a0)]) := by
 unfold impl_CheckSum at h
 refine FnA.ofA 23 [0] [.tmp 2] Try.func75 en75 ?_
 refine awp_regS ftCOk [(0, .sl 0)] ?_
 refine awp_seq fun K2 hK2 => ?_
 replace ⟨y, hr0, h⟩ := bind_some h
 refine awp_regC ftCOk [(0, .sl 0), (8, .v (.bool (!y)))] [.row false (.ints .i64 a0)] 1 [0] (k_impl_BytesValid a0 (h := hr0)) ?_
 clear hr0
 refine awp_cond (t := 8) rfl (fun hc3 => ?_) (fun hc3 => ?_)
 ·replace h := bite_t h hc3
  refine awp_regS ftCOk [(2, .v (.int .i64 (-1)))] ?_
  refine awp_ret ?_
  obtain rfl := Option.some.inj h
  exact finQ [0]
 ·replace h := bite_f h hc3
  refine awp_skip ?_
  refine hK2 _ _ ?_
  clear hK2
  refine awp_regS ftCOk [(0, .sl 0), (3, .v (.int .i64 7))] ?_
  refine awp_seq fun K17 hK17 => ?_
  refine awp_regS ftCOk [(3, .v (.int .i64 7)), (9, .sl 0), (10, .v (.int .i64 (a0.length : Int))), (11, .v (.int .i64 0))] ?_
  refine awp_block ?_
  replace h := bind_some h
  obtain ⟨t3_1, hx, h⟩ := h
  refine awp_loopL hx (fun ((t3, t11) : Int × Int) => [(3, .v (.int .i64 t3)), (9, .sl 0), (10, .v (.int .i64 (a0.length : Int))), (11, .v (.int .i64 t11))]) (fun ((t3, t11) : Int × Int) => [.row false (.ints .i64 a0)]) (fun (t3_1 : Int) => Exit.exit 0) (fun (t3_1 : Int) => [(3, .v (.int .i64 t3_1))]) (fun (t3_1 : Int) => [.row false (.ints .i64 a0)]) ?_ ?_ ?_ ?_
  ·rintro t3_1 hy <;> cases hy
  ·clear h hx
   exact Red.auto
  ·clear h hx
   rintro ⟨t3, t11⟩ r h
   unfold impl_CheckSum_b0 at h
   try dsimp only at h
   try dsimp only
   refine awp_regS ftCOk [(3, .v (.int .i64 t3)), (9, .sl 0), (10, .v (.int .i64 (a0.length : Int))), (11, .v (.int .i64 t11)), (12, .v (.bool (decide (t11 < (a0.length : Int)))))] ?_
   refine awp_seq fun K27 hK27 => ?_
   refine awp_cond (t := 12) rfl (fun hc28 => ?_) (fun hc28 => ?_)
   ·replace h := bite_t h hc28
    refine awp_skip ?_
    refine hK27 _ _ ?_
    clear hK27
    refine awp_seq fun K29 hK29 => ?_
    refine awp_block ?_
    replace ⟨hp0, h⟩ := chk_some h
    refine awp_regS ftCOk [(3, .v (.int .i64 t3)), (5, .v (.int .i64 (a0.getD t11.toNat 0))), (9, .sl 0), (10, .v (.int .i64 (a0.length : Int))), (11, .v (.int .i64 t11))] ?_
    clear hp0
    replace ⟨hp0, h⟩ := chk_some h
    replace ⟨hp1, h⟩ := chk_some h
    replace ⟨hp2, h⟩ := chk_some h
    replace ⟨hp3, h⟩ := chk_some h
    refine awp_regES ftCOk [(3, .v (.int .i64 ((((31 * t3) + (a0.getD t11.toNat 0)) + 1) % 251))), (9, .sl 0), (10, .v (.int .i64 (a0.length : Int))), (11, .v (.int .i64 t11))] ?_
    clear hp0 hp1 hp2 hp3
    refine hK29 _ _ ?_
    clear hK29
    replace ⟨hp0, h⟩ := chk_some h
    refine awp_regES ftCOk [(3, .v (.int .i64 ((((31 * t3) + (a0.getD t11.toNat 0)) + 1) % 251))), (9, .sl 0), (10, .v (.int .i64 (a0.length : Int))), (11, .v (.int .i64 (t11 + 1)))] ?_
    clear hp0
    obtain rfl := Option.some.inj h
    refine LoopQ.next ?_
    exact Red.auto
   ·replace h := bite_f h hc28
    refine awp_exit ?_
    (try simp only [Thn, InBlk, ↓reduceIte, Nat.reduceEqDiff])
    obtain rfl := Option.some.inj h
    refine LoopQ.out rfl ?_
    exact Red.auto
  ·clear hx
   skip
   ·try dsimp only [Sum.elim_inl, Sum.elim_inr] at h
    try dsimp only [Sum.elim_inl, Sum.elim_inr]
    refine hK17 _ _ ?_
    clear hK17
    refine awp_regS ftCOk [(2, .v (.int .i64 t3_1))] ?_
    refine awp_ret ?_
    obtain rfl := Option.some.inj h
    exact finQ [0]
theorem k_impl_FrameOf (a0 : List Int) {r : List Int} (h : impl_FrameOf a0 = some r) :
 FnA Try.prog 64 [.sl 0] [.row false (.ints .i64 a0)] [] (fun x H => x = .sl 1 ∧ H = [.row false (.ints .i64 a0), .row true (.ints .i64 r)]) := by
 unfold impl_FrameOf at h
 refine FnA.ofA 24 [0] [.tmp 2] Try.func64 en64 ?_
 refine awp_regS ftCOk [(0, .sl 0)] ?_
 refine awp_seq fun K2 hK2 => ?_
 replace ⟨y, hr0, h⟩ := bind_some h
 refine awp_regC ftCOk [(0, .sl 0), (6, .v (.bool (!y)))] [.row false (.ints .i64 a0)] 1 [0] (k_impl_bodyValid a0 (h := hr0)) ?_
 clear hr0
 refine awp_cond (t := 6) rfl (fun hc3 => ?_) (fun hc3 => ?_)
 ·replace h := bite_t h hc3
  refine awp_regS ftCOk [(2, .v (.slice none 0 0))] ?_
  refine awp_red (Red.nil (t := 2) (.ints .i64 []) rfl rfl) ?_
  refine awp_ret ?_
  obtain rfl := Option.some.inj h
  exact finQ [0, 1]
 ·replace h := bite_f h hc3
  refine awp_skip ?_
  refine hK2 _ _ ?_
  clear hK2
  replace ⟨hp0, h⟩ := chk_some h
  replace ⟨hp1, h⟩ := chk_some h
  refine awp_reg ftCOk [(0, .sl 0), (3, .sl 1)] [.row false (.ints .i64 a0), .row true (.ints .i64 (List.replicate 0 0))] ?_
  clear hp0 hp1
  replace ⟨hp0, h⟩ := chk_some h
  refine awp_reg ftCOk [(0, .sl 0), (3, .sl 1)] [.row false (.ints .i64 a0), .row true (.ints .i64 ((List.replicate 0 0) ++ [(a0.length : Int)])), .row true (.ints .i64 [(a0.length : Int)])] ?_
  clear hp0
  replace ⟨hp0, h⟩ := chk_some h
  refine awp_reg ftCOk [(0, .sl 0), (3, .sl 1)] [.row false (.ints .i64 a0), .row true (.ints .i64 (((List.replicate 0 0) ++ [(a0.length : Int)]) ++ a0)), .row true (.ints .i64 [(a0.length : Int)])] ?_
  clear hp0
  replace ⟨y_1, hr0, h⟩ := bind_some h
  replace ⟨hp1, h⟩ := chk_some h
  refine awp_regC ftCOk [(2, .sl 1)] [.row false (.ints .i64 a0), .row true (.ints .i64 ((((List.replicate 0 0) ++ [(a0.length : Int)]) ++ a0) ++ [y_1])), .row true (.ints .i64 [(a0.length : Int)]), .row true (.ints .i64 [y_1])] 2 [0] (k_impl_CheckSum a0 (h := hr0)) ?_
  clear hr0 hp1
  refine awp_ret ?_
  obtain rfl := Option.some.inj h
  exact finQ [0, 1]
theorem k_slices_Concat_int_int (a0 : List (List Int)) {r : List Int} (h : slices_Concat_int_int a0 = some r) :
 FnA Try.prog 65 [.sl 0] [.row false (.intss .i64 a0)] [] (fun x H => x = .sl 1 ∧ H = [.row false (.intss .i64 a0), .row true (.ints .i64 r)]) := by
 unfold slices_Concat_int_int at h
 refine FnA.ofA 36 [0] [.tmp 2] Try.func65 en65 ?_
 refine awp_regS ftCOk [(0, .sl 0)] ?_
 refine awp_regS ftCOk [(0, .sl 0), (3, .v (.int .i64 0))] ?_
 refine awp_seq fun K26 hK26 => ?_
 refine awp_regS ftCOk [(0, .sl 0), (3, .v (.int .i64 0)), (9, .sl 0), (10, .v (.int .i64 (a0.length : Int))), (11, .v (.int .i64 0))] ?_
 refine awp_block ?_
 replace h := bind_some h
 obtain ⟨t3_1, hx, h⟩ := h
 refine awp_loopL hx (fun ((t3, t11) : Int × Int) => [(0, .sl 0), (3, .v (.int .i64 t3)), (9, .sl 0), (10, .v (.int .i64 (a0.length : Int))), (11, .v (.int .i64 t11))]) (fun ((t3, t11) : Int × Int) => [.row false (.intss .i64 a0)]) (fun (t3_1 : Int) => Exit.exit 0) (fun (t3_1 : Int) => [(0, .sl 0), (3, .v (.int .i64 t3_1))]) (fun (t3_1 : Int) => [.row false (.intss .i64 a0)]) ?_ ?_ ?_ ?_
 ·rintro t3_1 hy <;> cases hy
 ·clear h hx
  exact Red.auto
 ·clear h hx
  rintro ⟨t3, t11⟩ r h
  unfold slices_Concat_int_int_b0 at h
  try dsimp only at h
  try dsimp only
  refine awp_regS ftCOk [(0, .sl 0), (3, .v (.int .i64 t3)), (9, .sl 0), (10, .v (.int .i64 (a0.length : Int))), (11, .v (.int .i64 t11)), (12, .v (.bool (decide (t11 < (a0.length : Int)))))] ?_
  refine awp_seq fun K44 hK44 => ?_
  refine awp_cond (t := 12) rfl (fun hc45 => ?_) (fun hc45 => ?_)
  ·replace h := bite_t h hc45
   refine awp_skip ?_
   refine hK44 _ _ ?_
   clear hK44
   refine awp_seq fun K48 hK48 => ?_
   refine awp_block ?_
   replace h := chk_some h
   obtain ⟨hpt50, h⟩ := h
   refine awp_take 0 t11.toNat 0 (by rfl) (by exact hpt50) (by rfl) (by exact rfl) ?_
   clear hpt50
   replace ⟨hp0, h⟩ := chk_some h
   refine awp_regS ftCOk [(0, .sl 0), (3, .v (.int .i64 t3)), (5, .sl 1), (9, .sl 0), (10, .v (.int .i64 (a0.length : Int))), (11, .v (.int .i64 t11))] ?_
   clear hp0
   refine awp_put 0 1 (by rfl) (by rfl) (Cont.setChild_self (by rfl)) (by exact rfl) ?_
   replace ⟨hp0, h⟩ := chk_some h
   refine awp_regS ftCOk [(0, .sl 0), (3, .v (.int .i64 (t3 + ((a0.getD t11.toNat []).length : Int)))), (9, .sl 0), (10, .v (.int .i64 (a0.length : Int))), (11, .v (.int .i64 t11))] ?_
   clear hp0
   refine awp_regS ftCOk [(0, .sl 0), (3, .v (.int .i64 (t3 + ((a0.getD t11.toNat []).length : Int)))), (9, .sl 0), (10, .v (.int .i64 (a0.length : Int))), (11, .v (.int .i64 t11)), (20, .v (.bool (decide ((t3 + ((a0.getD t11.toNat []).length : Int)) < 0))))] ?_
   refine awp_cond (t := 20) rfl (fun hc49 => ?_) (fun hc49 => ?_)
   ·replace h := bite_t h hc49
    cases h
   ·replace h := bite_f h hc49
    refine awp_skip ?_
    refine hK48 _ _ ?_
    clear hK48
    replace ⟨hp0, h⟩ := chk_some h
    refine awp_regES ftCOk [(0, .sl 0), (3, .v (.int .i64 (t3 + ((a0.getD t11.toNat []).length : Int)))), (9, .sl 0), (10, .v (.int .i64 (a0.length : Int))), (11, .v (.int .i64 (t11 + 1)))] ?_
    clear hp0
    obtain rfl := Option.some.inj h
    refine LoopQ.next ?_
    exact Red.selA [0] Red.auto
  ·replace h := bite_f h hc45
   refine awp_exit ?_
   (try simp only [Thn, InBlk, ↓reduceIte, Nat.reduceEqDiff])
   obtain rfl := Option.some.inj h
   refine LoopQ.out rfl ?_
   exact Red.auto
 ·clear hx
  skip
  ·try dsimp only [Sum.elim_inl, Sum.elim_inr] at h
   try dsimp only [Sum.elim_inl, Sum.elim_inr]
   refine hK26 _ _ ?_
   clear hK26
   replace ⟨y, hr0, h⟩ := bind_some h
   refine awp_regC ftCOk [(0, .sl 0), (6, .sl 1)] [.row false (.intss .i64 a0), .row true (.ints .i64 y)] 1 [] (k_slices_Grow_int_int t3_1 (h := hr0)) ?_
   clear hr0
   refine awp_seq fun K71 hK71 => ?_
   refine awp_regS ftCOk [(6, .sl 1), (25, .sl 0), (26, .v (.int .i64 (a0.length : Int))), (27, .v (.int .i64 0))] ?_
   refine awp_block ?_
   replace h := bind_some h
   obtain ⟨t6s_1, hx, h⟩ := h
   refine awp_loopL hx (fun ((t27, t6s) : Int × List Int) => [(6, .sl 1), (25, .sl 0), (26, .v (.int .i64 (a0.length : Int))), (27, .v (.int .i64 t27))]) (fun ((t27, t6s) : Int × List Int) => [.row false (.intss .i64 a0), .row true (.ints .i64 t6s)]) (fun (t6s_1 : List Int) => Exit.exit 2) (fun (t6s_1 : List Int) => [(6, .sl 1)]) (fun (t6s_1 : List Int) => [.row false (.intss .i64 a0), .row true (.ints .i64 t6s_1)]) ?_ ?_ ?_ ?_
   ·rintro t6s_1 hy <;> cases hy
   ·clear h hx
    exact Red.auto
   ·clear h hx
    rintro ⟨t27, t6s⟩ r h
    unfold slices_Concat_int_int_b1 at h
    try dsimp only at h
    try dsimp only
    refine awp_regS ftCOk [(6, .sl 1), (25, .sl 0), (26, .v (.int .i64 (a0.length : Int))), (27, .v (.int .i64 t27)), (28, .v (.bool (decide (t27 < (a0.length : Int)))))] ?_
    refine awp_seq fun K85 hK85 => ?_
    refine awp_cond (t := 28) rfl (fun hc86 => ?_) (fun hc86 => ?_)
    ·replace h := bite_t h hc86
     refine awp_skip ?_
     refine hK85 _ _ ?_
     clear hK85
     refine awp_seq fun K88 hK88 => ?_
     refine awp_block ?_
     replace h := chk_some h
     obtain ⟨hpt89, h⟩ := h
     refine awp_take 0 t27.toNat 0 (by rfl) (by exact hpt89) (by rfl) (by exact rfl) ?_
     clear hpt89
     replace ⟨hp0, h⟩ := chk_some h
     refine awp_regS ftCOk [(6, .sl 1), (8, .sl 2), (25, .sl 0), (26, .v (.int .i64 (a0.length : Int))), (27, .v (.int .i64 t27))] ?_
     clear hp0
     refine awp_put 0 2 (by rfl) (by rfl) (Cont.setChild_self (by rfl)) (by exact rfl) ?_
     replace ⟨hp0, h⟩ := chk_some h
     refine awp_regE ftCOk [(6, .sl 1), (25, .sl 0), (26, .v (.int .i64 (a0.length : Int))), (27, .v (.int .i64 t27))] [.row false (.intss .i64 a0), .row true (.ints .i64 (t6s ++ (a0.getD t27.toNat []))), .row false (.ints .i64 (a0.getD t27.toNat []))] ?_
     clear hp0
     refine hK88 _ _ ?_
     clear hK88
     replace ⟨hp0, h⟩ := chk_some h
     refine awp_regES ftCOk [(6, .sl 1), (25, .sl 0), (26, .v (.int .i64 (a0.length : Int))), (27, .v (.int .i64 (t27 + 1)))] ?_
     clear hp0
     obtain rfl := Option.some.inj h
     refine LoopQ.next ?_
     exact Red.selA [0, 1] Red.auto
    ·replace h := bite_f h hc86
     refine awp_exit ?_
     (try simp only [Thn, InBlk, ↓reduceIte, Nat.reduceEqDiff])
     obtain rfl := Option.some.inj h
     refine LoopQ.out rfl ?_
     exact Red.auto
   ·clear hx
    skip
    ·try dsimp only [Sum.elim_inl, Sum.elim_inr] at h
     try dsimp only [Sum.elim_inl, Sum.elim_inr]
     refine hK71 _ _ ?_
     clear hK71
     refine awp_regS ftCOk [(2, .sl 1)] ?_
     refine awp_ret ?_
     obtain rfl := Option.some.inj h
     exact finQ [0, 1]
theorem k_impl_DiskWrite (a0_0 : List Int) (a0_1 : List Int) (a1 : List Int) {r : List Int × List Int × Bool} (h : impl_DiskWrite a0_0 a0_1 a1 = some r) :
 FnA Try.prog 51 [.agg [.sl 0, .sl 1], .sl 2] [.row false (.ints .i64 a0_0), .row false (.ints .i64 a0_1), .row false (.ints .i64 a1)] [] (fun x H => x = .tup [.agg [.sl 3, .sl 4], .v (.bool r.2.2)] ∧ H = [.row false (.ints .i64 a0_0), .row false (.ints .i64 a0_1), .row false (.ints .i64 a1), .row true (.ints .i64 r.1), .row true (.ints .i64 r.2.1)]) := by
 unfold impl_DiskWrite at h
 refine FnA.ofA 39 [0, 1, 2] [.cell 4 29, .tmp 5] Try.func51 en51 ?_
 refine awp_reg ftCOk [(1, .sl 2), (2, .pp 3 0), (4, .pp 4 0)] [.row false (.ints .i64 a0_0), .row false (.ints .i64 a0_1), .row false (.ints .i64 a1), .box [.sl 0, .sl 1], .box [.v (.slice none 0 0), .v (.slice none 0 0)]] ?_
 refine awp_freeze 2 (by rfl) (by rfl) (by exact rfl) ?_
 refine awp_seq fun K2 hK2 => ?_
 replace ⟨y, hr0, h⟩ := bind_some h
 refine awp_regC ftCOk [(1, .sl 2), (2, .pp 3 0), (4, .pp 4 0), (9, .v (.bool (!y)))] [.row false (.ints .i64 a0_0), .row false (.ints .i64 a0_1), .row false (.ints .i64 a1), .rbox [.sl 0, .sl 1], .box [.v (.slice none 0 0), .v (.slice none 0 0)]] 1 [0, 1] (k_impl_DiskValid a0_0 a0_1 (h := hr0)) ?_
 clear hr0
 refine awp_cond (t := 9) rfl (fun hc3 => ?_) (fun hc3 => ?_)
 ·replace h := bite_t h hc3
  refine awp_regS ftCOk [(4, .pp 4 0), (5, .v (.bool false))] ?_
  refine awp_red (Red.nilCell (o := 4) (i := 0) (.ints .i64 []) rfl rfl rfl) ?_
  refine awp_red (Red.nilCell (o := 4) (i := 1) (.ints .i64 []) rfl rfl rfl) ?_
  refine awp_ret ?_
  obtain rfl := Option.some.inj h
  exact finQ [0, 1, 2, 5, 6]
 ·replace h := bite_f h hc3
  refine awp_skip ?_
  refine hK2 _ _ ?_
  clear hK2
  replace ⟨y_1, hr0, h⟩ := bind_some h
  refine awp_regC ftCOk [(2, .pp 3 0), (4, .pp 4 0), (6, .sl 5)] [.row false (.ints .i64 a0_0), .row false (.ints .i64 a0_1), .row false (.ints .i64 a1), .rbox [.sl 0, .sl 1], .box [.v (.slice none 0 0), .v (.slice none 0 0)], .row true (.ints .i64 y_1)] 1 [2] (k_impl_FrameOf a1 (h := hr0)) ?_
  clear hr0
  refine awp_seq fun K5 hK5 => ?_
  have hboth := both_some h
  refine awp_isnilC (by rfl) (by rfl) Try.underlying22 rfl rfl (by rfl) fun b hb => ?_
  replace h := hboth b hb
  clear hboth
  replace ⟨hp0, h⟩ := chk_some h
  replace ⟨hp1, h⟩ := chk_some h
  refine ⟨[(2, .pp 3 0), (4, .pp 4 0), (6, .sl 5), (27, .v (.bool (b || (decide (2000 < (((a0_0.length : Int) + (a0_1.length : Int)) + (y_1.length : Int)))))))], [.row false (.ints .i64 a0_0), .row false (.ints .i64 a0_1), .row false (.ints .i64 a1), .rbox [.sl 0, .sl 1], .box [.v (.slice none 0 0), .v (.slice none 0 0)], .row true (.ints .i64 y_1)], ?_, ?_⟩
  ·clear h
   intro K hK
   refine vcOps_sound ftCOk ?_
   simp (maxSteps := 4000000) only [go_sem, Nat.reduceBEq, Nat.reduceLT, Nat.reduceAdd, Nat.reduceLeDiff, Nat.reduceSub, Nat.reduceEqDiff, Int.reduceToNat, reduceCtorEq, ↓reduceIte]
   repeat' (first | refine And.intro ?_ ?_ | intro hg)
   all_goals (try simp (disch := omega) only [wrap_fits])
   all_goals first | (refine hK _ _ ?_; exact Red.auto) | exact trivial | assumption | omega | exact wrap_fits (by omega) (by omega) | (have hq := hp0 (by first | assumption | (simp only [*, Bool.false_or, Bool.true_or, Bool.or_false, Bool.or_true, Bool.false_and, Bool.true_and, Bool.and_false, Bool.and_true, Bool.not_true, Bool.not_false, beq_self_eq_true]; done) | (simp_all; done)); omega) | (have hq := hp1 (by first | assumption | (simp only [*, Bool.false_or, Bool.true_or, Bool.or_false, Bool.or_true, Bool.false_and, Bool.true_and, Bool.and_false, Bool.and_true, Bool.not_true, Bool.not_false, beq_self_eq_true]; done) | (simp_all; done)); omega) | (simp_all; done) | (simp_all; omega)
  ·clear hp0 hp1
   refine awp_cond (t := 27) rfl (fun hc6 => ?_) (fun hc6 => ?_)
   ·replace h := bite_t h hc6
    replace ⟨⟨y_2, y_3⟩, hr0, h⟩ := bind_some h
    try dsimp only at h
    refine awp_regC ftCOk [(4, .pp 4 0), (5, .v (.bool false))] [.row false (.ints .i64 a0_0), .row false (.ints .i64 a0_1), .row false (.ints .i64 a1), .rbox [.sl 0, .sl 1], .box [.sl 6, .sl 7], .row true (.ints .i64 y_1), .row true (.ints .i64 y_2), .row true (.ints .i64 y_3)] 1 [0, 1] (k_impl_Disk_copied a0_0 a0_1 (h := hr0)) ?_
    clear hr0
    refine awp_ret ?_
    obtain rfl := Option.some.inj h
    exact finQ [0, 1, 2, 6, 7]
   ·replace h := bite_f h hc6
    refine awp_skip ?_
    refine hK5 _ _ ?_
    clear hK5
    refine awp_freezeRow 6 (by rfl) (by rfl) (by exact rfl) ?_
    replace ⟨y_4, hr0, h⟩ := bind_some h
    replace ⟨y_5, hr1, h⟩ := bind_some h
    refine awp_to [(4, .pp 4 0), (5, .v (.bool true))] [.row false (.ints .i64 a0_0), .row false (.ints .i64 a0_1), .row false (.ints .i64 a1), .rbox [.sl 0, .sl 1], .box [.sl 6, .sl 8], .row false (.ints .i64 y_1), .row true (.ints .i64 y_4), .row false (.intss .i64 [a0_1, y_1]), .row true (.ints .i64 y_5)] ?_ ?_
    ·clear h
     intro K hK
     refine awp_drawL [0, 1, 2, 3, 4, 5] [0, 3, 5, 1, 4] 6 #[true, true, false, true, true, true, false, false, false, false, false] mixed ftCOk (by kernel_rfl) (by first | rfl | kernel_rfl) (by rfl) (by simp) fun L hL => ?_
     have n4 : L 0 #[true, true, true, true, true, true, true, true, true, true, true] [(2, .pp 3 0), (4, .pp 4 0), (5, .v (.bool true)), (6, .sl 5), (27, .v (.bool (b || (decide (2000 < (((a0_0.length : Int) + (a0_1.length : Int)) + (y_1.length : Int))))))), (30, .pp 3 0), (31, .sl 0), (32, .sl 6), (33, .pp 3 1), (34, .sl 1), (35, .sl 5), (36, .sl 7), (37, .sl 8), (38, .agg [.sl 6, .sl 8])] [.row false (.ints .i64 a0_0), .row false (.ints .i64 a0_1), .row false (.ints .i64 a1), .rbox [.sl 0, .sl 1], .box [.sl 6, .sl 8], .row false (.ints .i64 y_1), .row true (.ints .i64 y_4), .row false (.intss .i64 [a0_1, y_1]), .row true (.ints .i64 y_5)] := by
      exact hL.fin (by kernel_rfl) (hK _ _ Red.auto)
     have n3 : L 2 #[true, true, true, true, true, true, true, true, true, false, false] [(2, .pp 3 0), (4, .pp 4 0), (6, .sl 5), (27, .v (.bool (b || (decide (2000 < (((a0_0.length : Int) + (a0_1.length : Int)) + (y_1.length : Int))))))), (30, .pp 3 0), (31, .sl 0), (32, .sl 6), (33, .pp 3 1), (34, .sl 1), (35, .sl 5), (36, .sl 7), (37, .sl 8), (38, .agg [.sl 6, .sl 8])] [.row false (.ints .i64 a0_0), .row false (.ints .i64 a0_1), .row false (.ints .i64 a1), .rbox [.sl 0, .sl 1], .box [.v (.slice none 0 0), .v (.slice none 0 0)], .row false (.ints .i64 y_1), .row true (.ints .i64 y_4), .row false (.intss .i64 [a0_1, y_1]), .row true (.ints .i64 y_5)] := by
      refine hL.step [(9, [10], 0, #[true, true, true, true, true, true, true, true, true, true, true])] (by kernel_rfl) ⟨?_, trivial⟩
      ·exact hL.edge n4
     have n2 : L 4 #[true, true, true, true, true, true, true, false, false, false, false] [(2, .pp 3 0), (4, .pp 4 0), (6, .sl 5), (27, .v (.bool (b || (decide (2000 < (((a0_0.length : Int) + (a0_1.length : Int)) + (y_1.length : Int))))))), (30, .pp 3 0), (31, .sl 0), (32, .sl 6), (33, .pp 3 1), (34, .sl 1), (35, .sl 5), (36, .sl 7)] [.row false (.ints .i64 a0_0), .row false (.ints .i64 a0_1), .row false (.ints .i64 a1), .rbox [.sl 0, .sl 1], .box [.v (.slice none 0 0), .v (.slice none 0 0)], .row false (.ints .i64 y_1), .row true (.ints .i64 y_4), .row false (.intss .i64 [a0_1, y_1])] := by
      refine hL.step [(7, [8], 2, #[true, true, true, true, true, true, true, true, true, false, false])] (by kernel_rfl) ⟨?_, trivial⟩
      ·simp (maxSteps := 4000000) only [go_sem, Nat.reduceBEq, Nat.reduceLT, Nat.reduceAdd, Nat.reduceLeDiff, Nat.reduceSub, Nat.reduceEqDiff, Int.reduceToNat, reduceCtorEq, ↓reduceIte]
       repeat' (first | refine And.intro ?_ ?_ | intro hg)
       all_goals (try simp (disch := omega) only [wrap_fits])
       all_goals first
        | (refine hL.red ?_ n3; exact Red.auto)
        | exact trivial
        | assumption
        | omega
        | exact wrap_fits (by omega) (by omega)
        | (refine OpK_callA (k_slices_Concat_int_int [a0_1, y_1] (h := hr1)) [7] [] ?_
           rintro x Hc' ⟨rfl, rfl⟩ hlen
           simp (maxSteps := 4000000) only [go_sem, Nat.reduceBEq, Nat.reduceLT, Nat.reduceAdd, Nat.reduceLeDiff, Nat.reduceSub, Nat.reduceEqDiff, Int.reduceToNat, reduceCtorEq, ↓reduceIte]
           repeat' (first | refine And.intro ?_ ?_ | intro hg)
           all_goals (try simp (disch := omega) only [wrap_fits])
           all_goals first | (refine hL.red ?_ n3; exact Red.auto) | exact trivial | assumption | omega | exact wrap_fits (by omega) (by omega) | (simp_all; done) | (simp_all; omega))
        | (simp (maxSteps := 4000000) only [go_sem, Nat.reduceBEq, Nat.reduceLT, Nat.reduceAdd, Nat.reduceLeDiff, Nat.reduceSub, Nat.reduceEqDiff, Int.reduceToNat, reduceCtorEq, ↓reduceIte]
           repeat' (first | refine And.intro ?_ ?_ | intro hg)
           all_goals (try simp (disch := omega) only [wrap_fits])
           all_goals first | (refine hL.red ?_ n3; exact Red.auto) | exact trivial | assumption | omega | exact wrap_fits (by omega) (by omega))
        | (simp_all; done)
        | (simp_all; omega)
     have n1 : L 5 #[true, true, true, true, true, true, false, false, false, false, false] [(2, .pp 3 0), (4, .pp 4 0), (6, .sl 5), (27, .v (.bool (b || (decide (2000 < (((a0_0.length : Int) + (a0_1.length : Int)) + (y_1.length : Int))))))), (30, .pp 3 0), (31, .sl 0), (32, .sl 6), (33, .pp 3 1), (34, .sl 1), (35, .sl 5)] [.row false (.ints .i64 a0_0), .row false (.ints .i64 a0_1), .row false (.ints .i64 a1), .rbox [.sl 0, .sl 1], .box [.v (.slice none 0 0), .v (.slice none 0 0)], .row false (.ints .i64 y_1), .row true (.ints .i64 y_4)] := by
      refine hL.step [(6, [], 4, #[true, true, true, true, true, true, true, false, false, false, false])] (by kernel_rfl) ⟨?_, trivial⟩
      ·exact hL.edge n2
     have n5 : L 5 #[true, true, false, true, true, true, true, false, false, false, false] [(2, .pp 3 0), (4, .pp 4 0), (6, .sl 5), (27, .v (.bool (b || (decide (2000 < (((a0_0.length : Int) + (a0_1.length : Int)) + (y_1.length : Int))))))), (30, .pp 3 0), (31, .sl 0), (33, .pp 3 1), (34, .sl 1), (35, .sl 5), (36, .sl 6)] [.row false (.ints .i64 a0_0), .row false (.ints .i64 a0_1), .row false (.ints .i64 a1), .rbox [.sl 0, .sl 1], .box [.v (.slice none 0 0), .v (.slice none 0 0)], .row false (.ints .i64 y_1), .row false (.intss .i64 [a0_1, y_1])] := by
      refine hL.step [(2, [], 4, #[true, true, true, true, true, true, true, false, false, false, false])] (by kernel_rfl) ⟨?_, trivial⟩
      ·simp (maxSteps := 4000000) only [go_sem, Nat.reduceBEq, Nat.reduceLT, Nat.reduceAdd, Nat.reduceLeDiff, Nat.reduceSub, Nat.reduceEqDiff, Int.reduceToNat, reduceCtorEq, ↓reduceIte]
       repeat' (first | refine And.intro ?_ ?_ | intro hg)
       all_goals (try simp (disch := omega) only [wrap_fits])
       all_goals first
        | (refine hL.red ?_ n2; exact Red.selA [0, 1, 2, 3, 4, 5, 7, 6] Red.auto)
        | exact trivial
        | assumption
        | omega
        | exact wrap_fits (by omega) (by omega)
        | (refine OpK_callA (k_slices_Clone_int_int a0_0 (h := hr0)) [0] [] ?_
           rintro x Hc' ⟨rfl, rfl⟩ hlen
           simp (maxSteps := 4000000) only [go_sem, Nat.reduceBEq, Nat.reduceLT, Nat.reduceAdd, Nat.reduceLeDiff, Nat.reduceSub, Nat.reduceEqDiff, Int.reduceToNat, reduceCtorEq, ↓reduceIte]
           repeat' (first | refine And.intro ?_ ?_ | intro hg)
           all_goals (try simp (disch := omega) only [wrap_fits])
           all_goals first | (refine hL.red ?_ n2; exact Red.selA [0, 1, 2, 3, 4, 5, 7, 6] Red.auto) | exact trivial | assumption | omega | exact wrap_fits (by omega) (by omega) | (simp_all; done) | (simp_all; omega))
        | (simp (maxSteps := 4000000) only [go_sem, Nat.reduceBEq, Nat.reduceLT, Nat.reduceAdd, Nat.reduceLeDiff, Nat.reduceSub, Nat.reduceEqDiff, Int.reduceToNat, reduceCtorEq, ↓reduceIte]
           repeat' (first | refine And.intro ?_ ?_ | intro hg)
           all_goals (try simp (disch := omega) only [wrap_fits])
           all_goals first | (refine hL.red ?_ n2; exact Red.selA [0, 1, 2, 3, 4, 5, 7, 6] Red.auto) | exact trivial | assumption | omega | exact wrap_fits (by omega) (by omega))
        | (simp_all; done)
        | (simp_all; omega)
     have n0 : L 6 #[true, true, false, true, true, true, false, false, false, false, false] [(2, .pp 3 0), (4, .pp 4 0), (6, .sl 5), (27, .v (.bool (b || (decide (2000 < (((a0_0.length : Int) + (a0_1.length : Int)) + (y_1.length : Int))))))), (30, .pp 3 0), (31, .sl 0), (33, .pp 3 1), (34, .sl 1), (35, .sl 5)] [.row false (.ints .i64 a0_0), .row false (.ints .i64 a0_1), .row false (.ints .i64 a1), .rbox [.sl 0, .sl 1], .box [.v (.slice none 0 0), .v (.slice none 0 0)], .row false (.ints .i64 y_1)] := by
      refine hL.step [(2, [], 5, #[true, true, true, true, true, true, false, false, false, false, false]), (6, [], 5, #[true, true, false, true, true, true, true, false, false, false, false])] (by kernel_rfl) ⟨?_, ?_, trivial⟩
      ·simp (maxSteps := 4000000) only [go_sem, Nat.reduceBEq, Nat.reduceLT, Nat.reduceAdd, Nat.reduceLeDiff, Nat.reduceSub, Nat.reduceEqDiff, Int.reduceToNat, reduceCtorEq, ↓reduceIte]
       repeat' (first | refine And.intro ?_ ?_ | intro hg)
       all_goals (try simp (disch := omega) only [wrap_fits])
       all_goals first
        | (refine hL.red ?_ n1; exact Red.auto)
        | exact trivial
        | assumption
        | omega
        | exact wrap_fits (by omega) (by omega)
        | (refine OpK_callA (k_slices_Clone_int_int a0_0 (h := hr0)) [0] [] ?_
           rintro x Hc' ⟨rfl, rfl⟩ hlen
           simp (maxSteps := 4000000) only [go_sem, Nat.reduceBEq, Nat.reduceLT, Nat.reduceAdd, Nat.reduceLeDiff, Nat.reduceSub, Nat.reduceEqDiff, Int.reduceToNat, reduceCtorEq, ↓reduceIte]
           repeat' (first | refine And.intro ?_ ?_ | intro hg)
           all_goals (try simp (disch := omega) only [wrap_fits])
           all_goals first | (refine hL.red ?_ n1; exact Red.auto) | exact trivial | assumption | omega | exact wrap_fits (by omega) (by omega) | (simp_all; done) | (simp_all; omega))
        | (simp (maxSteps := 4000000) only [go_sem, Nat.reduceBEq, Nat.reduceLT, Nat.reduceAdd, Nat.reduceLeDiff, Nat.reduceSub, Nat.reduceEqDiff, Int.reduceToNat, reduceCtorEq, ↓reduceIte]
           repeat' (first | refine And.intro ?_ ?_ | intro hg)
           all_goals (try simp (disch := omega) only [wrap_fits])
           all_goals first | (refine hL.red ?_ n1; exact Red.auto) | exact trivial | assumption | omega | exact wrap_fits (by omega) (by omega))
        | (simp_all; done)
        | (simp_all; omega)
      ·exact hL.edge n5
     simp (maxSteps := 4000000) only [go_sem, Nat.reduceBEq, Nat.reduceLT, Nat.reduceAdd, Nat.reduceLeDiff, Nat.reduceSub, Nat.reduceEqDiff, Int.reduceToNat, reduceCtorEq, ↓reduceIte]
     repeat' (first | refine And.intro ?_ ?_ | intro hg)
     all_goals (try simp (disch := omega) only [wrap_fits])
     all_goals first
      | (refine hL.red ?_ n0; exact Red.auto)
      | exact trivial
      | assumption
      | omega
      | exact wrap_fits (by omega) (by omega)
      | (simp (maxSteps := 4000000) only [go_sem, Nat.reduceBEq, Nat.reduceLT, Nat.reduceAdd, Nat.reduceLeDiff, Nat.reduceSub, Nat.reduceEqDiff, Int.reduceToNat, reduceCtorEq, ↓reduceIte]
         repeat' (first | refine And.intro ?_ ?_ | intro hg)
         all_goals (try simp (disch := omega) only [wrap_fits])
         all_goals first | (refine hL.red ?_ n0; exact Red.auto) | exact trivial | assumption | omega | exact wrap_fits (by omega) (by omega))
      | (simp_all; done)
      | (simp_all; omega)
    ·clear hr0 hr1
     refine awp_ret ?_
     obtain rfl := Option.some.inj h
     exact finQ [0, 1, 2, 6, 8]
theorem k_impl_Disk_kept (a0_0 : List Int) (a0_1 : List Int) (a1 : Int) {r : List Int × List Int} (h : impl_Disk_kept a0_0 a0_1 a1 = some r) :
 FnA Try.prog 52 [.agg [.sl 0, .sl 1], .v (.int .i64 a1)] [.row false (.ints .i64 a0_0), .row false (.ints .i64 a0_1)] [] (fun x H => x = .agg [.sl 2, .sl 3] ∧ H = [.row false (.ints .i64 a0_0), .row false (.ints .i64 a0_1), .row true (.ints .i64 r.1), .row true (.ints .i64 r.2)]) := by
 unfold impl_Disk_kept at h
 refine FnA.ofA 19 [0, 1] [.cell 4 29] Try.func52 en52 ?_
 refine awp_reg ftCOk [(1, .v (.int .i64 a1)), (2, .pp 2 0), (4, .pp 3 0)] [.row false (.ints .i64 a0_0), .row false (.ints .i64 a0_1), .box [.sl 0, .sl 1], .box [.v (.slice none 0 0), .v (.slice none 0 0)]] ?_
 refine awp_freeze 2 (by rfl) (by rfl) (by exact rfl) ?_
 refine awp_regS ftCOk [(1, .v (.int .i64 (min a1 (a0_1.length : Int)))), (2, .pp 2 0), (4, .pp 3 0)] ?_
 replace ⟨hp0, h⟩ := chk_some h
 replace ⟨y, hr1, h⟩ := bind_some h
 refine awp_to [(4, .pp 3 0)] [.row false (.ints .i64 a0_0), .row false (.ints .i64 a0_1), .rbox [.sl 0, .sl 1], .box [.sl 6, .v (.slice none 0 0)], .row false (.ints .i64 ((a0_1.take ((min a1 (a0_1.length : Int)).toNat)).drop 0)), .row false (.intss .i64 [a0_0, ((a0_1.take ((min a1 (a0_1.length : Int)).toNat)).drop 0)]), .row true (.ints .i64 y)] ?_ ?_
 ·clear h
  intro K hK
  refine awp_drawT mixed ftCOk (.free 0 (.free 2 (.free 4 (.free 1 (.one 3 (.one 5 (.one 6 (.one 7 (.one 8 (.one 9 .fin)))))))))) (by kernel_rfl) (by simp) ?_
  simp (maxSteps := 4000000) only [go_sem, Nat.reduceBEq, Nat.reduceLT, Nat.reduceAdd, Nat.reduceLeDiff, Nat.reduceSub, Nat.reduceEqDiff, Int.reduceToNat, reduceCtorEq, ↓reduceIte]
  repeat' (first | refine And.intro ?_ ?_ | intro hg)
  all_goals (try simp (disch := omega) only [wrap_fits])
  all_goals first
   | (refine hK _ _ ?_; exact Red.auto)
   | exact trivial
   | assumption
   | omega
   | exact wrap_fits (by omega) (by omega)
   | (refine OpK_callA (k_slices_Concat_int_int [a0_0, ((a0_1.take ((min a1 (a0_1.length : Int)).toNat)).drop 0)] (h := hr1)) [5] [] ?_
      rintro x Hc' ⟨rfl, rfl⟩ hlen
      simp (maxSteps := 4000000) only [go_sem, Nat.reduceBEq, Nat.reduceLT, Nat.reduceAdd, Nat.reduceLeDiff, Nat.reduceSub, Nat.reduceEqDiff, Int.reduceToNat, reduceCtorEq, ↓reduceIte]
      repeat' (first | refine And.intro ?_ ?_ | intro hg)
      all_goals (try simp (disch := omega) only [wrap_fits])
      all_goals first
       | (refine hK _ _ ?_; exact Red.auto)
       | exact trivial
       | assumption
       | omega
       | exact wrap_fits (by omega) (by omega)
       | (simp (maxSteps := 4000000) only [go_sem, Nat.reduceBEq, Nat.reduceLT, Nat.reduceAdd, Nat.reduceLeDiff, Nat.reduceSub, Nat.reduceEqDiff, Int.reduceToNat, reduceCtorEq, ↓reduceIte]
          repeat' (first | refine And.intro ?_ ?_ | intro hg)
          all_goals (try simp (disch := omega) only [wrap_fits])
          all_goals first | (refine hK _ _ ?_; exact Red.auto) | exact trivial | assumption | omega | exact wrap_fits (by omega) (by omega))
       | (simp_all; done)
       | (simp_all; omega))
   | (simp_all; done)
   | (simp_all; omega)
 ·clear hp0 hr1
  refine awp_red (Red.nilCell (o := 3) (i := 1) (.ints .i64 []) rfl rfl rfl) ?_
  refine awp_ret ?_
  obtain rfl := Option.some.inj h
  exact finQ [0, 1, 6, 7]
theorem k_impl_DiskSync (a0_0 : List Int) (a0_1 : List Int) {r : List Int × List Int} (h : impl_DiskSync a0_0 a0_1 = some r) :
 FnA Try.prog 40 [.agg [.sl 0, .sl 1]] [.row false (.ints .i64 a0_0), .row false (.ints .i64 a0_1)] [] (fun x H => x = .agg [.sl 2, .sl 3] ∧ H = [.row false (.ints .i64 a0_0), .row false (.ints .i64 a0_1), .row true (.ints .i64 r.1), .row true (.ints .i64 r.2)]) := by
 unfold impl_DiskSync at h
 refine FnA.ofA 12 [0, 1] [.cell 2 29] Try.func40 en40 ?_
 refine awp_reg ftCOk [(1, .pp 2 0), (2, .pp 3 0)] [.row false (.ints .i64 a0_0), .row false (.ints .i64 a0_1), .box [.sl 0, .sl 1], .box [.v (.slice none 0 0), .v (.slice none 0 0)]] ?_
 refine awp_freeze 1 (by rfl) (by rfl) (by exact rfl) ?_
 refine awp_seq fun K2 hK2 => ?_
 replace ⟨y, hr0, h⟩ := bind_some h
 refine awp_regC ftCOk [(1, .pp 2 0), (2, .pp 3 0), (5, .v (.bool (!y)))] [.row false (.ints .i64 a0_0), .row false (.ints .i64 a0_1), .rbox [.sl 0, .sl 1], .box [.v (.slice none 0 0), .v (.slice none 0 0)]] 1 [0, 1] (k_impl_DiskValid a0_0 a0_1 (h := hr0)) ?_
 clear hr0
 refine awp_cond (t := 5) rfl (fun hc3 => ?_) (fun hc3 => ?_)
 ·replace h := bite_t h hc3
  refine awp_regS ftCOk [(2, .pp 3 0)] ?_
  refine awp_red (Red.nilCell (o := 3) (i := 0) (.ints .i64 []) rfl rfl rfl) ?_
  refine awp_red (Red.nilCell (o := 3) (i := 1) (.ints .i64 []) rfl rfl rfl) ?_
  refine awp_ret ?_
  obtain rfl := Option.some.inj h
  exact finQ [0, 1, 4, 5]
 ·replace h := bite_f h hc3
  refine awp_skip ?_
  refine hK2 _ _ ?_
  clear hK2
  replace ⟨⟨y_1, y_2⟩, hr0, h⟩ := bind_some h
  try dsimp only at h
  refine awp_regC ftCOk [(2, .pp 3 0)] [.row false (.ints .i64 a0_0), .row false (.ints .i64 a0_1), .rbox [.sl 0, .sl 1], .box [.sl 4, .sl 5], .row true (.ints .i64 y_1), .row true (.ints .i64 y_2)] 4 [0, 1] (k_impl_Disk_kept a0_0 a0_1 (a0_1.length : Int) (h := hr0)) ?_
  clear hr0
  refine awp_ret ?_
  obtain rfl := Option.some.inj h
  exact finQ [0, 1, 4, 5]
theorem k_impl_bodiesOf_v1 (a0_0 : List Int) (a0_1 : List Int) (a1_0 : Int) (a1_1 : List Int) (a1_2 : List Bool) (a1_3 : List (Int × Int × Int)) {r : Int} (h : impl_bodiesOf_v1 a0_0 a0_1 a1_0 a1_1 a1_2 a1_3 = some r) :
 FnA Try.prog 50 [.agg [.v (.int .i64 a1_0), .sl 2, .sl 3, .sl 4]] [.row false (.ints .i64 a0_0), .row false (.ints .i64 a0_1), .row false (.ints .i64 a1_1), .row false (.bools a1_2), .row false (.trips a1_3), .rbox [.sl 0, .sl 1], .rbox [.v (.int .i64 a1_0), .sl 2, .sl 3, .sl 4], .box [.v (.slice none 0 0), .v (.slice none 0 0)], .box [.sl 0, .sl 1], .rbox [.v (.int .i64 a1_0), .sl 2, .sl 3, .sl 4], .box [.v (.slice none 0 0), .v (.slice none 0 0)], .box [.v (.bool false)]] [] (fun x H => x = .ip 12 (.clo 62) ∧ H = [.row false (.ints .i64 a0_0), .row false (.ints .i64 a0_1), .row false (.ints .i64 a1_1), .row false (.bools a1_2), .row false (.trips a1_3), .rbox [.sl 0, .sl 1], .rbox [.v (.int .i64 a1_0), .sl 2, .sl 3, .sl 4], .box [.v (.slice none 0 0), .v (.slice none 0 0)], .box [.sl 0, .sl 1], .rbox [.v (.int .i64 a1_0), .sl 2, .sl 3, .sl 4], .box [.v (.slice none 0 0), .v (.slice none 0 0)], .box [.v (.bool false)], .rbox [.v (.int .i64 r), .sl 2, .sl 3, .sl 4]]) := by
 unfold impl_bodiesOf_v1 at h
 refine FnA.ofA 4 [0, 1, 2, 3, 4, 5, 6, 7, 8, 9, 10, 11] [.tmp 2] Try.func50 en50 ?_
 refine awp_reg ftCOk [(1, .pp 12 0)] [.row false (.ints .i64 a0_0), .row false (.ints .i64 a0_1), .row false (.ints .i64 a1_1), .row false (.bools a1_2), .row false (.trips a1_3), .rbox [.sl 0, .sl 1], .rbox [.v (.int .i64 a1_0), .sl 2, .sl 3, .sl 4], .box [.v (.slice none 0 0), .v (.slice none 0 0)], .box [.sl 0, .sl 1], .rbox [.v (.int .i64 a1_0), .sl 2, .sl 3, .sl 4], .box [.v (.slice none 0 0), .v (.slice none 0 0)], .box [.v (.bool false)], .box [.v (.int .i64 a1_0), .sl 2, .sl 3, .sl 4]] ?_
 refine awp_freeze 1 (by rfl) (by rfl) (by exact rfl) ?_
 refine awp_regS ftCOk [(2, .ip 12 (.clo 62))] ?_
 refine awp_ret ?_
 obtain rfl := Option.some.inj h
 exact finQ [0, 1, 2, 3, 4, 5, 6, 7, 8, 9, 10, 11, 12]
theorem k_impl_written_v1 (a0_0 : List Int) (a0_1 : List Int) (a1_0 : Int) (a1_1 : List Int) (a1_2 : List Bool) (a1_3 : List (Int × Int × Int)) {r : List Int × List Int × Bool} (h : impl_written_v1 a0_0 a0_1 a1_0 a1_1 a1_2 a1_3 = some r) :
 FnA Try.prog 39 [.agg [.sl 0, .sl 1], .agg [.v (.int .i64 a1_0), .sl 2, .sl 3, .sl 4]] [.row false (.ints .i64 a0_0), .row false (.ints .i64 a0_1), .row false (.ints .i64 a1_1), .row false (.bools a1_2), .row false (.trips a1_3), .rbox [.sl 0, .sl 1], .rbox [.v (.int .i64 a1_0), .sl 2, .sl 3, .sl 4], .box [.v (.slice none 0 0), .v (.slice none 0 0)]] [] (fun x H => x = .tup [.agg [.sl 8, .sl 9], .v (.bool r.2.2)] ∧ H = [.row false (.ints .i64 a0_0), .row false (.ints .i64 a0_1), .row false (.ints .i64 a1_1), .row false (.bools a1_2), .row false (.trips a1_3), .rbox [.sl 0, .sl 1], .rbox [.v (.int .i64 a1_0), .sl 2, .sl 3, .sl 4], .box [.v (.slice none 0 0), .v (.slice none 0 0)], .row false (.ints .i64 r.1), .row false (.ints .i64 r.2.1)]) := by
 unfold impl_written_v1 at h
 refine FnA.ofA 23 [0, 1, 2, 3, 4, 5, 6, 7] [.cell 4 29, .cell 5 4] Try.func39 en39 ?_
 refine awp_reg ftCOk [(2, .pp 8 0), (3, .pp 9 0), (4, .pp 10 0), (5, .pp 11 0)] [.row false (.ints .i64 a0_0), .row false (.ints .i64 a0_1), .row false (.ints .i64 a1_1), .row false (.bools a1_2), .row false (.trips a1_3), .rbox [.sl 0, .sl 1], .rbox [.v (.int .i64 a1_0), .sl 2, .sl 3, .sl 4], .box [.v (.slice none 0 0), .v (.slice none 0 0)], .box [.sl 0, .sl 1], .box [.v (.int .i64 a1_0), .sl 2, .sl 3, .sl 4], .box [.v (.slice none 0 0), .v (.slice none 0 0)], .box [.v (.bool false)]] ?_
 refine awp_freeze 3 (by rfl) (by rfl) (by exact rfl) ?_
 refine awp_seq fun K14 hK14 => ?_
 replace ⟨y, hr0, h⟩ := bind_some h
 refine awp_to [(2, .pp 8 0), (4, .pp 10 0), (5, .pp 11 0), (10, .ip 12 (.clo 62))] [.row false (.ints .i64 a0_0), .row false (.ints .i64 a0_1), .row false (.ints .i64 a1_1), .row false (.bools a1_2), .row false (.trips a1_3), .rbox [.sl 0, .sl 1], .rbox [.v (.int .i64 a1_0), .sl 2, .sl 3, .sl 4], .box [.v (.slice none 0 0), .v (.slice none 0 0)], .box [.sl 0, .sl 1], .rbox [.v (.int .i64 a1_0), .sl 2, .sl 3, .sl 4], .box [.v (.slice none 0 0), .v (.slice none 0 0)], .box [.v (.bool false)], .rbox [.v (.int .i64 y), .sl 2, .sl 3, .sl 4]] ?_ ?_
 ·clear h
  intro K hK
  refine awp_region ftCOk ?_
  simp (maxSteps := 4000000) only [go_sem, Nat.reduceBEq, Nat.reduceLT, Nat.reduceAdd, Nat.reduceLeDiff, Nat.reduceSub, Nat.reduceEqDiff, Int.reduceToNat, reduceCtorEq, ↓reduceIte]
  repeat' (first | refine And.intro ?_ ?_ | intro hg)
  all_goals (try simp (disch := omega) only [wrap_fits])
  all_goals first
   | (refine hK _ _ ?_; exact Red.auto)
   | exact trivial
   | assumption
   | omega
   | exact wrap_fits (by omega) (by omega)
   | (refine wpA_here (k_impl_bodiesOf_v1 a0_0 a0_1 a1_0 a1_1 a1_2 a1_3 (h := hr0)) ?_
      rintro x Hc' ⟨rfl, rfl⟩ hlen
      refine vcOps_sound ftCOk ?_
      simp (maxSteps := 4000000) only [go_sem, Nat.reduceBEq, Nat.reduceLT, Nat.reduceAdd, Nat.reduceLeDiff, Nat.reduceSub, Nat.reduceEqDiff, Int.reduceToNat, reduceCtorEq, ↓reduceIte]
      repeat' (first | refine And.intro ?_ ?_ | intro hg)
      all_goals (try simp (disch := omega) only [wrap_fits])
      all_goals first | (refine hK _ _ ?_; exact Red.auto) | exact trivial | assumption | omega | exact wrap_fits (by omega) (by omega) | (simp_all; done) | (simp_all; omega))
   | (simp_all; done)
   | (simp_all; omega)
 ·clear hr0
  refine awp_block ?_
  replace h := bind_some h
  obtain ⟨u27, hx, h⟩ := h
  refine awp_rangeL (f := impl_written_v1_r0) (s0 := (a0_0, a0_1)) (u' := u27) [0, 1, 2, 3, 4, 5, 6, 7, 8, 11, 14, 15] [(2, .pp 8 0), (4, .pp 11 0), (5, .pp 14 0), (10, .ip 15 (.clo 62))] (fun ((t2_0s, t2_1s) : List Int × List Int) => [.row false (.ints .i64 a0_0), .row false (.ints .i64 a0_1), .row false (.ints .i64 a1_1), .row false (.bools a1_2), .row false (.trips a1_3), .rbox [.sl 0, .sl 1], .rbox [.v (.int .i64 a1_0), .sl 2, .sl 3, .sl 4], .box [.v (.slice none 0 0), .v (.slice none 0 0)], .box [.sl 9, .sl 10], .row false (.ints .i64 t2_0s), .row false (.ints .i64 t2_1s), .box [.sl 12, .sl 13], .row false (.ints .i64 []), .row false (.ints .i64 []), .box [.v (.bool false)], .rbox [.v (.int .i64 y), .sl 2, .sl 3, .sl 4]]) (fun ((t2_0s_1, t2_1s_1, t4_0s, t4_1s) : List Int × List Int × List Int × List Int) => [.row false (.ints .i64 a0_0), .row false (.ints .i64 a0_1), .row false (.ints .i64 a1_1), .row false (.bools a1_2), .row false (.trips a1_3), .rbox [.sl 0, .sl 1], .rbox [.v (.int .i64 a1_0), .sl 2, .sl 3, .sl 4], .box [.v (.slice none 0 0), .v (.slice none 0 0)], .box [.sl 9, .sl 10], .row false (.ints .i64 t2_0s_1), .row false (.ints .i64 t2_1s_1), .box [.sl 12, .sl 13], .row false (.ints .i64 t4_0s), .row false (.ints .i64 t4_1s), .box [.v (.bool false)], .rbox [.v (.int .i64 y), .sl 2, .sl 3, .sl 4]]) (fun ((t2_0s_1, t2_1s_1, t4_0s, t4_1s) : List Int × List Int × List Int × List Int) => Code.ret) (fun x => [(2, .pp 8 0), (4, .pp 11 0), (5, .pp 14 0), (6, .sl 17), (10, .ip 15 (.clo 62))]) [15, 2, 3, 4] [.rbox [.v (.int .i64 y), .sl 2, .sl 3, .sl 4], .row false (.ints .i64 a1_1), .row false (.bools a1_2), .row false (.trips a1_3)] (fun x => [.sl 0]) (fun x => [.row true (.ints .i64 x)]) 16 (fun l Φ hY => k_impl_bodiesOf_1 (Φ := Φ) (l := l) y a1_1 a1_2 a1_3 _ _ (hY := hY) (h := hx)) ?_ ?_ ?_ ?_ ?_ (hnf := by rintro ⟨t2_0s, t2_1s⟩; rfl) (hnx := by rintro ⟨t2_0s_1, t2_1s_1, t4_0s, t4_1s⟩ <;> rfl)
  ·clear h hx
   refine Red.trans (Red.dupCell (o := 8) (i := 0) rfl rfl rfl) ?_
   refine Red.trans (Red.dupCell (o := 8) (i := 1) rfl rfl rfl) ?_
   refine Red.trans (Red.nilCell (o := 10) (i := 0) (.ints .i64 []) rfl rfl rfl) ?_
   refine Red.trans (Red.freeze (o := 15) rfl) ?_
   refine Red.trans (Red.nilCell (o := 10) (i := 1) (.ints .i64 []) rfl rfl rfl) ?_
   refine Red.trans (Red.freeze (o := 16) rfl) ?_
   exact Red.selA [0, 1, 2, 3, 4, 5, 6, 7, 8, 13, 14, 10, 15, 16, 11, 12] Red.auto
  ·clear h hx
   rintro l x ⟨t2_0s, t2_1s⟩ Ψ
   have h := trivial
   refine awp_at [(11, .sl 17), (2, .pp 8 0), (4, .pp 11 0), (5, .pp 14 0), (10, .ip 15 (.clo 62))] [.row false (.ints .i64 a0_0), .row false (.ints .i64 a0_1), .row false (.ints .i64 a1_1), .row false (.bools a1_2), .row false (.trips a1_3), .rbox [.sl 0, .sl 1], .rbox [.v (.int .i64 a1_0), .sl 2, .sl 3, .sl 4], .box [.v (.slice none 0 0), .v (.slice none 0 0)], .box [.sl 9, .sl 10], .row false (.ints .i64 t2_0s), .row false (.ints .i64 t2_1s), .box [.sl 12, .sl 13], .row false (.ints .i64 []), .row false (.ints .i64 []), .box [.v (.bool false)], .rbox [.v (.int .i64 y), .sl 2, .sl 3, .sl 4], .ext Ψ, .row true (.ints .i64 x)] ?_
   refine awp_regES ftCOk [(2, .pp 8 0), (4, .pp 11 0), (5, .pp 14 0), (6, .sl 17), (10, .ip 15 (.clo 62))] ?_
   exact RQ.asg [(2, .pp 8 0), (4, .pp 11 0), (5, .pp 14 0), (6, .sl 17), (10, .ip 15 (.clo 62))] [.row false (.ints .i64 a0_0), .row false (.ints .i64 a0_1), .row false (.ints .i64 a1_1), .row false (.bools a1_2), .row false (.trips a1_3), .rbox [.sl 0, .sl 1], .rbox [.v (.int .i64 a1_0), .sl 2, .sl 3, .sl 4], .box [.v (.slice none 0 0), .v (.slice none 0 0)], .box [.sl 9, .sl 10], .row false (.ints .i64 t2_0s), .row false (.ints .i64 t2_1s), .box [.sl 12, .sl 13], .row false (.ints .i64 []), .row false (.ints .i64 []), .box [.v (.bool false)], .rbox [.v (.int .i64 y), .sl 2, .sl 3, .sl 4], .ext Ψ, .row true (.ints .i64 x)] Red.auto
  ·clear h hx
   rintro l x ⟨t2_0s, t2_1s⟩ u' Ψ h
   unfold impl_written_v1_r0 at h
   try dsimp only at h
   refine awp_at [(2, .pp 8 0), (4, .pp 11 0), (5, .pp 14 0), (6, .sl 17), (10, .ip 15 (.clo 62))] [.row false (.ints .i64 a0_0), .row false (.ints .i64 a0_1), .row false (.ints .i64 a1_1), .row false (.bools a1_2), .row false (.trips a1_3), .rbox [.sl 0, .sl 1], .rbox [.v (.int .i64 a1_0), .sl 2, .sl 3, .sl 4], .box [.v (.slice none 0 0), .v (.slice none 0 0)], .box [.sl 9, .sl 10], .row false (.ints .i64 t2_0s), .row false (.ints .i64 t2_1s), .box [.sl 12, .sl 13], .row false (.ints .i64 []), .row false (.ints .i64 []), .box [.v (.bool false)], .rbox [.v (.int .i64 y), .sl 2, .sl 3, .sl 4], .ext Ψ, .row true (.ints .i64 x)] ?_
   refine awp_block ?_
   replace ⟨⟨y_1, y_2, y_3⟩, hr0, h⟩ := bind_some h
   try dsimp only at h
   refine awp_regC ftCOk [(2, .pp 8 0), (4, .pp 11 0), (5, .pp 14 0), (7, .pp 20 0), (8, .v (.bool y_3)), (10, .ip 15 (.clo 62))] [.row false (.ints .i64 a0_0), .row false (.ints .i64 a0_1), .row false (.ints .i64 a1_1), .row false (.bools a1_2), .row false (.trips a1_3), .rbox [.sl 0, .sl 1], .rbox [.v (.int .i64 a1_0), .sl 2, .sl 3, .sl 4], .box [.v (.slice none 0 0), .v (.slice none 0 0)], .box [.sl 9, .sl 10], .row false (.ints .i64 t2_0s), .row false (.ints .i64 t2_1s), .box [.sl 12, .sl 13], .row false (.ints .i64 []), .row false (.ints .i64 []), .box [.v (.bool false)], .rbox [.v (.int .i64 y), .sl 2, .sl 3, .sl 4], .ext Ψ, .row true (.ints .i64 x), .row true (.ints .i64 y_1), .row true (.ints .i64 y_2), .box [.sl 18, .sl 19]] 2 [9, 10, 17] (k_impl_DiskWrite t2_0s t2_1s x (h := hr0)) ?_
   clear hr0
   refine awp_seq fun K25 hK25 => ?_
   refine awp_regS ftCOk [(2, .pp 8 0), (4, .pp 11 0), (5, .pp 14 0), (7, .pp 20 0), (10, .ip 15 (.clo 62)), (19, .v (.bool (!y_3)))] ?_
   refine awp_cond (t := 19) rfl (fun hc26 => ?_) (fun hc26 => ?_)
   ·replace h := bite_t h hc26
    refine awp_reg ftCOk [(2, .pp 8 0), (4, .pp 11 0), (5, .pp 14 0), (10, .ip 15 (.clo 62))] [.row false (.ints .i64 a0_0), .row false (.ints .i64 a0_1), .row false (.ints .i64 a1_1), .row false (.bools a1_2), .row false (.trips a1_3), .rbox [.sl 0, .sl 1], .rbox [.v (.int .i64 a1_0), .sl 2, .sl 3, .sl 4], .box [.v (.slice none 0 0), .v (.slice none 0 0)], .box [.sl 9, .sl 10], .row false (.ints .i64 t2_0s), .row false (.ints .i64 t2_1s), .box [.sl 9, .sl 10], .row false (.ints .i64 []), .row false (.ints .i64 []), .box [.v (.bool false)], .rbox [.v (.int .i64 y), .sl 2, .sl 3, .sl 4], .ext Ψ, .row true (.ints .i64 x), .row true (.ints .i64 y_1), .row true (.ints .i64 y_2), .box [.sl 18, .sl 19]] ?_
    refine awp_ret ?_
    (try simp only [Thn, InBlk, ↓reduceIte, Nat.reduceEqDiff])
    obtain rfl := Option.some.inj h
    refine RQ.out [.row false (.ints .i64 a0_0), .row false (.ints .i64 a0_1), .row false (.ints .i64 a1_1), .row false (.bools a1_2), .row false (.trips a1_3), .rbox [.sl 0, .sl 1], .rbox [.v (.int .i64 a1_0), .sl 2, .sl 3, .sl 4], .box [.v (.slice none 0 0), .v (.slice none 0 0)], .box [.sl 9, .sl 10], .row false (.ints .i64 t2_0s), .row false (.ints .i64 t2_1s), .box [.sl 12, .sl 13], .row false (.ints .i64 t2_0s), .row false (.ints .i64 t2_1s), .box [.v (.bool false)], .rbox [.v (.int .i64 y), .sl 2, .sl 3, .sl 4], .ext Ψ] ?_
    refine Red.trans (Red.dupCell (o := 11) (i := 0) rfl rfl rfl) ?_
    refine Red.trans (Red.dupCell (o := 11) (i := 1) rfl rfl rfl) ?_
    exact Red.selA [0, 1, 2, 3, 4, 5, 6, 7, 8, 9, 10, 11, 21, 22, 14, 15, 16] Red.auto
   ·replace h := bite_f h hc26
    refine awp_skip ?_
    refine hK25 _ _ ?_
    clear hK25
    refine awp_regE ftCOk [(2, .pp 8 0), (4, .pp 11 0), (5, .pp 14 0), (10, .ip 15 (.clo 62))] [.row false (.ints .i64 a0_0), .row false (.ints .i64 a0_1), .row false (.ints .i64 a1_1), .row false (.bools a1_2), .row false (.trips a1_3), .rbox [.sl 0, .sl 1], .rbox [.v (.int .i64 a1_0), .sl 2, .sl 3, .sl 4], .box [.v (.slice none 0 0), .v (.slice none 0 0)], .box [.sl 18, .sl 19], .row false (.ints .i64 t2_0s), .row false (.ints .i64 t2_1s), .box [.sl 12, .sl 13], .row false (.ints .i64 []), .row false (.ints .i64 []), .box [.v (.bool false)], .rbox [.v (.int .i64 y), .sl 2, .sl 3, .sl 4], .ext Ψ, .row true (.ints .i64 x), .row true (.ints .i64 y_1), .row true (.ints .i64 y_2), .box [.sl 18, .sl 19]] ?_
    (try simp only [Thn, InBlk, ↓reduceIte, Nat.reduceEqDiff])
    obtain rfl := Option.some.inj h
    refine RQ.next [.row false (.ints .i64 a0_0), .row false (.ints .i64 a0_1), .row false (.ints .i64 a1_1), .row false (.bools a1_2), .row false (.trips a1_3), .rbox [.sl 0, .sl 1], .rbox [.v (.int .i64 a1_0), .sl 2, .sl 3, .sl 4], .box [.v (.slice none 0 0), .v (.slice none 0 0)], .box [.sl 9, .sl 10], .row false (.ints .i64 y_1), .row false (.ints .i64 y_2), .box [.sl 12, .sl 13], .row false (.ints .i64 []), .row false (.ints .i64 []), .box [.v (.bool false)], .rbox [.v (.int .i64 y), .sl 2, .sl 3, .sl 4], .ext Ψ] ?_
    refine Red.trans (Red.freeze (o := 18) rfl) ?_
    refine Red.trans (Red.freeze (o := 19) rfl) ?_
    exact Red.selA [0, 1, 2, 3, 4, 5, 6, 7, 8, 18, 19, 11, 12, 13, 14, 15, 16] Red.auto
  ·rintro ⟨t2_0s, t2_1s⟩ rfl
   clear hx
   try dsimp only [Sum.elim_inl, Sum.elim_inr] at h
   try simp only [Thn, InBlk, exitOf, ↓reduceIte, Nat.reduceEqDiff, Sum.elim_inl, Sum.elim_inr, List.cons_append, List.nil_append]
   refine hK14 _ _ ?_
   clear hK14
   refine awp_reg ftCOk [(4, .pp 11 0), (5, .pp 14 0)] [.row false (.ints .i64 a0_0), .row false (.ints .i64 a0_1), .row false (.ints .i64 a1_1), .row false (.bools a1_2), .row false (.trips a1_3), .rbox [.sl 0, .sl 1], .rbox [.v (.int .i64 a1_0), .sl 2, .sl 3, .sl 4], .box [.v (.slice none 0 0), .v (.slice none 0 0)], .box [.sl 9, .sl 10], .row false (.ints .i64 t2_0s), .row false (.ints .i64 t2_1s), .box [.sl 9, .sl 10], .row false (.ints .i64 []), .row false (.ints .i64 []), .box [.v (.bool true)], .rbox [.v (.int .i64 y), .sl 2, .sl 3, .sl 4], .dead] ?_
   refine awp_ret ?_
   obtain rfl := Option.some.inj h
   exact finQ [0, 1, 2, 3, 4, 5, 6, 7, 9, 10]
  ·rintro ⟨t2_0s_1, t2_1s_1, t4_0s, t4_1s⟩ rfl
   ·clear hx
    try dsimp only [Sum.elim_inl, Sum.elim_inr] at h
    try simp only [Thn, InBlk, exitOf, ↓reduceIte, Nat.reduceEqDiff, Sum.elim_inl, Sum.elim_inr, List.cons_append, List.nil_append]
    obtain rfl := Option.some.inj h
    exact finQ [0, 1, 2, 3, 4, 5, 6, 7, 12, 13]
theorem k_impl_SaveState (a0_0 : List Int) (a0_1 : List Int) (a1_0 : Int) (a1_1 : List Int) (a1_2 : List Bool) (a1_3 : List (Int × Int × Int)) {r : List Int × List Int × Bool} (h : impl_SaveState a0_0 a0_1 a1_0 a1_1 a1_2 a1_3 = some r) :
 FnA Try.prog 17 [.agg [.sl 0, .sl 1], .agg [.v (.int .i64 a1_0), .sl 2, .sl 3, .sl 4]] [.row false (.ints .i64 a0_0), .row false (.ints .i64 a0_1), .row false (.ints .i64 a1_1), .row false (.bools a1_2), .row false (.trips a1_3)] [] (fun x H => x = .tup [.agg [.sl 5, .sl 6], .v (.bool r.2.2)] ∧ H = [.row false (.ints .i64 a0_0), .row false (.ints .i64 a0_1), .row false (.ints .i64 a1_1), .row false (.bools a1_2), .row false (.trips a1_3), .row true (.ints .i64 r.1), .row true (.ints .i64 r.2.1)]) := by
 unfold impl_SaveState at h
 refine FnA.ofA 29 [0, 1, 2, 3, 4] [.cell 4 29, .tmp 5] Try.func17 en17 ?_
 refine awp_reg ftCOk [(2, .pp 5 0), (3, .pp 6 0), (4, .pp 7 0)] [.row false (.ints .i64 a0_0), .row false (.ints .i64 a0_1), .row false (.ints .i64 a1_1), .row false (.bools a1_2), .row false (.trips a1_3), .box [.sl 0, .sl 1], .box [.v (.int .i64 a1_0), .sl 2, .sl 3, .sl 4], .box [.v (.slice none 0 0), .v (.slice none 0 0)]] ?_
 refine awp_freeze 2 (by rfl) (by rfl) (by exact rfl) ?_
 refine awp_freeze 3 (by rfl) (by rfl) (by exact rfl) ?_
 refine awp_seq fun K2 hK2 => ?_
 replace ⟨y, hr0, h⟩ := bind_some h
 refine awp_regC ftCOk [(2, .pp 5 0), (3, .pp 6 0), (4, .pp 7 0), (10, .v (.bool (!y)))] [.row false (.ints .i64 a0_0), .row false (.ints .i64 a0_1), .row false (.ints .i64 a1_1), .row false (.bools a1_2), .row false (.trips a1_3), .rbox [.sl 0, .sl 1], .rbox [.v (.int .i64 a1_0), .sl 2, .sl 3, .sl 4], .box [.v (.slice none 0 0), .v (.slice none 0 0)]] 1 [0, 1] (k_impl_DiskValid a0_0 a0_1 (h := hr0)) ?_
 clear hr0
 refine awp_cond (t := 10) rfl (fun hc3 => ?_) (fun hc3 => ?_)
 ·replace h := bite_t h hc3
  refine awp_regS ftCOk [(4, .pp 7 0), (5, .v (.bool false))] ?_
  refine awp_red (Red.nilCell (o := 7) (i := 0) (.ints .i64 []) rfl rfl rfl) ?_
  refine awp_red (Red.nilCell (o := 7) (i := 1) (.ints .i64 []) rfl rfl rfl) ?_
  refine awp_ret ?_
  obtain rfl := Option.some.inj h
  exact finQ [0, 1, 2, 3, 4, 8, 9]
 ·replace h := bite_f h hc3
  refine awp_skip ?_
  refine hK2 _ _ ?_
  clear hK2
  refine awp_seq fun K5 hK5 => ?_
  replace ⟨y_1, hr0, h⟩ := bind_some h
  refine awp_regC ftCOk [(2, .pp 5 0), (3, .pp 6 0), (4, .pp 7 0), (14, .v (.bool (!y_1)))] [.row false (.ints .i64 a0_0), .row false (.ints .i64 a0_1), .row false (.ints .i64 a1_1), .row false (.bools a1_2), .row false (.trips a1_3), .rbox [.sl 0, .sl 1], .rbox [.v (.int .i64 a1_0), .sl 2, .sl 3, .sl 4], .box [.v (.slice none 0 0), .v (.slice none 0 0)]] 1 [2, 3, 4] (k_impl_State_ownValid a1_0 a1_1 a1_2 a1_3 (h := hr0)) ?_
  clear hr0
  refine awp_cond (t := 14) rfl (fun hc6 => ?_) (fun hc6 => ?_)
  ·replace h := bite_t h hc6
   replace ⟨⟨y_2, y_3⟩, hr0, h⟩ := bind_some h
   try dsimp only at h
   refine awp_regC ftCOk [(4, .pp 7 0), (5, .v (.bool false))] [.row false (.ints .i64 a0_0), .row false (.ints .i64 a0_1), .row false (.ints .i64 a1_1), .row false (.bools a1_2), .row false (.trips a1_3), .rbox [.sl 0, .sl 1], .rbox [.v (.int .i64 a1_0), .sl 2, .sl 3, .sl 4], .box [.sl 8, .sl 9], .row true (.ints .i64 y_2), .row true (.ints .i64 y_3)] 1 [0, 1] (k_impl_Disk_copied a0_0 a0_1 (h := hr0)) ?_
   clear hr0
   refine awp_ret ?_
   obtain rfl := Option.some.inj h
   exact finQ [0, 1, 2, 3, 4, 8, 9]
  ·replace h := bite_f h hc6
   refine awp_skip ?_
   refine hK5 _ _ ?_
   clear hK5
   replace ⟨⟨y_4, y_5, y_6⟩, hr0, h⟩ := bind_some h
   try dsimp only at h
   refine awp_to [(2, .pp 5 0), (4, .pp 7 0), (6, .pp 10 0), (7, .v (.bool y_6))] [.row false (.ints .i64 a0_0), .row false (.ints .i64 a0_1), .row false (.ints .i64 a1_1), .row false (.bools a1_2), .row false (.trips a1_3), .rbox [.sl 0, .sl 1], .rbox [.v (.int .i64 a1_0), .sl 2, .sl 3, .sl 4], .box [.v (.slice none 0 0), .v (.slice none 0 0)], .row false (.ints .i64 y_4), .row false (.ints .i64 y_5), .box [.sl 8, .sl 9]] ?_ ?_
   ·clear h
    intro K hK
    refine awp_region ftCOk ?_
    simp (maxSteps := 4000000) only [go_sem, Nat.reduceBEq, Nat.reduceLT, Nat.reduceAdd, Nat.reduceLeDiff, Nat.reduceSub, Nat.reduceEqDiff, Int.reduceToNat, reduceCtorEq, ↓reduceIte]
    repeat' (first | refine And.intro ?_ ?_ | intro hg)
    all_goals (try simp (disch := omega) only [wrap_fits])
    all_goals first
     | (refine hK _ _ ?_; exact Red.auto)
     | exact trivial
     | assumption
     | omega
     | exact wrap_fits (by omega) (by omega)
     | (refine wpA_here (k_impl_written_v1 a0_0 a0_1 a1_0 a1_1 a1_2 a1_3 (h := hr0)) ?_
        rintro x Hc' ⟨rfl, rfl⟩ hlen
        refine vcOps_sound ftCOk ?_
        simp (maxSteps := 4000000) only [go_sem, Nat.reduceBEq, Nat.reduceLT, Nat.reduceAdd, Nat.reduceLeDiff, Nat.reduceSub, Nat.reduceEqDiff, Int.reduceToNat, reduceCtorEq, ↓reduceIte]
        repeat' (first | refine And.intro ?_ ?_ | intro hg)
        all_goals (try simp (disch := omega) only [wrap_fits])
        all_goals first | (refine hK _ _ ?_; exact Red.auto) | exact trivial | assumption | omega | exact wrap_fits (by omega) (by omega) | (simp_all; done) | (simp_all; omega))
     | (simp_all; done)
     | (simp_all; omega)
   ·clear hr0
    refine awp_seq fun K8 hK8 => ?_
    refine awp_regS ftCOk [(2, .pp 5 0), (4, .pp 7 0), (6, .pp 10 0), (24, .v (.bool (!y_6)))] ?_
    refine awp_cond (t := 24) rfl (fun hc9 => ?_) (fun hc9 => ?_)
    ·replace h := bite_t h hc9
     replace ⟨⟨y_7, y_8⟩, hr0, h⟩ := bind_some h
     try dsimp only at h
     refine awp_regC ftCOk [(4, .pp 7 0), (5, .v (.bool false))] [.row false (.ints .i64 a0_0), .row false (.ints .i64 a0_1), .row false (.ints .i64 a1_1), .row false (.bools a1_2), .row false (.trips a1_3), .rbox [.sl 0, .sl 1], .rbox [.v (.int .i64 a1_0), .sl 2, .sl 3, .sl 4], .box [.sl 11, .sl 12], .row false (.ints .i64 y_4), .row false (.ints .i64 y_5), .box [.sl 8, .sl 9], .row true (.ints .i64 y_7), .row true (.ints .i64 y_8)] 1 [0, 1] (k_impl_Disk_copied a0_0 a0_1 (h := hr0)) ?_
     clear hr0
     refine awp_ret ?_
     obtain rfl := Option.some.inj h
     exact finQ [0, 1, 2, 3, 4, 11, 12]
    ·replace h := bite_f h hc9
     refine awp_skip ?_
     refine hK8 _ _ ?_
     clear hK8
     replace ⟨⟨y_9, y_10⟩, hr0, h⟩ := bind_some h
     try dsimp only at h
     refine awp_regC ftCOk [(4, .pp 7 0), (5, .v (.bool true))] [.row false (.ints .i64 a0_0), .row false (.ints .i64 a0_1), .row false (.ints .i64 a1_1), .row false (.bools a1_2), .row false (.trips a1_3), .rbox [.sl 0, .sl 1], .rbox [.v (.int .i64 a1_0), .sl 2, .sl 3, .sl 4], .box [.sl 11, .sl 12], .row false (.ints .i64 y_4), .row false (.ints .i64 y_5), .box [.sl 8, .sl 9], .row true (.ints .i64 y_9), .row true (.ints .i64 y_10)] 1 [8, 9] (k_impl_DiskSync y_4 y_5 (h := hr0)) ?_
     clear hr0
     refine awp_ret ?_
     obtain rfl := Option.some.inj h
     exact finQ [0, 1, 2, 3, 4, 11, 12]
theorem k_laws_eqIntS (a0 : List Int) (a1 : List Int) {r : Bool} (h : laws_eqIntS a0 a1 = some r) :
 FnA Try.prog 25 [.sl 0, .sl 1] [.row false (.ints .i64 a0), .row false (.ints .i64 a1)] [] (fun x H => x = .v (.bool r) ∧ H = [.row false (.ints .i64 a0), .row false (.ints .i64 a1)]) := by
 unfold laws_eqIntS at h
 refine FnA.ofA 26 [0, 1] [.tmp 4] Try.func25 en25 ?_
 refine awp_regS ftCOk [(0, .sl 0), (1, .sl 1)] ?_
 refine awp_seq fun K2 hK2 => ?_
 refine awp_regS ftCOk [(0, .sl 0), (1, .sl 1), (10, .v (.bool ((a0.length : Int) != (a1.length : Int))))] ?_
 refine awp_cond (t := 10) rfl (fun hc3 => ?_) (fun hc3 => ?_)
 ·replace h := bite_t h hc3
  refine awp_regS ftCOk [(4, .v (.bool false))] ?_
  refine awp_ret ?_
  obtain rfl := Option.some.inj h
  exact finQ [0, 1]
 ·replace h := bite_f h hc3
  refine awp_skip ?_
  refine hK2 _ _ ?_
  clear hK2
  refine awp_seq fun K23 hK23 => ?_
  refine awp_regS ftCOk [(0, .sl 0), (1, .sl 1), (5, .v (.int .i64 0))] ?_
  refine awp_block ?_
  replace h := bind_some h
  obtain ⟨x42, hx, h⟩ := h
  refine awp_loopL hx (fun (t5 : Int) => [(0, .sl 0), (1, .sl 1), (5, .v (.int .i64 t5))]) (fun (t5 : Int) => [.row false (.ints .i64 a0), .row false (.ints .i64 a1)]) (Sum.elim (fun (_ : Unit) => Exit.exit 0) (fun (_ : Unit) => Exit.ret)) (Sum.elim (fun (_ : Unit) => []) (fun (_ : Unit) => [(4, .v (.bool false))])) (Sum.elim (fun (_ : Unit) => [.row false (.ints .i64 a0), .row false (.ints .i64 a1)]) (fun (_ : Unit) => [.row false (.ints .i64 a0), .row false (.ints .i64 a1)])) ?_ ?_ ?_ ?_
  ·rintro (⟨⟩ | ⟨⟩) hy <;> cases hy
  ·clear h hx
   exact Red.auto
  ·clear h hx
   rintro t5 r h
   unfold laws_eqIntS_b0 at h
   try dsimp only at h
   try dsimp only
   refine awp_seq fun K37 hK37 => ?_
   refine awp_regS ftCOk [(0, .sl 0), (1, .sl 1), (5, .v (.int .i64 t5)), (14, .v (.bool (decide (t5 < (a0.length : Int)))))] ?_
   refine awp_cond (t := 14) rfl (fun hc38 => ?_) (fun hc38 => ?_)
   ·replace h := bite_t h hc38
    refine awp_skip ?_
    refine hK37 _ _ ?_
    clear hK37
    refine awp_seq fun K40 hK40 => ?_
    refine awp_block ?_
    replace ⟨hp0, h⟩ := chk_some h
    replace ⟨hp1, h⟩ := chk_some h
    refine awp_regQS mixed ftCOk [(0, .sl 0), (1, .sl 1), (5, .v (.int .i64 t5)), (25, .v (.bool ((a0.getD t5.toNat 0) != (a1.getD t5.toNat 0))))] ?_
    clear hp0 hp1
    refine awp_cond (t := 25) rfl (fun hc41 => ?_) (fun hc41 => ?_)
    ·replace h := bite_t h hc41
     refine awp_regS ftCOk [(4, .v (.bool false))] ?_
     refine awp_ret ?_
     (try simp only [Thn, InBlk, ↓reduceIte, Nat.reduceEqDiff])
     obtain rfl := Option.some.inj h
     refine LoopQ.out rfl ?_
     exact Red.auto
    ·replace h := bite_f h hc41
     refine awp_skip ?_
     refine hK40 _ _ ?_
     clear hK40
     replace ⟨hp0, h⟩ := chk_some h
     refine awp_regES ftCOk [(0, .sl 0), (1, .sl 1), (5, .v (.int .i64 (t5 + 1)))] ?_
     clear hp0
     obtain rfl := Option.some.inj h
     refine LoopQ.next ?_
     exact Red.auto
   ·replace h := bite_f h hc38
    refine awp_exit ?_
    (try simp only [Thn, InBlk, ↓reduceIte, Nat.reduceEqDiff])
    obtain rfl := Option.some.inj h
    refine LoopQ.out rfl ?_
    exact Red.auto
  ·clear hx
   rcases x42 with (⟨⟩ | ⟨⟩)
   ·try dsimp only [Sum.elim_inl, Sum.elim_inr] at h
    try dsimp only [Sum.elim_inl, Sum.elim_inr]
    refine hK23 _ _ ?_
    clear hK23
    refine awp_regS ftCOk [(4, .v (.bool true))] ?_
    refine awp_ret ?_
    obtain rfl := Option.some.inj h
    exact finQ [0, 1]
   ·try dsimp only [Sum.elim_inl, Sum.elim_inr] at h
    try dsimp only [Sum.elim_inl, Sum.elim_inr]
    obtain rfl := Option.some.inj h
    exact finQ [0, 1]
theorem k_laws_eqDisk (a0_0 : List Int) (a0_1 : List Int) (a1_0 : List Int) (a1_1 : List Int) {r : Bool} (h : laws_eqDisk a0_0 a0_1 a1_0 a1_1 = some r) :
 FnA Try.prog 9 [.agg [.sl 0, .sl 1], .agg [.sl 2, .sl 3]] [.row false (.ints .i64 a0_0), .row false (.ints .i64 a0_1), .row false (.ints .i64 a1_0), .row false (.ints .i64 a1_1)] [] (fun x H => x = .v (.bool r) ∧ H = [.row false (.ints .i64 a0_0), .row false (.ints .i64 a0_1), .row false (.ints .i64 a1_0), .row false (.ints .i64 a1_1)]) := by
 unfold laws_eqDisk at h
 refine FnA.ofA 17 [0, 1, 2, 3] [.tmp 4] Try.func9 en9 ?_
 refine awp_reg ftCOk [(2, .pp 4 0), (3, .pp 5 0)] [.row false (.ints .i64 a0_0), .row false (.ints .i64 a0_1), .row false (.ints .i64 a1_0), .row false (.ints .i64 a1_1), .box [.sl 0, .sl 1], .box [.sl 2, .sl 3]] ?_
 refine awp_freeze 2 (by rfl) (by rfl) (by exact rfl) ?_
 refine awp_freeze 3 (by rfl) (by rfl) (by exact rfl) ?_
 refine awp_seq fun K2 hK2 => ?_
 replace ⟨y, hr0, h⟩ := bind_some h
 refine awp_regC ftCOk [(2, .pp 4 0), (3, .pp 5 0), (10, .v (.bool (!y)))] [.row false (.ints .i64 a0_0), .row false (.ints .i64 a0_1), .row false (.ints .i64 a1_0), .row false (.ints .i64 a1_1), .rbox [.sl 0, .sl 1], .rbox [.sl 2, .sl 3]] 4 [0, 2] (k_laws_eqIntS a0_0 a1_0 (h := hr0)) ?_
 clear hr0
 refine awp_cond (t := 10) rfl (fun hc3 => ?_) (fun hc3 => ?_)
 ·replace h := bite_t h hc3
  refine awp_regS ftCOk [(4, .v (.bool false))] ?_
  refine awp_ret ?_
  obtain rfl := Option.some.inj h
  exact finQ [0, 1, 2, 3]
 ·replace h := bite_f h hc3
  refine awp_skip ?_
  refine hK2 _ _ ?_
  clear hK2
  refine awp_seq fun K5 hK5 => ?_
  replace ⟨y_1, hr0, h⟩ := bind_some h
  refine awp_regC ftCOk [(16, .v (.bool (!y_1)))] [.row false (.ints .i64 a0_0), .row false (.ints .i64 a0_1), .row false (.ints .i64 a1_0), .row false (.ints .i64 a1_1), .rbox [.sl 0, .sl 1], .rbox [.sl 2, .sl 3]] 4 [1, 3] (k_laws_eqIntS a0_1 a1_1 (h := hr0)) ?_
  clear hr0
  refine awp_cond (t := 16) rfl (fun hc6 => ?_) (fun hc6 => ?_)
  ·replace h := bite_t h hc6
   refine awp_regS ftCOk [(4, .v (.bool false))] ?_
   refine awp_ret ?_
   obtain rfl := Option.some.inj h
   exact finQ [0, 1, 2, 3]
  ·replace h := bite_f h hc6
   refine awp_skip ?_
   refine hK5 _ _ ?_
   clear hK5
   refine awp_regS ftCOk [(4, .v (.bool true))] ?_
   refine awp_ret ?_
   obtain rfl := Option.some.inj h
   exact finQ [0, 1, 2, 3]
theorem k_laws_eqBoolS (a0 : List Bool) (a1 : List Bool) {r : Bool} (h : laws_eqBoolS a0 a1 = some r) :
 FnA Try.prog 26 [.sl 0, .sl 1] [.row false (.bools a0), .row false (.bools a1)] [] (fun x H => x = .v (.bool r) ∧ H = [.row false (.bools a0), .row false (.bools a1)]) := by
 unfold laws_eqBoolS at h
 refine FnA.ofA 26 [0, 1] [.tmp 4] Try.func26 en26 ?_
 refine awp_regS ftCOk [(0, .sl 0), (1, .sl 1)] ?_
 refine awp_seq fun K2 hK2 => ?_
 refine awp_regS ftCOk [(0, .sl 0), (1, .sl 1), (10, .v (.bool ((a0.length : Int) != (a1.length : Int))))] ?_
 refine awp_cond (t := 10) rfl (fun hc3 => ?_) (fun hc3 => ?_)
 ·replace h := bite_t h hc3
  refine awp_regS ftCOk [(4, .v (.bool false))] ?_
  refine awp_ret ?_
  obtain rfl := Option.some.inj h
  exact finQ [0, 1]
 ·replace h := bite_f h hc3
  refine awp_skip ?_
  refine hK2 _ _ ?_
  clear hK2
  refine awp_seq fun K23 hK23 => ?_
  refine awp_regS ftCOk [(0, .sl 0), (1, .sl 1), (5, .v (.int .i64 0))] ?_
  refine awp_block ?_
  replace h := bind_some h
  obtain ⟨x42, hx, h⟩ := h
  refine awp_loopL hx (fun (t5 : Int) => [(0, .sl 0), (1, .sl 1), (5, .v (.int .i64 t5))]) (fun (t5 : Int) => [.row false (.bools a0), .row false (.bools a1)]) (Sum.elim (fun (_ : Unit) => Exit.exit 0) (fun (_ : Unit) => Exit.ret)) (Sum.elim (fun (_ : Unit) => []) (fun (_ : Unit) => [(4, .v (.bool false))])) (Sum.elim (fun (_ : Unit) => [.row false (.bools a0), .row false (.bools a1)]) (fun (_ : Unit) => [.row false (.bools a0), .row false (.bools a1)])) ?_ ?_ ?_ ?_
  ·rintro (⟨⟩ | ⟨⟩) hy <;> cases hy
  ·clear h hx
   exact Red.auto
  ·clear h hx
   rintro t5 r h
   unfold laws_eqBoolS_b0 at h
   try dsimp only at h
   try dsimp only
   refine awp_seq fun K37 hK37 => ?_
   refine awp_regS ftCOk [(0, .sl 0), (1, .sl 1), (5, .v (.int .i64 t5)), (14, .v (.bool (decide (t5 < (a0.length : Int)))))] ?_
   refine awp_cond (t := 14) rfl (fun hc38 => ?_) (fun hc38 => ?_)
   ·replace h := bite_t h hc38
    refine awp_skip ?_
    refine hK37 _ _ ?_
    clear hK37
    refine awp_seq fun K40 hK40 => ?_
    refine awp_block ?_
    replace ⟨hp0, h⟩ := chk_some h
    replace ⟨hp1, h⟩ := chk_some h
    refine awp_regQS mixed ftCOk [(0, .sl 0), (1, .sl 1), (5, .v (.int .i64 t5)), (25, .v (.bool (!((a0.getD t5.toNat false) == (a1.getD t5.toNat false)))))] ?_
    clear hp0 hp1
    refine awp_cond (t := 25) rfl (fun hc41 => ?_) (fun hc41 => ?_)
    ·replace h := bite_t h hc41
     refine awp_regS ftCOk [(4, .v (.bool false))] ?_
     refine awp_ret ?_
     (try simp only [Thn, InBlk, ↓reduceIte, Nat.reduceEqDiff])
     obtain rfl := Option.some.inj h
     refine LoopQ.out rfl ?_
     exact Red.auto
    ·replace h := bite_f h hc41
     refine awp_skip ?_
     refine hK40 _ _ ?_
     clear hK40
     replace ⟨hp0, h⟩ := chk_some h
     refine awp_regES ftCOk [(0, .sl 0), (1, .sl 1), (5, .v (.int .i64 (t5 + 1)))] ?_
     clear hp0
     obtain rfl := Option.some.inj h
     refine LoopQ.next ?_
     exact Red.auto
   ·replace h := bite_f h hc38
    refine awp_exit ?_
    (try simp only [Thn, InBlk, ↓reduceIte, Nat.reduceEqDiff])
    obtain rfl := Option.some.inj h
    refine LoopQ.out rfl ?_
    exact Red.auto
  ·clear hx
   rcases x42 with (⟨⟩ | ⟨⟩)
   ·try dsimp only [Sum.elim_inl, Sum.elim_inr] at h
    try dsimp only [Sum.elim_inl, Sum.elim_inr]
    refine hK23 _ _ ?_
    clear hK23
    refine awp_regS ftCOk [(4, .v (.bool true))] ?_
    refine awp_ret ?_
    obtain rfl := Option.some.inj h
    exact finQ [0, 1]
   ·try dsimp only [Sum.elim_inl, Sum.elim_inr] at h
    try dsimp only [Sum.elim_inl, Sum.elim_inr]
    obtain rfl := Option.some.inj h
    exact finQ [0, 1]
theorem k_laws_eqMessage (a0_0 : Int) (a0_1 : Int) (a0_2 : Int) (a1_0 : Int) (a1_1 : Int) (a1_2 : Int) {r : Bool} (h : laws_eqMessage a0_0 a0_1 a0_2 a1_0 a1_1 a1_2 = some r) :
 FnA Try.prog 42 [.agg [.v (.int .i64 a0_0), .v (.int .i64 a0_1), .v (.int .i64 a0_2)], .agg [.v (.int .i64 a1_0), .v (.int .i64 a1_1), .v (.int .i64 a1_2)]] [] [] (fun x H => x = .v (.bool r) ∧ H = []) := by
 unfold laws_eqMessage at h
 refine FnA.ofA 20 [] [.tmp 4] Try.func42 en42 ?_
 refine awp_reg ftCOk [(2, .pp 0 0), (3, .pp 1 0)] [.box [.v (.int .i64 a0_0), .v (.int .i64 a0_1), .v (.int .i64 a0_2)], .box [.v (.int .i64 a1_0), .v (.int .i64 a1_1), .v (.int .i64 a1_2)]] ?_
 refine awp_freeze 2 (by rfl) (by rfl) (by exact rfl) ?_
 refine awp_freeze 3 (by rfl) (by rfl) (by exact rfl) ?_
 refine awp_seq fun K2 hK2 => ?_
 refine awp_regS ftCOk [(2, .pp 0 0), (3, .pp 1 0), (9, .v (.bool (a0_0 != a1_0)))] ?_
 refine awp_cond (t := 9) rfl (fun hc3 => ?_) (fun hc3 => ?_)
 ·replace h := bite_t h hc3
  refine awp_regS ftCOk [(4, .v (.bool false))] ?_
  refine awp_ret ?_
  obtain rfl := Option.some.inj h
  exact finQ []
 ·replace h := bite_f h hc3
  refine awp_skip ?_
  refine hK2 _ _ ?_
  clear hK2
  refine awp_seq fun K5 hK5 => ?_
  refine awp_regS ftCOk [(2, .pp 0 0), (3, .pp 1 0), (14, .v (.bool (a0_1 != a1_1)))] ?_
  refine awp_cond (t := 14) rfl (fun hc6 => ?_) (fun hc6 => ?_)
  ·replace h := bite_t h hc6
   refine awp_regS ftCOk [(4, .v (.bool false))] ?_
   refine awp_ret ?_
   obtain rfl := Option.some.inj h
   exact finQ []
  ·replace h := bite_f h hc6
   refine awp_skip ?_
   refine hK5 _ _ ?_
   clear hK5
   refine awp_seq fun K8 hK8 => ?_
   refine awp_regS ftCOk [(19, .v (.bool (a0_2 != a1_2)))] ?_
   refine awp_cond (t := 19) rfl (fun hc9 => ?_) (fun hc9 => ?_)
   ·replace h := bite_t h hc9
    refine awp_regS ftCOk [(4, .v (.bool false))] ?_
    refine awp_ret ?_
    obtain rfl := Option.some.inj h
    exact finQ []
   ·replace h := bite_f h hc9
    refine awp_skip ?_
    refine hK8 _ _ ?_
    clear hK8
    refine awp_regS ftCOk [(4, .v (.bool true))] ?_
    refine awp_ret ?_
    obtain rfl := Option.some.inj h
    exact finQ []
theorem k_laws_eqMessageS (a0 : List (Int × Int × Int)) (a1 : List (Int × Int × Int)) {r : Bool} (h : laws_eqMessageS a0 a1 = some r) :
 FnA Try.prog 27 [.sl 0, .sl 1] [.row false (.trips a0), .row false (.trips a1)] [] (fun x H => x = .v (.bool r) ∧ H = [.row false (.trips a0), .row false (.trips a1)]) := by
 unfold laws_eqMessageS at h
 refine FnA.ofA 27 [0, 1] [.tmp 4] Try.func27 en27 ?_
 refine awp_regS ftCOk [(0, .sl 0), (1, .sl 1)] ?_
 refine awp_seq fun K2 hK2 => ?_
 refine awp_regS ftCOk [(0, .sl 0), (1, .sl 1), (10, .v (.bool ((a0.length : Int) != (a1.length : Int))))] ?_
 refine awp_cond (t := 10) rfl (fun hc3 => ?_) (fun hc3 => ?_)
 ·replace h := bite_t h hc3
  refine awp_regS ftCOk [(4, .v (.bool false))] ?_
  refine awp_ret ?_
  obtain rfl := Option.some.inj h
  exact finQ [0, 1]
 ·replace h := bite_f h hc3
  refine awp_skip ?_
  refine hK2 _ _ ?_
  clear hK2
  refine awp_seq fun K23 hK23 => ?_
  refine awp_regS ftCOk [(0, .sl 0), (1, .sl 1), (5, .v (.int .i64 0))] ?_
  refine awp_block ?_
  replace h := bind_some h
  obtain ⟨x42, hx, h⟩ := h
  refine awp_loopL hx (fun (t5 : Int) => [(0, .sl 0), (1, .sl 1), (5, .v (.int .i64 t5))]) (fun (t5 : Int) => [.row false (.trips a0), .row false (.trips a1)]) (Sum.elim (fun (_ : Unit) => Exit.exit 0) (fun (_ : Unit) => Exit.ret)) (Sum.elim (fun (_ : Unit) => []) (fun (_ : Unit) => [(4, .v (.bool false))])) (Sum.elim (fun (_ : Unit) => [.row false (.trips a0), .row false (.trips a1)]) (fun (_ : Unit) => [.row false (.trips a0), .row false (.trips a1)])) ?_ ?_ ?_ ?_
  ·rintro (⟨⟩ | ⟨⟩) hy <;> cases hy
  ·clear h hx
   exact Red.auto
  ·clear h hx
   rintro t5 r h
   unfold laws_eqMessageS_b0 at h
   try dsimp only at h
   try dsimp only
   refine awp_seq fun K37 hK37 => ?_
   refine awp_regS ftCOk [(0, .sl 0), (1, .sl 1), (5, .v (.int .i64 t5)), (14, .v (.bool (decide (t5 < (a0.length : Int)))))] ?_
   refine awp_cond (t := 14) rfl (fun hc38 => ?_) (fun hc38 => ?_)
   ·replace h := bite_t h hc38
    refine awp_skip ?_
    refine hK37 _ _ ?_
    clear hK37
    refine awp_seq fun K40 hK40 => ?_
    refine awp_block ?_
    replace ⟨hp0, h⟩ := chk_some h
    replace ⟨hp1, h⟩ := chk_some h
    replace ⟨y, hr2, h⟩ := bind_some h
    refine awp_to [(0, .sl 0), (1, .sl 1), (5, .v (.int .i64 t5)), (26, .v (.bool (!y)))] [.row false (.trips a0), .row false (.trips a1)] ?_ ?_
    ·clear h
     intro K hK
     refine awp_drawT mixed ftCOk (.free 0 (.free 1 (.free 2 (.free 4 (.free 5 (.free 6 (.free 3 (.one 7 (.one 8 (.one 9 .fin)))))))))) (by kernel_rfl) (by simp) ?_
     simp (maxSteps := 4000000) only [go_sem, Nat.reduceBEq, Nat.reduceLT, Nat.reduceAdd, Nat.reduceLeDiff, Nat.reduceSub, Nat.reduceEqDiff, Int.reduceToNat, reduceCtorEq, ↓reduceIte]
     repeat' (first | refine And.intro ?_ ?_ | intro hg)
     all_goals (try simp (disch := omega) only [wrap_fits])
     all_goals first
      | (refine hK _ _ ?_; exact Red.auto)
      | exact trivial
      | assumption
      | omega
      | exact wrap_fits (by omega) (by omega)
      | (refine OpK_callA (k_laws_eqMessage ((a0.getD t5.toNat (0, 0, 0)).1) ((a0.getD t5.toNat (0, 0, 0)).2.1) ((a0.getD t5.toNat (0, 0, 0)).2.2) ((a1.getD t5.toNat (0, 0, 0)).1) ((a1.getD t5.toNat (0, 0, 0)).2.1) ((a1.getD t5.toNat (0, 0, 0)).2.2) (h := hr2)) [] [] ?_
         rintro x Hc' ⟨rfl, rfl⟩ hlen
         simp (maxSteps := 4000000) only [go_sem, Nat.reduceBEq, Nat.reduceLT, Nat.reduceAdd, Nat.reduceLeDiff, Nat.reduceSub, Nat.reduceEqDiff, Int.reduceToNat, reduceCtorEq, ↓reduceIte]
         repeat' (first | refine And.intro ?_ ?_ | intro hg)
         all_goals (try simp (disch := omega) only [wrap_fits])
         all_goals first
          | (refine hK _ _ ?_; exact Red.auto)
          | exact trivial
          | assumption
          | omega
          | exact wrap_fits (by omega) (by omega)
          | (simp (maxSteps := 4000000) only [go_sem, Nat.reduceBEq, Nat.reduceLT, Nat.reduceAdd, Nat.reduceLeDiff, Nat.reduceSub, Nat.reduceEqDiff, Int.reduceToNat, reduceCtorEq, ↓reduceIte]
             repeat' (first | refine And.intro ?_ ?_ | intro hg)
             all_goals (try simp (disch := omega) only [wrap_fits])
             all_goals first | (refine hK _ _ ?_; exact Red.auto) | exact trivial | assumption | omega | exact wrap_fits (by omega) (by omega))
          | (simp_all; done)
          | (simp_all; omega))
      | (simp_all; done)
      | (simp_all; omega)
    ·clear hp0 hp1 hr2
     refine awp_cond (t := 26) rfl (fun hc41 => ?_) (fun hc41 => ?_)
     ·replace h := bite_t h hc41
      refine awp_regS ftCOk [(4, .v (.bool false))] ?_
      refine awp_ret ?_
      (try simp only [Thn, InBlk, ↓reduceIte, Nat.reduceEqDiff])
      obtain rfl := Option.some.inj h
      refine LoopQ.out rfl ?_
      exact Red.auto
     ·replace h := bite_f h hc41
      refine awp_skip ?_
      refine hK40 _ _ ?_
      clear hK40
      replace ⟨hp0, h⟩ := chk_some h
      refine awp_regES ftCOk [(0, .sl 0), (1, .sl 1), (5, .v (.int .i64 (t5 + 1)))] ?_
      clear hp0
      obtain rfl := Option.some.inj h
      refine LoopQ.next ?_
      exact Red.auto
   ·replace h := bite_f h hc38
    refine awp_exit ?_
    (try simp only [Thn, InBlk, ↓reduceIte, Nat.reduceEqDiff])
    obtain rfl := Option.some.inj h
    refine LoopQ.out rfl ?_
    exact Red.auto
  ·clear hx
   rcases x42 with (⟨⟩ | ⟨⟩)
   ·try dsimp only [Sum.elim_inl, Sum.elim_inr] at h
    try dsimp only [Sum.elim_inl, Sum.elim_inr]
    refine hK23 _ _ ?_
    clear hK23
    refine awp_regS ftCOk [(4, .v (.bool true))] ?_
    refine awp_ret ?_
    obtain rfl := Option.some.inj h
    exact finQ [0, 1]
   ·try dsimp only [Sum.elim_inl, Sum.elim_inr] at h
    try dsimp only [Sum.elim_inl, Sum.elim_inr]
    obtain rfl := Option.some.inj h
    exact finQ [0, 1]
theorem k_laws_eqState (a0_0 : Int) (a0_1 : List Int) (a0_2 : List Bool) (a0_3 : List (Int × Int × Int)) (a1_0 : Int) (a1_1 : List Int) (a1_2 : List Bool) (a1_3 : List (Int × Int × Int)) {r : Bool} (h : laws_eqState a0_0 a0_1 a0_2 a0_3 a1_0 a1_1 a1_2 a1_3 = some r) :
 FnA Try.prog 10 [.agg [.v (.int .i64 a0_0), .sl 0, .sl 1, .sl 2], .agg [.v (.int .i64 a1_0), .sl 3, .sl 4, .sl 5]] [.row false (.ints .i64 a0_1), .row false (.bools a0_2), .row false (.trips a0_3), .row false (.ints .i64 a1_1), .row false (.bools a1_2), .row false (.trips a1_3)] [] (fun x H => x = .v (.bool r) ∧ H = [.row false (.ints .i64 a0_1), .row false (.bools a0_2), .row false (.trips a0_3), .row false (.ints .i64 a1_1), .row false (.bools a1_2), .row false (.trips a1_3)]) := by
 unfold laws_eqState at h
 refine FnA.ofA 28 [0, 1, 2, 3, 4, 5] [.tmp 4] Try.func10 en10 ?_
 refine awp_reg ftCOk [(2, .pp 6 0), (3, .pp 7 0)] [.row false (.ints .i64 a0_1), .row false (.bools a0_2), .row false (.trips a0_3), .row false (.ints .i64 a1_1), .row false (.bools a1_2), .row false (.trips a1_3), .box [.v (.int .i64 a0_0), .sl 0, .sl 1, .sl 2], .box [.v (.int .i64 a1_0), .sl 3, .sl 4, .sl 5]] ?_
 refine awp_freeze 2 (by rfl) (by rfl) (by exact rfl) ?_
 refine awp_freeze 3 (by rfl) (by rfl) (by exact rfl) ?_
 refine awp_seq fun K2 hK2 => ?_
 refine awp_regS ftCOk [(2, .pp 6 0), (3, .pp 7 0), (9, .v (.bool (a0_0 != a1_0)))] ?_
 refine awp_cond (t := 9) rfl (fun hc3 => ?_) (fun hc3 => ?_)
 ·replace h := bite_t h hc3
  refine awp_regS ftCOk [(4, .v (.bool false))] ?_
  refine awp_ret ?_
  obtain rfl := Option.some.inj h
  exact finQ [0, 1, 2, 3, 4, 5]
 ·replace h := bite_f h hc3
  refine awp_skip ?_
  refine hK2 _ _ ?_
  clear hK2
  refine awp_seq fun K5 hK5 => ?_
  replace ⟨y, hr0, h⟩ := bind_some h
  refine awp_regC ftCOk [(2, .pp 6 0), (3, .pp 7 0), (15, .v (.bool (!y)))] [.row false (.ints .i64 a0_1), .row false (.bools a0_2), .row false (.trips a0_3), .row false (.ints .i64 a1_1), .row false (.bools a1_2), .row false (.trips a1_3), .rbox [.v (.int .i64 a0_0), .sl 0, .sl 1, .sl 2], .rbox [.v (.int .i64 a1_0), .sl 3, .sl 4, .sl 5]] 4 [0, 3] (k_laws_eqIntS a0_1 a1_1 (h := hr0)) ?_
  clear hr0
  refine awp_cond (t := 15) rfl (fun hc6 => ?_) (fun hc6 => ?_)
  ·replace h := bite_t h hc6
   refine awp_regS ftCOk [(4, .v (.bool false))] ?_
   refine awp_ret ?_
   obtain rfl := Option.some.inj h
   exact finQ [0, 1, 2, 3, 4, 5]
  ·replace h := bite_f h hc6
   refine awp_skip ?_
   refine hK5 _ _ ?_
   clear hK5
   refine awp_seq fun K8 hK8 => ?_
   replace ⟨y_1, hr0, h⟩ := bind_some h
   refine awp_regC ftCOk [(2, .pp 6 0), (3, .pp 7 0), (21, .v (.bool (!y_1)))] [.row false (.ints .i64 a0_1), .row false (.bools a0_2), .row false (.trips a0_3), .row false (.ints .i64 a1_1), .row false (.bools a1_2), .row false (.trips a1_3), .rbox [.v (.int .i64 a0_0), .sl 0, .sl 1, .sl 2], .rbox [.v (.int .i64 a1_0), .sl 3, .sl 4, .sl 5]] 4 [1, 4] (k_laws_eqBoolS a0_2 a1_2 (h := hr0)) ?_
   clear hr0
   refine awp_cond (t := 21) rfl (fun hc9 => ?_) (fun hc9 => ?_)
   ·replace h := bite_t h hc9
    refine awp_regS ftCOk [(4, .v (.bool false))] ?_
    refine awp_ret ?_
    obtain rfl := Option.some.inj h
    exact finQ [0, 1, 2, 3, 4, 5]
   ·replace h := bite_f h hc9
    refine awp_skip ?_
    refine hK8 _ _ ?_
    clear hK8
    refine awp_seq fun K11 hK11 => ?_
    replace ⟨y_2, hr0, h⟩ := bind_some h
    refine awp_regC ftCOk [(27, .v (.bool (!y_2)))] [.row false (.ints .i64 a0_1), .row false (.bools a0_2), .row false (.trips a0_3), .row false (.ints .i64 a1_1), .row false (.bools a1_2), .row false (.trips a1_3), .rbox [.v (.int .i64 a0_0), .sl 0, .sl 1, .sl 2], .rbox [.v (.int .i64 a1_0), .sl 3, .sl 4, .sl 5]] 4 [2, 5] (k_laws_eqMessageS a0_3 a1_3 (h := hr0)) ?_
    clear hr0
    refine awp_cond (t := 27) rfl (fun hc12 => ?_) (fun hc12 => ?_)
    ·replace h := bite_t h hc12
     refine awp_regS ftCOk [(4, .v (.bool false))] ?_
     refine awp_ret ?_
     obtain rfl := Option.some.inj h
     exact finQ [0, 1, 2, 3, 4, 5]
    ·replace h := bite_f h hc12
     refine awp_skip ?_
     refine hK11 _ _ ?_
     clear hK11
     refine awp_regS ftCOk [(4, .v (.bool true))] ?_
     refine awp_ret ?_
     obtain rfl := Option.some.inj h
     exact finQ [0, 1, 2, 3, 4, 5]
theorem k_laws_markIntS (a0 : List Int) (a1 : Int) {r : Int × List Int} (h : laws_markIntS a0 a1 = some r) :
 FnA Try.prog 28 [.sl 0, .v (.int .i64 a1)] [.row true (.ints .i64 a0)] [] (fun x H => x = .v (.int .i64 r.1) ∧ H = [.row true (.ints .i64 r.2)]) := by
 unfold laws_markIntS at h
 refine FnA.ofA 19 [0] [.tmp 4] Try.func28 en28 ?_
 refine awp_regS ftCOk [(0, .sl 0), (1, .v (.int .i64 a1))] ?_
 refine awp_seq fun K14 hK14 => ?_
 refine awp_regS ftCOk [(0, .sl 0), (1, .v (.int .i64 a1)), (5, .v (.int .i64 0))] ?_
 refine awp_block ?_
 replace h := bind_some h
 obtain ⟨x27, hx, h⟩ := h
 refine awp_loopL hx (fun ((t1, t5, p0s) : Int × Int × List Int) => [(0, .sl 0), (1, .v (.int .i64 t1)), (5, .v (.int .i64 t5))]) (fun ((t1, t5, p0s) : Int × Int × List Int) => [.row true (.ints .i64 p0s)]) (fun ((t1_1, p0s_1) : Int × List Int) => Exit.exit 0) (fun ((t1_1, p0s_1) : Int × List Int) => [(1, .v (.int .i64 t1_1))]) (fun ((t1_1, p0s_1) : Int × List Int) => [.row true (.ints .i64 p0s_1)]) ?_ ?_ ?_ ?_
 ·rintro ⟨t1_1, p0s_1⟩ hy <;> cases hy
 ·clear h hx
  exact Red.auto
 ·clear h hx
  rintro ⟨t1, t5, p0s⟩ r h
  unfold laws_markIntS_b0 at h
  try dsimp only at h
  try dsimp only
  refine awp_seq fun K24 hK24 => ?_
  refine awp_regS ftCOk [(0, .sl 0), (1, .v (.int .i64 t1)), (5, .v (.int .i64 t5)), (9, .v (.bool (decide (t5 < (p0s.length : Int)))))] ?_
  refine awp_cond (t := 9) rfl (fun hc25 => ?_) (fun hc25 => ?_)
  ·replace h := bite_t h hc25
   refine awp_skip ?_
   refine hK24 _ _ ?_
   clear hK24
   refine awp_seq fun K26 hK26 => ?_
   refine awp_block ?_
   replace ⟨hp0, h⟩ := chk_some h
   refine awp_reg ftCOk [(0, .sl 0), (1, .v (.int .i64 t1)), (5, .v (.int .i64 t5))] [.row true (.ints .i64 (p0s.set t5.toNat t1))] ?_
   clear hp0
   replace ⟨hp0, h⟩ := chk_some h
   refine awp_regES ftCOk [(0, .sl 0), (1, .v (.int .i64 (t1 + 1))), (5, .v (.int .i64 t5))] ?_
   clear hp0
   refine hK26 _ _ ?_
   clear hK26
   replace ⟨hp0, h⟩ := chk_some h
   refine awp_regES ftCOk [(0, .sl 0), (1, .v (.int .i64 (t1 + 1))), (5, .v (.int .i64 (t5 + 1)))] ?_
   clear hp0
   obtain rfl := Option.some.inj h
   refine LoopQ.next ?_
   exact Red.auto
  ·replace h := bite_f h hc25
   refine awp_exit ?_
   (try simp only [Thn, InBlk, ↓reduceIte, Nat.reduceEqDiff])
   obtain rfl := Option.some.inj h
   refine LoopQ.out rfl ?_
   exact Red.auto
 ·clear hx
  rcases x27 with ⟨t1_1, p0s_1⟩
  ·try dsimp only [Sum.elim_inl, Sum.elim_inr] at h
   try dsimp only [Sum.elim_inl, Sum.elim_inr]
   refine hK14 _ _ ?_
   clear hK14
   refine awp_regS ftCOk [(4, .v (.int .i64 t1_1))] ?_
   refine awp_ret ?_
   obtain rfl := Option.some.inj h
   exact finQ [0]
theorem k_laws_markDisk (a0_0 : List Int) (a0_1 : List Int) (a1 : Int) {r : Int × List Int × List Int} (h : laws_markDisk a0_0 a0_1 a1 = some r) :
 FnA Try.prog 12 [.agg [.sl 0, .sl 1], .v (.int .i64 a1)] [.row true (.ints .i64 a0_0), .row true (.ints .i64 a0_1)] [] (fun x H => x = .v (.int .i64 r.1) ∧ H = [.row true (.ints .i64 r.2.1), .row true (.ints .i64 r.2.2)]) := by
 unfold laws_markDisk at h
 refine FnA.ofA 14 [0, 1] [.tmp 4] Try.func12 en12 ?_
 refine awp_reg ftCOk [(1, .v (.int .i64 a1)), (2, .pp 2 0)] [.row true (.ints .i64 a0_0), .row true (.ints .i64 a0_1), .box [.sl 0, .sl 1]] ?_
 refine awp_freeze 2 (by rfl) (by rfl) (by exact rfl) ?_
 replace ⟨⟨y, y_1⟩, hr0, h⟩ := bind_some h
 try dsimp only at h
 refine awp_regC ftCOk [(1, .v (.int .i64 y)), (2, .pp 2 0)] [.row true (.ints .i64 y_1), .row true (.ints .i64 a0_1), .rbox [.sl 0, .sl 1]] 3 [0] (k_laws_markIntS a0_0 a1 (h := hr0)) ?_
 clear hr0
 replace ⟨⟨y_2, y_3⟩, hr0, h⟩ := bind_some h
 try dsimp only at h
 refine awp_regC ftCOk [(1, .v (.int .i64 y_2))] [.row true (.ints .i64 y_1), .row true (.ints .i64 y_3), .rbox [.sl 0, .sl 1]] 3 [1] (k_laws_markIntS a0_1 y (h := hr0)) ?_
 clear hr0
 refine awp_regS ftCOk [(4, .v (.int .i64 y_2))] ?_
 refine awp_ret ?_
 obtain rfl := Option.some.inj h
 exact finQ [0, 1]
theorem k_laws_markBoolS (a0 : List Bool) (a1 : Int) {r : Int × List Bool} (h : laws_markBoolS a0 a1 = some r) :
 FnA Try.prog 29 [.sl 0, .v (.int .i64 a1)] [.row true (.bools a0)] [] (fun x H => x = .v (.int .i64 r.1) ∧ H = [.row true (.bools r.2)]) := by
 unfold laws_markBoolS at h
 refine FnA.ofA 21 [0] [.tmp 4] Try.func29 en29 ?_
 refine awp_regS ftCOk [(0, .sl 0), (1, .v (.int .i64 a1))] ?_
 refine awp_seq fun K14 hK14 => ?_
 refine awp_regS ftCOk [(0, .sl 0), (1, .v (.int .i64 a1)), (5, .v (.int .i64 0))] ?_
 refine awp_block ?_
 replace h := bind_some h
 obtain ⟨x27, hx, h⟩ := h
 refine awp_loopL hx (fun ((t1, t5, p0s) : Int × Int × List Bool) => [(0, .sl 0), (1, .v (.int .i64 t1)), (5, .v (.int .i64 t5))]) (fun ((t1, t5, p0s) : Int × Int × List Bool) => [.row true (.bools p0s)]) (fun ((t1_1, p0s_1) : Int × List Bool) => Exit.exit 0) (fun ((t1_1, p0s_1) : Int × List Bool) => [(1, .v (.int .i64 t1_1))]) (fun ((t1_1, p0s_1) : Int × List Bool) => [.row true (.bools p0s_1)]) ?_ ?_ ?_ ?_
 ·rintro ⟨t1_1, p0s_1⟩ hy <;> cases hy
 ·clear h hx
  exact Red.auto
 ·clear h hx
  rintro ⟨t1, t5, p0s⟩ r h
  unfold laws_markBoolS_b0 at h
  try dsimp only at h
  try dsimp only
  refine awp_seq fun K24 hK24 => ?_
  refine awp_regS ftCOk [(0, .sl 0), (1, .v (.int .i64 t1)), (5, .v (.int .i64 t5)), (9, .v (.bool (decide (t5 < (p0s.length : Int)))))] ?_
  refine awp_cond (t := 9) rfl (fun hc25 => ?_) (fun hc25 => ?_)
  ·replace h := bite_t h hc25
   refine awp_skip ?_
   refine hK24 _ _ ?_
   clear hK24
   refine awp_seq fun K26 hK26 => ?_
   refine awp_block ?_
   replace ⟨hp0, h⟩ := chk_some h
   replace ⟨hp1, h⟩ := chk_some h
   refine awp_reg ftCOk [(0, .sl 0), (1, .v (.int .i64 t1)), (5, .v (.int .i64 t5))] [.row true (.bools (p0s.set t5.toNat ((t1 % 3) == 0)))] ?_
   clear hp0 hp1
   replace ⟨hp0, h⟩ := chk_some h
   refine awp_regES ftCOk [(0, .sl 0), (1, .v (.int .i64 (t1 + 1))), (5, .v (.int .i64 t5))] ?_
   clear hp0
   refine hK26 _ _ ?_
   clear hK26
   replace ⟨hp0, h⟩ := chk_some h
   refine awp_regES ftCOk [(0, .sl 0), (1, .v (.int .i64 (t1 + 1))), (5, .v (.int .i64 (t5 + 1)))] ?_
   clear hp0
   obtain rfl := Option.some.inj h
   refine LoopQ.next ?_
   exact Red.auto
  ·replace h := bite_f h hc25
   refine awp_exit ?_
   (try simp only [Thn, InBlk, ↓reduceIte, Nat.reduceEqDiff])
   obtain rfl := Option.some.inj h
   refine LoopQ.out rfl ?_
   exact Red.auto
 ·clear hx
  rcases x27 with ⟨t1_1, p0s_1⟩
  ·try dsimp only [Sum.elim_inl, Sum.elim_inr] at h
   try dsimp only [Sum.elim_inl, Sum.elim_inr]
   refine hK14 _ _ ?_
   clear hK14
   refine awp_regS ftCOk [(4, .v (.int .i64 t1_1))] ?_
   refine awp_ret ?_
   obtain rfl := Option.some.inj h
   exact finQ [0]
theorem k_laws_markMessageS (a0 : List (Int × Int × Int)) (a1 : Int) {r : Int × (List (Int × Int × Int))} (h : laws_markMessageS a0 a1 = some r) :
 FnA Try.prog 30 [.sl 0, .v (.int .i64 a1)] [.row true (.trips a0)] [] (fun x H => x = .v (.int .i64 r.1) ∧ H = [.row true (.trips r.2)]) := by
 unfold laws_markMessageS at h
 refine FnA.ofA 34 [0] [.tmp 4] Try.func30 en30 ?_
 refine awp_regS ftCOk [(0, .sl 0), (1, .v (.int .i64 a1))] ?_
 refine awp_seq fun K14 hK14 => ?_
 refine awp_regS ftCOk [(0, .sl 0), (1, .v (.int .i64 a1)), (5, .v (.int .i64 0))] ?_
 refine awp_block ?_
 replace h := bind_some h
 obtain ⟨x27, hx, h⟩ := h
 refine awp_loopL hx (fun ((t1, t5, p0s) : Int × Int × (List (Int × Int × Int))) => [(0, .sl 0), (1, .v (.int .i64 t1)), (5, .v (.int .i64 t5))]) (fun ((t1, t5, p0s) : Int × Int × (List (Int × Int × Int))) => [.row true (.trips p0s)]) (fun ((t1_1, p0s_1) : Int × (List (Int × Int × Int))) => Exit.exit 0) (fun ((t1_1, p0s_1) : Int × (List (Int × Int × Int))) => [(1, .v (.int .i64 t1_1))]) (fun ((t1_1, p0s_1) : Int × (List (Int × Int × Int))) => [.row true (.trips p0s_1)]) ?_ ?_ ?_ ?_
 ·rintro ⟨t1_1, p0s_1⟩ hy <;> cases hy
 ·clear h hx
  exact Red.auto
 ·clear h hx
  rintro ⟨t1, t5, p0s⟩ r h
  unfold laws_markMessageS_b0 at h
  try dsimp only at h
  try dsimp only
  refine awp_seq fun K24 hK24 => ?_
  refine awp_regS ftCOk [(0, .sl 0), (1, .v (.int .i64 t1)), (5, .v (.int .i64 t5)), (9, .v (.bool (decide (t5 < (p0s.length : Int)))))] ?_
  refine awp_cond (t := 9) rfl (fun hc25 => ?_) (fun hc25 => ?_)
  ·replace h := bite_t h hc25
   refine awp_skip ?_
   refine hK24 _ _ ?_
   clear hK24
   refine awp_seq fun K26 hK26 => ?_
   refine awp_block ?_
   replace ⟨hp0, h⟩ := chk_some h
   refine awp_reg ftCOk [(0, .sl 0), (1, .v (.int .i64 t1)), (5, .v (.int .i64 t5))] [.row true (.trips (p0s.set t5.toNat (t1, (p0s.getD t5.toNat (0, 0, 0)).2.1, (p0s.getD t5.toNat (0, 0, 0)).2.2)))] ?_
   clear hp0
   replace ⟨hp0, h⟩ := chk_some h
   refine awp_regS ftCOk [(0, .sl 0), (1, .v (.int .i64 (t1 + 1))), (5, .v (.int .i64 t5))] ?_
   clear hp0
   replace ⟨hp0, h⟩ := chk_some h
   refine awp_reg ftCOk [(0, .sl 0), (1, .v (.int .i64 (t1 + 1))), (5, .v (.int .i64 t5))] [.row true (.trips ((p0s.set t5.toNat (t1, (p0s.getD t5.toNat (0, 0, 0)).2.1, (p0s.getD t5.toNat (0, 0, 0)).2.2)).set t5.toNat (((p0s.set t5.toNat (t1, (p0s.getD t5.toNat (0, 0, 0)).2.1, (p0s.getD t5.toNat (0, 0, 0)).2.2)).getD t5.toNat (0, 0, 0)).1, (t1 + 1), ((p0s.set t5.toNat (t1, (p0s.getD t5.toNat (0, 0, 0)).2.1, (p0s.getD t5.toNat (0, 0, 0)).2.2)).getD t5.toNat (0, 0, 0)).2.2)))] ?_
   clear hp0
   replace ⟨hp0, h⟩ := chk_some h
   refine awp_regS ftCOk [(0, .sl 0), (1, .v (.int .i64 ((t1 + 1) + 1))), (5, .v (.int .i64 t5))] ?_
   clear hp0
   replace ⟨hp0, h⟩ := chk_some h
   refine awp_reg ftCOk [(0, .sl 0), (1, .v (.int .i64 ((t1 + 1) + 1))), (5, .v (.int .i64 t5))] [.row true (.trips (((p0s.set t5.toNat (t1, (p0s.getD t5.toNat (0, 0, 0)).2.1, (p0s.getD t5.toNat (0, 0, 0)).2.2)).set t5.toNat (((p0s.set t5.toNat (t1, (p0s.getD t5.toNat (0, 0, 0)).2.1, (p0s.getD t5.toNat (0, 0, 0)).2.2)).getD t5.toNat (0, 0, 0)).1, (t1 + 1), ((p0s.set t5.toNat (t1, (p0s.getD t5.toNat (0, 0, 0)).2.1, (p0s.getD t5.toNat (0, 0, 0)).2.2)).getD t5.toNat (0, 0, 0)).2.2)).set t5.toNat ((((p0s.set t5.toNat (t1, (p0s.getD t5.toNat (0, 0, 0)).2.1, (p0s.getD t5.toNat (0, 0, 0)).2.2)).set t5.toNat (((p0s.set t5.toNat (t1, (p0s.getD t5.toNat (0, 0, 0)).2.1, (p0s.getD t5.toNat (0, 0, 0)).2.2)).getD t5.toNat (0, 0, 0)).1, (t1 + 1), ((p0s.set t5.toNat (t1, (p0s.getD t5.toNat (0, 0, 0)).2.1, (p0s.getD t5.toNat (0, 0, 0)).2.2)).getD t5.toNat (0, 0, 0)).2.2)).getD t5.toNat (0, 0, 0)).1, (((p0s.set t5.toNat (t1, (p0s.getD t5.toNat (0, 0, 0)).2.1, (p0s.getD t5.toNat (0, 0, 0)).2.2)).set t5.toNat (((p0s.set t5.toNat (t1, (p0s.getD t5.toNat (0, 0, 0)).2.1, (p0s.getD t5.toNat (0, 0, 0)).2.2)).getD t5.toNat (0, 0, 0)).1, (t1 + 1), ((p0s.set t5.toNat (t1, (p0s.getD t5.toNat (0, 0, 0)).2.1, (p0s.getD t5.toNat (0, 0, 0)).2.2)).getD t5.toNat (0, 0, 0)).2.2)).getD t5.toNat (0, 0, 0)).2.1, ((t1 + 1) + 1))))] ?_
   clear hp0
   replace ⟨hp0, h⟩ := chk_some h
   refine awp_regES ftCOk [(0, .sl 0), (1, .v (.int .i64 (((t1 + 1) + 1) + 1))), (5, .v (.int .i64 t5))] ?_
   clear hp0
   refine hK26 _ _ ?_
   clear hK26
   replace ⟨hp0, h⟩ := chk_some h
   refine awp_regES ftCOk [(0, .sl 0), (1, .v (.int .i64 (((t1 + 1) + 1) + 1))), (5, .v (.int .i64 (t5 + 1)))] ?_
   clear hp0
   obtain rfl := Option.some.inj h
   refine LoopQ.next ?_
   exact Red.auto
  ·replace h := bite_f h hc25
   refine awp_exit ?_
   (try simp only [Thn, InBlk, ↓reduceIte, Nat.reduceEqDiff])
   obtain rfl := Option.some.inj h
   refine LoopQ.out rfl ?_
   exact Red.auto
 ·clear hx
  rcases x27 with ⟨t1_1, p0s_1⟩
  ·try dsimp only [Sum.elim_inl, Sum.elim_inr] at h
   try dsimp only [Sum.elim_inl, Sum.elim_inr]
   refine hK14 _ _ ?_
   clear hK14
   refine awp_regS ftCOk [(4, .v (.int .i64 t1_1))] ?_
   refine awp_ret ?_
   obtain rfl := Option.some.inj h
   exact finQ [0]
theorem k_laws_markState (a0_0 : Int) (a0_1 : List Int) (a0_2 : List Bool) (a0_3 : List (Int × Int × Int)) (a1 : Int) {r : Int × List Int × List Bool × (List (Int × Int × Int))} (h : laws_markState a0_0 a0_1 a0_2 a0_3 a1 = some r) :
 FnA Try.prog 11 [.agg [.v (.int .i64 a0_0), .sl 0, .sl 1, .sl 2], .v (.int .i64 a1)] [.row true (.ints .i64 a0_1), .row true (.bools a0_2), .row true (.trips a0_3)] [] (fun x H => x = .v (.int .i64 r.1) ∧ H = [.row true (.ints .i64 r.2.1), .row true (.bools r.2.2.1), .row true (.trips r.2.2.2)]) := by
 unfold laws_markState at h
 refine FnA.ofA 18 [0, 1, 2] [.tmp 4] Try.func11 en11 ?_
 refine awp_reg ftCOk [(1, .v (.int .i64 a1)), (2, .pp 3 0)] [.row true (.ints .i64 a0_1), .row true (.bools a0_2), .row true (.trips a0_3), .box [.v (.int .i64 a0_0), .sl 0, .sl 1, .sl 2]] ?_
 refine awp_freeze 2 (by rfl) (by rfl) (by exact rfl) ?_
 replace ⟨⟨y, y_1⟩, hr0, h⟩ := bind_some h
 try dsimp only at h
 refine awp_regC ftCOk [(1, .v (.int .i64 y)), (2, .pp 3 0)] [.row true (.ints .i64 y_1), .row true (.bools a0_2), .row true (.trips a0_3), .rbox [.v (.int .i64 a0_0), .sl 0, .sl 1, .sl 2]] 3 [0] (k_laws_markIntS a0_1 a1 (h := hr0)) ?_
 clear hr0
 replace ⟨⟨y_2, y_3⟩, hr0, h⟩ := bind_some h
 try dsimp only at h
 refine awp_regC ftCOk [(1, .v (.int .i64 y_2)), (2, .pp 3 0)] [.row true (.ints .i64 y_1), .row true (.bools y_3), .row true (.trips a0_3), .rbox [.v (.int .i64 a0_0), .sl 0, .sl 1, .sl 2]] 3 [1] (k_laws_markBoolS a0_2 y (h := hr0)) ?_
 clear hr0
 replace ⟨⟨y_4, y_5⟩, hr0, h⟩ := bind_some h
 try dsimp only at h
 refine awp_regC ftCOk [(1, .v (.int .i64 y_4))] [.row true (.ints .i64 y_1), .row true (.bools y_3), .row true (.trips y_5), .rbox [.v (.int .i64 a0_0), .sl 0, .sl 1, .sl 2]] 3 [2] (k_laws_markMessageS a0_3 y_2 (h := hr0)) ?_
 clear hr0
 refine awp_regS ftCOk [(4, .v (.int .i64 y_4))] ?_
 refine awp_ret ?_
 obtain rfl := Option.some.inj h
 exact finQ [0, 1, 2]
theorem k_laws_heldIntS (a0 : List Int) (a1 : Int) {r : Int} (h : laws_heldIntS a0 a1 = some r) :
 FnA Try.prog 31 [.sl 0, .v (.int .i64 a1)] [.row false (.ints .i64 a0)] [] (fun x H => x = .v (.int .i64 r) ∧ H = [.row false (.ints .i64 a0)]) := by
 unfold laws_heldIntS at h
 refine FnA.ofA 21 [0] [.tmp 4] Try.func31 en31 ?_
 refine awp_regS ftCOk [(0, .sl 0), (1, .v (.int .i64 a1))] ?_
 refine awp_seq fun K32 hK32 => ?_
 refine awp_regS ftCOk [(0, .sl 0), (1, .v (.int .i64 a1)), (5, .v (.int .i64 0))] ?_
 refine awp_block ?_
 replace h := bind_some h
 obtain ⟨x63, hx, h⟩ := h
 refine awp_loopL hx (fun ((t1, t5) : Int × Int) => [(0, .sl 0), (1, .v (.int .i64 t1)), (5, .v (.int .i64 t5))]) (fun ((t1, t5) : Int × Int) => [.row false (.ints .i64 a0)]) (Sum.elim (fun (t1_1 : Int) => Exit.exit 0) (fun (_ : Unit) => Exit.ret)) (Sum.elim (fun (t1_1 : Int) => [(1, .v (.int .i64 t1_1))]) (fun (_ : Unit) => [(4, .v (.int .i64 (-1)))])) (Sum.elim (fun (t1_1 : Int) => [.row false (.ints .i64 a0)]) (fun (_ : Unit) => [.row false (.ints .i64 a0)])) ?_ ?_ ?_ ?_
 ·rintro (t1_1 | ⟨⟩) hy <;> cases hy
 ·clear h hx
  exact Red.auto
 ·clear h hx
  rintro ⟨t1, t5⟩ r h
  unfold laws_heldIntS_b0 at h
  try dsimp only at h
  try dsimp only
  refine awp_seq fun K54 hK54 => ?_
  refine awp_regS ftCOk [(0, .sl 0), (1, .v (.int .i64 t1)), (5, .v (.int .i64 t5)), (9, .v (.bool (decide (t5 < (a0.length : Int)))))] ?_
  refine awp_cond (t := 9) rfl (fun hc55 => ?_) (fun hc55 => ?_)
  ·replace h := bite_t h hc55
   refine awp_skip ?_
   refine hK54 _ _ ?_
   clear hK54
   refine awp_seq fun K59 hK59 => ?_
   refine awp_block ?_
   refine awp_seq fun K61 hK61 => ?_
   replace ⟨hp0, h⟩ := chk_some h
   refine awp_regS ftCOk [(0, .sl 0), (1, .v (.int .i64 t1)), (5, .v (.int .i64 t5)), (17, .v (.bool ((a0.getD t5.toNat 0) != t1)))] ?_
   clear hp0
   refine awp_cond (t := 17) rfl (fun hc62 => ?_) (fun hc62 => ?_)
   ·replace h := bite_t h hc62
    refine awp_regS ftCOk [(4, .v (.int .i64 (-1)))] ?_
    refine awp_ret ?_
    (try simp only [Thn, InBlk, ↓reduceIte, Nat.reduceEqDiff])
    obtain rfl := Option.some.inj h
    refine LoopQ.out rfl ?_
    exact Red.auto
   ·replace h := bite_f h hc62
    refine awp_skip ?_
    refine hK61 _ _ ?_
    clear hK61
    replace ⟨hp0, h⟩ := chk_some h
    refine awp_regES ftCOk [(0, .sl 0), (1, .v (.int .i64 (t1 + 1))), (5, .v (.int .i64 t5))] ?_
    clear hp0
    refine hK59 _ _ ?_
    clear hK59
    replace ⟨hp0, h⟩ := chk_some h
    refine awp_regES ftCOk [(0, .sl 0), (1, .v (.int .i64 (t1 + 1))), (5, .v (.int .i64 (t5 + 1)))] ?_
    clear hp0
    obtain rfl := Option.some.inj h
    refine LoopQ.next ?_
    exact Red.auto
  ·replace h := bite_f h hc55
   refine awp_exit ?_
   (try simp only [Thn, InBlk, ↓reduceIte, Nat.reduceEqDiff])
   obtain rfl := Option.some.inj h
   refine LoopQ.out rfl ?_
   exact Red.auto
 ·clear hx
  rcases x63 with (t1_1 | ⟨⟩)
  ·try dsimp only [Sum.elim_inl, Sum.elim_inr] at h
   try dsimp only [Sum.elim_inl, Sum.elim_inr]
   refine hK32 _ _ ?_
   clear hK32
   refine awp_regS ftCOk [(4, .v (.int .i64 t1_1))] ?_
   refine awp_ret ?_
   obtain rfl := Option.some.inj h
   exact finQ [0]
  ·try dsimp only [Sum.elim_inl, Sum.elim_inr] at h
   try dsimp only [Sum.elim_inl, Sum.elim_inr]
   obtain rfl := Option.some.inj h
   exact finQ [0]
theorem k_laws_heldDisk (a0_0 : List Int) (a0_1 : List Int) (a1 : Int) {r : Int} (h : laws_heldDisk a0_0 a0_1 a1 = some r) :
 FnA Try.prog 13 [.agg [.sl 0, .sl 1], .v (.int .i64 a1)] [.row false (.ints .i64 a0_0), .row false (.ints .i64 a0_1)] [] (fun x H => x = .v (.int .i64 r) ∧ H = [.row false (.ints .i64 a0_0), .row false (.ints .i64 a0_1)]) := by
 unfold laws_heldDisk at h
 refine FnA.ofA 18 [0, 1] [.tmp 4] Try.func13 en13 ?_
 refine awp_reg ftCOk [(1, .v (.int .i64 a1)), (2, .pp 2 0)] [.row false (.ints .i64 a0_0), .row false (.ints .i64 a0_1), .box [.sl 0, .sl 1]] ?_
 refine awp_freeze 2 (by rfl) (by rfl) (by exact rfl) ?_
 replace ⟨y, hr0, h⟩ := bind_some h
 refine awp_regC ftCOk [(1, .v (.int .i64 y)), (2, .pp 2 0)] [.row false (.ints .i64 a0_0), .row false (.ints .i64 a0_1), .rbox [.sl 0, .sl 1]] 3 [0] (k_laws_heldIntS a0_0 a1 (h := hr0)) ?_
 clear hr0
 refine awp_seq fun K2 hK2 => ?_
 refine awp_regS ftCOk [(1, .v (.int .i64 y)), (2, .pp 2 0), (10, .v (.bool (decide (y < 0))))] ?_
 refine awp_cond (t := 10) rfl (fun hc3 => ?_) (fun hc3 => ?_)
 ·replace h := bite_t h hc3
  refine awp_regS ftCOk [(4, .v (.int .i64 (-1)))] ?_
  refine awp_ret ?_
  obtain rfl := Option.some.inj h
  exact finQ [0, 1]
 ·replace h := bite_f h hc3
  refine awp_skip ?_
  refine hK2 _ _ ?_
  clear hK2
  replace ⟨y_1, hr0, h⟩ := bind_some h
  refine awp_regC ftCOk [(1, .v (.int .i64 y_1))] [.row false (.ints .i64 a0_0), .row false (.ints .i64 a0_1), .rbox [.sl 0, .sl 1]] 3 [1] (k_laws_heldIntS a0_1 y (h := hr0)) ?_
  clear hr0
  refine awp_seq fun K5 hK5 => ?_
  refine awp_regS ftCOk [(1, .v (.int .i64 y_1)), (16, .v (.bool (decide (y_1 < 0))))] ?_
  refine awp_cond (t := 16) rfl (fun hc6 => ?_) (fun hc6 => ?_)
  ·replace h := bite_t h hc6
   refine awp_regS ftCOk [(4, .v (.int .i64 (-1)))] ?_
   refine awp_ret ?_
   obtain rfl := Option.some.inj h
   exact finQ [0, 1]
  ·replace h := bite_f h hc6
   refine awp_skip ?_
   refine hK5 _ _ ?_
   clear hK5
   refine awp_regS ftCOk [(4, .v (.int .i64 y_1))] ?_
   refine awp_ret ?_
   obtain rfl := Option.some.inj h
   exact finQ [0, 1]
theorem k_laws_FnExactSaveState (a0_0 : List Int) (a0_1 : List Int) (a1_0 : Int) (a1_1 : List Int) (a1_2 : List Bool) (a1_3 : List (Int × Int × Int)) {r : Bool} (h : laws_FnExactSaveState a0_0 a0_1 a1_0 a1_1 a1_2 a1_3 = some r) :
 FnA Try.prog 4 [.agg [.sl 0, .sl 1], .agg [.v (.int .i64 a1_0), .sl 2, .sl 3, .sl 4]] [.row false (.ints .i64 a0_0), .row false (.ints .i64 a0_1), .row false (.ints .i64 a1_1), .row false (.bools a1_2), .row false (.trips a1_3)] [] (fun x H => x = .v (.bool r) ∧ H = [.row false (.ints .i64 a0_0), .row false (.ints .i64 a0_1), .row false (.ints .i64 a1_1), .row false (.bools a1_2), .row false (.trips a1_3)]) := by
 unfold laws_FnExactSaveState at h
 refine FnA.ofA 119 [0, 1, 2, 3, 4] [.tmp 4] Try.func4 en4 ?_
 refine awp_reg ftCOk [(2, .pp 5 0), (3, .pp 6 0)] [.row false (.ints .i64 a0_0), .row false (.ints .i64 a0_1), .row false (.ints .i64 a1_1), .row false (.bools a1_2), .row false (.trips a1_3), .box [.sl 0, .sl 1], .box [.v (.int .i64 a1_0), .sl 2, .sl 3, .sl 4]] ?_
 refine awp_freeze 2 (by rfl) (by rfl) (by exact rfl) ?_
 refine awp_freeze 3 (by rfl) (by rfl) (by exact rfl) ?_
 refine awp_regS ftCOk [(2, .pp 5 0), (3, .pp 6 0), (5, .v (.int .i64 1048576))] ?_
 replace ⟨y, hr0, h⟩ := bind_some h
 refine awp_regC ftCOk [(2, .pp 5 0), (3, .pp 6 0), (5, .v (.int .i64 y))] [.row false (.ints .i64 a0_0), .row false (.ints .i64 a0_1), .row false (.ints .i64 a1_1), .row false (.bools a1_2), .row false (.trips a1_3), .rbox [.sl 0, .sl 1], .rbox [.v (.int .i64 a1_0), .sl 2, .sl 3, .sl 4]] 2 [0, 1] (k_laws_szDisk a0_0 a0_1 1048576 (h := hr0)) ?_
 clear hr0
 refine awp_seq fun K2 hK2 => ?_
 refine awp_regS ftCOk [(2, .pp 5 0), (3, .pp 6 0), (5, .v (.int .i64 y)), (21, .v (.bool (decide (y < 0))))] ?_
 refine awp_cond (t := 21) rfl (fun hc3 => ?_) (fun hc3 => ?_)
 ·replace h := bite_t h hc3
  refine awp_regS ftCOk [(4, .v (.bool true))] ?_
  refine awp_ret ?_
  obtain rfl := Option.some.inj h
  exact finQ [0, 1, 2, 3, 4]
 ·replace h := bite_f h hc3
  refine awp_skip ?_
  refine hK2 _ _ ?_
  clear hK2
  replace ⟨y_1, hr0, h⟩ := bind_some h
  refine awp_regC ftCOk [(2, .pp 5 0), (3, .pp 6 0), (5, .v (.int .i64 y_1))] [.row false (.ints .i64 a0_0), .row false (.ints .i64 a0_1), .row false (.ints .i64 a1_1), .row false (.bools a1_2), .row false (.trips a1_3), .rbox [.sl 0, .sl 1], .rbox [.v (.int .i64 a1_0), .sl 2, .sl 3, .sl 4]] 2 [2, 3, 4] (k_laws_szState a1_0 a1_1 a1_2 a1_3 y (h := hr0)) ?_
  clear hr0
  refine awp_seq fun K5 hK5 => ?_
  refine awp_regS ftCOk [(2, .pp 5 0), (3, .pp 6 0), (26, .v (.bool (decide (y_1 < 0))))] ?_
  refine awp_cond (t := 26) rfl (fun hc6 => ?_) (fun hc6 => ?_)
  ·replace h := bite_t h hc6
   refine awp_regS ftCOk [(4, .v (.bool true))] ?_
   refine awp_ret ?_
   obtain rfl := Option.some.inj h
   exact finQ [0, 1, 2, 3, 4]
  ·replace h := bite_f h hc6
   refine awp_skip ?_
   refine hK5 _ _ ?_
   clear hK5
   replace ⟨⟨y_2, y_3⟩, hr0, h⟩ := bind_some h
   try dsimp only at h
   replace ⟨⟨y_4, y_5, y_6, y_7⟩, hr1, h⟩ := bind_some h
   try dsimp only at h
   replace ⟨⟨y_8, y_9, y_10⟩, hr2, h⟩ := bind_some h
   try dsimp only at h
   refine awp_to [(2, .pp 5 0), (3, .pp 6 0), (6, .pp 14 0), (7, .v (.bool y_10))] [.row false (.ints .i64 a0_0), .row false (.ints .i64 a0_1), .row false (.ints .i64 a1_1), .row false (.bools a1_2), .row false (.trips a1_3), .rbox [.sl 0, .sl 1], .rbox [.v (.int .i64 a1_0), .sl 2, .sl 3, .sl 4], .row true (.ints .i64 y_2), .row true (.ints .i64 y_3), .row true (.ints .i64 y_5), .row true (.bools y_6), .row true (.trips y_7), .row true (.ints .i64 y_8), .row true (.ints .i64 y_9), .box [.sl 12, .sl 13]] ?_ ?_
   ·clear h
    intro K hK
    refine awp_drawL [0, 1, 2, 3, 4, 5, 6] [0, 2] 9 #[true, false, true, false, false, false, false, false, false, false, false] mixed ftCOk (by kernel_rfl) (by first | rfl | kernel_rfl) (by rfl) (by simp) fun L hL => ?_
    have n6 : L 0 #[true, true, true, true, true, true, true, true, true, true, true] [(2, .pp 5 0), (3, .pp 6 0), (6, .pp 14 0), (7, .v (.bool y_10)), (26, .v (.bool (decide (y_1 < 0)))), (27, .tup [.agg [.sl 12, .sl 13], .v (.bool y_10)]), (28, .agg [.sl 0, .sl 1]), (29, .agg [.sl 7, .sl 8]), (30, .agg [.v (.int .i64 a1_0), .sl 2, .sl 3, .sl 4]), (31, .agg [.v (.int .i64 y_4), .sl 9, .sl 10, .sl 11]), (32, .tup [.agg [.sl 12, .sl 13], .v (.bool y_10)]), (33, .agg [.sl 12, .sl 13]), (34, .v (.bool y_10))] [.row false (.ints .i64 a0_0), .row false (.ints .i64 a0_1), .row false (.ints .i64 a1_1), .row false (.bools a1_2), .row false (.trips a1_3), .rbox [.sl 0, .sl 1], .rbox [.v (.int .i64 a1_0), .sl 2, .sl 3, .sl 4], .row true (.ints .i64 y_2), .row true (.ints .i64 y_3), .row true (.ints .i64 y_5), .row true (.bools y_6), .row true (.trips y_7), .row true (.ints .i64 y_8), .row true (.ints .i64 y_9), .box [.sl 12, .sl 13]] := by
     exact hL.fin (by kernel_rfl) (hK _ _ Red.auto)
    have n5 : L 2 #[true, true, true, true, true, true, true, true, true, false, false] [(2, .pp 5 0), (3, .pp 6 0), (6, .pp 14 0), (26, .v (.bool (decide (y_1 < 0)))), (27, .tup [.agg [.sl 12, .sl 13], .v (.bool y_10)]), (28, .agg [.sl 0, .sl 1]), (29, .agg [.sl 7, .sl 8]), (30, .agg [.v (.int .i64 a1_0), .sl 2, .sl 3, .sl 4]), (31, .agg [.v (.int .i64 y_4), .sl 9, .sl 10, .sl 11]), (32, .tup [.agg [.sl 12, .sl 13], .v (.bool y_10)]), (33, .agg [.sl 12, .sl 13]), (34, .v (.bool y_10))] [.row false (.ints .i64 a0_0), .row false (.ints .i64 a0_1), .row false (.ints .i64 a1_1), .row false (.bools a1_2), .row false (.trips a1_3), .rbox [.sl 0, .sl 1], .rbox [.v (.int .i64 a1_0), .sl 2, .sl 3, .sl 4], .row true (.ints .i64 y_2), .row true (.ints .i64 y_3), .row true (.ints .i64 y_5), .row true (.bools y_6), .row true (.trips y_7), .row true (.ints .i64 y_8), .row true (.ints .i64 y_9), .box [.v (.slice none 0 0), .v (.slice none 0 0)]] := by
     refine hL.step [(9, [10], 0, #[true, true, true, true, true, true, true, true, true, true, true])] (by kernel_rfl) ⟨?_, trivial⟩
     ·exact hL.edge n6
    have n4 : L 3 #[true, true, true, true, true, true, true, true, false, false, false] [(2, .pp 5 0), (3, .pp 6 0), (26, .v (.bool (decide (y_1 < 0)))), (27, .tup [.agg [.sl 12, .sl 13], .v (.bool y_10)]), (28, .agg [.sl 0, .sl 1]), (29, .agg [.sl 7, .sl 8]), (30, .agg [.v (.int .i64 a1_0), .sl 2, .sl 3, .sl 4]), (31, .agg [.v (.int .i64 y_4), .sl 9, .sl 10, .sl 11]), (32, .tup [.agg [.sl 12, .sl 13], .v (.bool y_10)]), (33, .agg [.sl 12, .sl 13]), (34, .v (.bool y_10))] [.row false (.ints .i64 a0_0), .row false (.ints .i64 a0_1), .row false (.ints .i64 a1_1), .row false (.bools a1_2), .row false (.trips a1_3), .rbox [.sl 0, .sl 1], .rbox [.v (.int .i64 a1_0), .sl 2, .sl 3, .sl 4], .row true (.ints .i64 y_2), .row true (.ints .i64 y_3), .row true (.ints .i64 y_5), .row true (.bools y_6), .row true (.trips y_7), .row true (.ints .i64 y_8), .row true (.ints .i64 y_9)] := by
     refine hL.step [(8, [], 2, #[true, true, true, true, true, true, true, true, true, false, false])] (by kernel_rfl) ⟨?_, trivial⟩
     ·exact hL.edge n5
    have n7 : L 5 #[true, true, true, true, true, false, false, false, true, false, false] [(2, .pp 5 0), (3, .pp 6 0), (6, .pp 14 0), (26, .v (.bool (decide (y_1 < 0)))), (28, .agg [.sl 0, .sl 1]), (29, .agg [.sl 7, .sl 8]), (30, .agg [.v (.int .i64 a1_0), .sl 2, .sl 3, .sl 4]), (31, .agg [.v (.int .i64 y_4), .sl 9, .sl 10, .sl 11]), (32, .tup [.agg [.sl 12, .sl 13], .v (.bool y_10)])] [.row false (.ints .i64 a0_0), .row false (.ints .i64 a0_1), .row false (.ints .i64 a1_1), .row false (.bools a1_2), .row false (.trips a1_3), .rbox [.sl 0, .sl 1], .rbox [.v (.int .i64 a1_0), .sl 2, .sl 3, .sl 4], .row true (.ints .i64 y_2), .row true (.ints .i64 y_3), .row true (.ints .i64 y_5), .row true (.bools y_6), .row true (.trips y_7), .row true (.ints .i64 y_8), .row true (.ints .i64 y_9), .box [.v (.slice none 0 0), .v (.slice none 0 0)]] := by
     refine hL.step [(5, [6, 7], 2, #[true, true, true, true, true, true, true, true, true, false, false])] (by kernel_rfl) ⟨?_, trivial⟩
     ·exact hL.edge n5
    have n3 : L 6 #[true, true, true, true, true, false, false, false, false, false, false] [(2, .pp 5 0), (3, .pp 6 0), (26, .v (.bool (decide (y_1 < 0)))), (28, .agg [.sl 0, .sl 1]), (29, .agg [.sl 7, .sl 8]), (30, .agg [.v (.int .i64 a1_0), .sl 2, .sl 3, .sl 4]), (31, .agg [.v (.int .i64 y_4), .sl 9, .sl 10, .sl 11]), (32, .tup [.agg [.sl 12, .sl 13], .v (.bool y_10)])] [.row false (.ints .i64 a0_0), .row false (.ints .i64 a0_1), .row false (.ints .i64 a1_1), .row false (.bools a1_2), .row false (.trips a1_3), .rbox [.sl 0, .sl 1], .rbox [.v (.int .i64 a1_0), .sl 2, .sl 3, .sl 4], .row true (.ints .i64 y_2), .row true (.ints .i64 y_3), .row true (.ints .i64 y_5), .row true (.bools y_6), .row true (.trips y_7), .row true (.ints .i64 y_8), .row true (.ints .i64 y_9)] := by
     refine hL.step [(5, [6, 7], 3, #[true, true, true, true, true, true, true, true, false, false, false]), (8, [], 5, #[true, true, true, true, true, false, false, false, true, false, false])] (by kernel_rfl) ⟨?_, ?_, trivial⟩
     ·exact hL.edge n4
     ·exact hL.edge n7
    have n8 : L 6 #[true, true, true, true, false, false, false, false, true, false, false] [(2, .pp 5 0), (3, .pp 6 0), (6, .pp 12 0), (26, .v (.bool (decide (y_1 < 0)))), (28, .agg [.sl 0, .sl 1]), (29, .agg [.sl 7, .sl 8]), (30, .agg [.v (.int .i64 a1_0), .sl 2, .sl 3, .sl 4]), (31, .agg [.v (.int .i64 y_4), .sl 9, .sl 10, .sl 11])] [.row false (.ints .i64 a0_0), .row false (.ints .i64 a0_1), .row false (.ints .i64 a1_1), .row false (.bools a1_2), .row false (.trips a1_3), .rbox [.sl 0, .sl 1], .rbox [.v (.int .i64 a1_0), .sl 2, .sl 3, .sl 4], .row true (.ints .i64 y_2), .row true (.ints .i64 y_3), .row true (.ints .i64 y_5), .row true (.bools y_6), .row true (.trips y_7), .box [.v (.slice none 0 0), .v (.slice none 0 0)]] := by
     refine hL.step [(4, [], 5, #[true, true, true, true, true, false, false, false, true, false, false])] (by kernel_rfl) ⟨?_, trivial⟩
     ·simp (maxSteps := 4000000) only [go_sem, Nat.reduceBEq, Nat.reduceLT, Nat.reduceAdd, Nat.reduceLeDiff, Nat.reduceSub, Nat.reduceEqDiff, Int.reduceToNat, reduceCtorEq, ↓reduceIte]
      repeat' (first | refine And.intro ?_ ?_ | intro hg)
      all_goals (try simp (disch := omega) only [wrap_fits])
      all_goals first
       | (refine hL.red ?_ n7; exact Red.selA [0, 1, 2, 3, 4, 5, 6, 7, 8, 9, 10, 11, 13, 14, 12] Red.auto)
       | exact trivial
       | assumption
       | omega
       | exact wrap_fits (by omega) (by omega)
       | (refine OpK_callA (k_spec_SaveState y_2 y_3 y_4 y_5 y_6 y_7 (h := hr2)) [7, 8, 9, 10, 11] [] ?_
          rintro x Hc' ⟨rfl, rfl⟩ hlen
          simp (maxSteps := 4000000) only [go_sem, Nat.reduceBEq, Nat.reduceLT, Nat.reduceAdd, Nat.reduceLeDiff, Nat.reduceSub, Nat.reduceEqDiff, Int.reduceToNat, reduceCtorEq, ↓reduceIte]
          repeat' (first | refine And.intro ?_ ?_ | intro hg)
          all_goals (try simp (disch := omega) only [wrap_fits])
          all_goals first | (refine hL.red ?_ n7; exact Red.selA [0, 1, 2, 3, 4, 5, 6, 7, 8, 9, 10, 11, 13, 14, 12] Red.auto) | exact trivial | assumption | omega | exact wrap_fits (by omega) (by omega) | (simp_all; done) | (simp_all; omega))
       | (simp (maxSteps := 4000000) only [go_sem, Nat.reduceBEq, Nat.reduceLT, Nat.reduceAdd, Nat.reduceLeDiff, Nat.reduceSub, Nat.reduceEqDiff, Int.reduceToNat, reduceCtorEq, ↓reduceIte]
          repeat' (first | refine And.intro ?_ ?_ | intro hg)
          all_goals (try simp (disch := omega) only [wrap_fits])
          all_goals first | (refine hL.red ?_ n7; exact Red.selA [0, 1, 2, 3, 4, 5, 6, 7, 8, 9, 10, 11, 13, 14, 12] Red.auto) | exact trivial | assumption | omega | exact wrap_fits (by omega) (by omega))
       | (simp_all; done)
       | (simp_all; omega)
    have n2 : L 7 #[true, true, true, true, false, false, false, false, false, false, false] [(2, .pp 5 0), (3, .pp 6 0), (26, .v (.bool (decide (y_1 < 0)))), (28, .agg [.sl 0, .sl 1]), (29, .agg [.sl 7, .sl 8]), (30, .agg [.v (.int .i64 a1_0), .sl 2, .sl 3, .sl 4]), (31, .agg [.v (.int .i64 y_4), .sl 9, .sl 10, .sl 11])] [.row false (.ints .i64 a0_0), .row false (.ints .i64 a0_1), .row false (.ints .i64 a1_1), .row false (.bools a1_2), .row false (.trips a1_3), .rbox [.sl 0, .sl 1], .rbox [.v (.int .i64 a1_0), .sl 2, .sl 3, .sl 4], .row true (.ints .i64 y_2), .row true (.ints .i64 y_3), .row true (.ints .i64 y_5), .row true (.bools y_6), .row true (.trips y_7)] := by
     refine hL.step [(4, [], 6, #[true, true, true, true, true, false, false, false, false, false, false]), (8, [], 6, #[true, true, true, true, false, false, false, false, true, false, false])] (by kernel_rfl) ⟨?_, ?_, trivial⟩
     ·simp (maxSteps := 4000000) only [go_sem, Nat.reduceBEq, Nat.reduceLT, Nat.reduceAdd, Nat.reduceLeDiff, Nat.reduceSub, Nat.reduceEqDiff, Int.reduceToNat, reduceCtorEq, ↓reduceIte]
      repeat' (first | refine And.intro ?_ ?_ | intro hg)
      all_goals (try simp (disch := omega) only [wrap_fits])
      all_goals first
       | (refine hL.red ?_ n3; exact Red.auto)
       | exact trivial
       | assumption
       | omega
       | exact wrap_fits (by omega) (by omega)
       | (refine OpK_callA (k_spec_SaveState y_2 y_3 y_4 y_5 y_6 y_7 (h := hr2)) [7, 8, 9, 10, 11] [] ?_
          rintro x Hc' ⟨rfl, rfl⟩ hlen
          simp (maxSteps := 4000000) only [go_sem, Nat.reduceBEq, Nat.reduceLT, Nat.reduceAdd, Nat.reduceLeDiff, Nat.reduceSub, Nat.reduceEqDiff, Int.reduceToNat, reduceCtorEq, ↓reduceIte]
          repeat' (first | refine And.intro ?_ ?_ | intro hg)
          all_goals (try simp (disch := omega) only [wrap_fits])
          all_goals first | (refine hL.red ?_ n3; exact Red.auto) | exact trivial | assumption | omega | exact wrap_fits (by omega) (by omega) | (simp_all; done) | (simp_all; omega))
       | (simp (maxSteps := 4000000) only [go_sem, Nat.reduceBEq, Nat.reduceLT, Nat.reduceAdd, Nat.reduceLeDiff, Nat.reduceSub, Nat.reduceEqDiff, Int.reduceToNat, reduceCtorEq, ↓reduceIte]
          repeat' (first | refine And.intro ?_ ?_ | intro hg)
          all_goals (try simp (disch := omega) only [wrap_fits])
          all_goals first | (refine hL.red ?_ n3; exact Red.auto) | exact trivial | assumption | omega | exact wrap_fits (by omega) (by omega))
       | (simp_all; done)
       | (simp_all; omega)
     ·exact hL.edge n8
    have n9 : L 7 #[true, true, true, false, false, false, false, false, true, false, false] [(2, .pp 5 0), (3, .pp 6 0), (6, .pp 9 0), (26, .v (.bool (decide (y_1 < 0)))), (28, .agg [.sl 0, .sl 1]), (29, .agg [.sl 7, .sl 8]), (30, .agg [.v (.int .i64 a1_0), .sl 2, .sl 3, .sl 4])] [.row false (.ints .i64 a0_0), .row false (.ints .i64 a0_1), .row false (.ints .i64 a1_1), .row false (.bools a1_2), .row false (.trips a1_3), .rbox [.sl 0, .sl 1], .rbox [.v (.int .i64 a1_0), .sl 2, .sl 3, .sl 4], .row true (.ints .i64 y_2), .row true (.ints .i64 y_3), .box [.v (.slice none 0 0), .v (.slice none 0 0)]] := by
     refine hL.step [(3, [], 6, #[true, true, true, true, false, false, false, false, true, false, false])] (by kernel_rfl) ⟨?_, trivial⟩
     ·simp (maxSteps := 4000000) only [go_sem, Nat.reduceBEq, Nat.reduceLT, Nat.reduceAdd, Nat.reduceLeDiff, Nat.reduceSub, Nat.reduceEqDiff, Int.reduceToNat, reduceCtorEq, ↓reduceIte]
      repeat' (first | refine And.intro ?_ ?_ | intro hg)
      all_goals (try simp (disch := omega) only [wrap_fits])
      all_goals first
       | (refine hL.red ?_ n8; exact Red.selA [0, 1, 2, 3, 4, 5, 6, 7, 8, 10, 11, 12, 9] Red.auto)
       | exact trivial
       | assumption
       | omega
       | exact wrap_fits (by omega) (by omega)
       | (refine OpK_callA (k_laws_toState a1_0 a1_1 a1_2 a1_3 (h := hr1)) [2, 3, 4] [] ?_
          rintro x Hc' ⟨rfl, rfl⟩ hlen
          simp (maxSteps := 4000000) only [go_sem, Nat.reduceBEq, Nat.reduceLT, Nat.reduceAdd, Nat.reduceLeDiff, Nat.reduceSub, Nat.reduceEqDiff, Int.reduceToNat, reduceCtorEq, ↓reduceIte]
          repeat' (first | refine And.intro ?_ ?_ | intro hg)
          all_goals (try simp (disch := omega) only [wrap_fits])
          all_goals first | (refine hL.red ?_ n8; exact Red.selA [0, 1, 2, 3, 4, 5, 6, 7, 8, 10, 11, 12, 9] Red.auto) | exact trivial | assumption | omega | exact wrap_fits (by omega) (by omega) | (simp_all; done) | (simp_all; omega))
       | (simp (maxSteps := 4000000) only [go_sem, Nat.reduceBEq, Nat.reduceLT, Nat.reduceAdd, Nat.reduceLeDiff, Nat.reduceSub, Nat.reduceEqDiff, Int.reduceToNat, reduceCtorEq, ↓reduceIte]
          repeat' (first | refine And.intro ?_ ?_ | intro hg)
          all_goals (try simp (disch := omega) only [wrap_fits])
          all_goals first | (refine hL.red ?_ n8; exact Red.selA [0, 1, 2, 3, 4, 5, 6, 7, 8, 10, 11, 12, 9] Red.auto) | exact trivial | assumption | omega | exact wrap_fits (by omega) (by omega))
       | (simp_all; done)
       | (simp_all; omega)
    have n1 : L 8 #[true, true, true, false, false, false, false, false, false, false, false] [(2, .pp 5 0), (3, .pp 6 0), (26, .v (.bool (decide (y_1 < 0)))), (28, .agg [.sl 0, .sl 1]), (29, .agg [.sl 7, .sl 8]), (30, .agg [.v (.int .i64 a1_0), .sl 2, .sl 3, .sl 4])] [.row false (.ints .i64 a0_0), .row false (.ints .i64 a0_1), .row false (.ints .i64 a1_1), .row false (.bools a1_2), .row false (.trips a1_3), .rbox [.sl 0, .sl 1], .rbox [.v (.int .i64 a1_0), .sl 2, .sl 3, .sl 4], .row true (.ints .i64 y_2), .row true (.ints .i64 y_3)] := by
     refine hL.step [(3, [], 7, #[true, true, true, true, false, false, false, false, false, false, false]), (8, [], 7, #[true, true, true, false, false, false, false, false, true, false, false])] (by kernel_rfl) ⟨?_, ?_, trivial⟩
     ·simp (maxSteps := 4000000) only [go_sem, Nat.reduceBEq, Nat.reduceLT, Nat.reduceAdd, Nat.reduceLeDiff, Nat.reduceSub, Nat.reduceEqDiff, Int.reduceToNat, reduceCtorEq, ↓reduceIte]
      repeat' (first | refine And.intro ?_ ?_ | intro hg)
      all_goals (try simp (disch := omega) only [wrap_fits])
      all_goals first
       | (refine hL.red ?_ n2; exact Red.auto)
       | exact trivial
       | assumption
       | omega
       | exact wrap_fits (by omega) (by omega)
       | (refine OpK_callA (k_laws_toState a1_0 a1_1 a1_2 a1_3 (h := hr1)) [2, 3, 4] [] ?_
          rintro x Hc' ⟨rfl, rfl⟩ hlen
          simp (maxSteps := 4000000) only [go_sem, Nat.reduceBEq, Nat.reduceLT, Nat.reduceAdd, Nat.reduceLeDiff, Nat.reduceSub, Nat.reduceEqDiff, Int.reduceToNat, reduceCtorEq, ↓reduceIte]
          repeat' (first | refine And.intro ?_ ?_ | intro hg)
          all_goals (try simp (disch := omega) only [wrap_fits])
          all_goals first | (refine hL.red ?_ n2; exact Red.auto) | exact trivial | assumption | omega | exact wrap_fits (by omega) (by omega) | (simp_all; done) | (simp_all; omega))
       | (simp (maxSteps := 4000000) only [go_sem, Nat.reduceBEq, Nat.reduceLT, Nat.reduceAdd, Nat.reduceLeDiff, Nat.reduceSub, Nat.reduceEqDiff, Int.reduceToNat, reduceCtorEq, ↓reduceIte]
          repeat' (first | refine And.intro ?_ ?_ | intro hg)
          all_goals (try simp (disch := omega) only [wrap_fits])
          all_goals first | (refine hL.red ?_ n2; exact Red.auto) | exact trivial | assumption | omega | exact wrap_fits (by omega) (by omega))
       | (simp_all; done)
       | (simp_all; omega)
     ·exact hL.edge n9
    have n10 : L 8 #[true, false, true, false, false, false, false, false, true, false, false] [(2, .pp 5 0), (3, .pp 6 0), (6, .pp 7 0), (26, .v (.bool (decide (y_1 < 0)))), (28, .agg [.sl 0, .sl 1]), (30, .agg [.v (.int .i64 a1_0), .sl 2, .sl 3, .sl 4])] [.row false (.ints .i64 a0_0), .row false (.ints .i64 a0_1), .row false (.ints .i64 a1_1), .row false (.bools a1_2), .row false (.trips a1_3), .rbox [.sl 0, .sl 1], .rbox [.v (.int .i64 a1_0), .sl 2, .sl 3, .sl 4], .box [.v (.slice none 0 0), .v (.slice none 0 0)]] := by
     refine hL.step [(1, [], 7, #[true, true, true, false, false, false, false, false, true, false, false])] (by kernel_rfl) ⟨?_, trivial⟩
     ·simp (maxSteps := 4000000) only [go_sem, Nat.reduceBEq, Nat.reduceLT, Nat.reduceAdd, Nat.reduceLeDiff, Nat.reduceSub, Nat.reduceEqDiff, Int.reduceToNat, reduceCtorEq, ↓reduceIte]
      repeat' (first | refine And.intro ?_ ?_ | intro hg)
      all_goals (try simp (disch := omega) only [wrap_fits])
      all_goals first
       | (refine hL.red ?_ n9; exact Red.selA [0, 1, 2, 3, 4, 5, 6, 8, 9, 7] Red.auto)
       | exact trivial
       | assumption
       | omega
       | exact wrap_fits (by omega) (by omega)
       | (refine OpK_callA (k_laws_toDisk a0_0 a0_1 (h := hr0)) [0, 1] [] ?_
          rintro x Hc' ⟨rfl, rfl⟩ hlen
          simp (maxSteps := 4000000) only [go_sem, Nat.reduceBEq, Nat.reduceLT, Nat.reduceAdd, Nat.reduceLeDiff, Nat.reduceSub, Nat.reduceEqDiff, Int.reduceToNat, reduceCtorEq, ↓reduceIte]
          repeat' (first | refine And.intro ?_ ?_ | intro hg)
          all_goals (try simp (disch := omega) only [wrap_fits])
          all_goals first | (refine hL.red ?_ n9; exact Red.selA [0, 1, 2, 3, 4, 5, 6, 8, 9, 7] Red.auto) | exact trivial | assumption | omega | exact wrap_fits (by omega) (by omega) | (simp_all; done) | (simp_all; omega))
       | (simp (maxSteps := 4000000) only [go_sem, Nat.reduceBEq, Nat.reduceLT, Nat.reduceAdd, Nat.reduceLeDiff, Nat.reduceSub, Nat.reduceEqDiff, Int.reduceToNat, reduceCtorEq, ↓reduceIte]
          repeat' (first | refine And.intro ?_ ?_ | intro hg)
          all_goals (try simp (disch := omega) only [wrap_fits])
          all_goals first | (refine hL.red ?_ n9; exact Red.selA [0, 1, 2, 3, 4, 5, 6, 8, 9, 7] Red.auto) | exact trivial | assumption | omega | exact wrap_fits (by omega) (by omega))
       | (simp_all; done)
       | (simp_all; omega)
    have n0 : L 9 #[true, false, true, false, false, false, false, false, false, false, false] [(2, .pp 5 0), (3, .pp 6 0), (26, .v (.bool (decide (y_1 < 0)))), (28, .agg [.sl 0, .sl 1]), (30, .agg [.v (.int .i64 a1_0), .sl 2, .sl 3, .sl 4])] [.row false (.ints .i64 a0_0), .row false (.ints .i64 a0_1), .row false (.ints .i64 a1_1), .row false (.bools a1_2), .row false (.trips a1_3), .rbox [.sl 0, .sl 1], .rbox [.v (.int .i64 a1_0), .sl 2, .sl 3, .sl 4]] := by
     refine hL.step [(1, [], 8, #[true, true, true, false, false, false, false, false, false, false, false]), (8, [], 8, #[true, false, true, false, false, false, false, false, true, false, false])] (by kernel_rfl) ⟨?_, ?_, trivial⟩
     ·simp (maxSteps := 4000000) only [go_sem, Nat.reduceBEq, Nat.reduceLT, Nat.reduceAdd, Nat.reduceLeDiff, Nat.reduceSub, Nat.reduceEqDiff, Int.reduceToNat, reduceCtorEq, ↓reduceIte]
      repeat' (first | refine And.intro ?_ ?_ | intro hg)
      all_goals (try simp (disch := omega) only [wrap_fits])
      all_goals first
       | (refine hL.red ?_ n1; exact Red.auto)
       | exact trivial
       | assumption
       | omega
       | exact wrap_fits (by omega) (by omega)
       | (refine OpK_callA (k_laws_toDisk a0_0 a0_1 (h := hr0)) [0, 1] [] ?_
          rintro x Hc' ⟨rfl, rfl⟩ hlen
          simp (maxSteps := 4000000) only [go_sem, Nat.reduceBEq, Nat.reduceLT, Nat.reduceAdd, Nat.reduceLeDiff, Nat.reduceSub, Nat.reduceEqDiff, Int.reduceToNat, reduceCtorEq, ↓reduceIte]
          repeat' (first | refine And.intro ?_ ?_ | intro hg)
          all_goals (try simp (disch := omega) only [wrap_fits])
          all_goals first | (refine hL.red ?_ n1; exact Red.auto) | exact trivial | assumption | omega | exact wrap_fits (by omega) (by omega) | (simp_all; done) | (simp_all; omega))
       | (simp (maxSteps := 4000000) only [go_sem, Nat.reduceBEq, Nat.reduceLT, Nat.reduceAdd, Nat.reduceLeDiff, Nat.reduceSub, Nat.reduceEqDiff, Int.reduceToNat, reduceCtorEq, ↓reduceIte]
          repeat' (first | refine And.intro ?_ ?_ | intro hg)
          all_goals (try simp (disch := omega) only [wrap_fits])
          all_goals first | (refine hL.red ?_ n1; exact Red.auto) | exact trivial | assumption | omega | exact wrap_fits (by omega) (by omega))
       | (simp_all; done)
       | (simp_all; omega)
     ·exact hL.edge n10
    simp (maxSteps := 4000000) only [go_sem, Nat.reduceBEq, Nat.reduceLT, Nat.reduceAdd, Nat.reduceLeDiff, Nat.reduceSub, Nat.reduceEqDiff, Int.reduceToNat, reduceCtorEq, ↓reduceIte]
    repeat' (first | refine And.intro ?_ ?_ | intro hg)
    all_goals (try simp (disch := omega) only [wrap_fits])
    all_goals first
     | (refine hL.red ?_ n0; exact Red.auto)
     | exact trivial
     | assumption
     | omega
     | exact wrap_fits (by omega) (by omega)
     | (simp (maxSteps := 4000000) only [go_sem, Nat.reduceBEq, Nat.reduceLT, Nat.reduceAdd, Nat.reduceLeDiff, Nat.reduceSub, Nat.reduceEqDiff, Int.reduceToNat, reduceCtorEq, ↓reduceIte]
        repeat' (first | refine And.intro ?_ ?_ | intro hg)
        all_goals (try simp (disch := omega) only [wrap_fits])
        all_goals first | (refine hL.red ?_ n0; exact Red.auto) | exact trivial | assumption | omega | exact wrap_fits (by omega) (by omega))
     | (simp_all; done)
     | (simp_all; omega)
   ·clear hr0 hr1 hr2
    replace ⟨⟨y_11, y_12⟩, hr0, h⟩ := bind_some h
    try dsimp only at h
    refine awp_regC ftCOk [(2, .pp 5 0), (3, .pp 6 0), (6, .pp 14 0), (7, .v (.bool y_10)), (8, .pp 17 0)] [.row false (.ints .i64 a0_0), .row false (.ints .i64 a0_1), .row false (.ints .i64 a1_1), .row false (.bools a1_2), .row false (.trips a1_3), .rbox [.sl 0, .sl 1], .rbox [.v (.int .i64 a1_0), .sl 2, .sl 3, .sl 4], .row true (.ints .i64 y_2), .row true (.ints .i64 y_3), .row true (.ints .i64 y_5), .row true (.bools y_6), .row true (.trips y_7), .row true (.ints .i64 y_8), .row true (.ints .i64 y_9), .box [.sl 12, .sl 13], .row true (.ints .i64 y_11), .row true (.ints .i64 y_12), .box [.sl 15, .sl 16]] 1 [0, 1] (k_laws_toDisk a0_0 a0_1 (h := hr0)) ?_
    clear hr0
    replace ⟨⟨y_13, y_14, y_15, y_16⟩, hr0, h⟩ := bind_some h
    try dsimp only at h
    refine awp_regC ftCOk [(2, .pp 5 0), (3, .pp 6 0), (6, .pp 14 0), (7, .v (.bool y_10)), (8, .pp 17 0), (9, .pp 21 0)] [.row false (.ints .i64 a0_0), .row false (.ints .i64 a0_1), .row false (.ints .i64 a1_1), .row false (.bools a1_2), .row false (.trips a1_3), .rbox [.sl 0, .sl 1], .rbox [.v (.int .i64 a1_0), .sl 2, .sl 3, .sl 4], .row true (.ints .i64 y_2), .row true (.ints .i64 y_3), .row true (.ints .i64 y_5), .row true (.bools y_6), .row true (.trips y_7), .row true (.ints .i64 y_8), .row true (.ints .i64 y_9), .box [.sl 12, .sl 13], .row true (.ints .i64 y_11), .row true (.ints .i64 y_12), .box [.sl 15, .sl 16], .row true (.ints .i64 y_14), .row true (.bools y_15), .row true (.trips y_16), .box [.v (.int .i64 y_13), .sl 18, .sl 19, .sl 20]] 1 [2, 3, 4] (k_laws_toState a1_0 a1_1 a1_2 a1_3 (h := hr0)) ?_
    clear hr0
    replace ⟨⟨y_17, y_18, y_19⟩, hr0, h⟩ := bind_some h
    try dsimp only at h
    refine awp_regC ftCOk [(2, .pp 5 0), (3, .pp 6 0), (6, .pp 14 0), (7, .v (.bool y_10)), (8, .pp 17 0), (9, .pp 21 0), (10, .pp 24 0), (11, .v (.bool y_19))] [.row false (.ints .i64 a0_0), .row false (.ints .i64 a0_1), .row false (.ints .i64 a1_1), .row false (.bools a1_2), .row false (.trips a1_3), .rbox [.sl 0, .sl 1], .rbox [.v (.int .i64 a1_0), .sl 2, .sl 3, .sl 4], .row true (.ints .i64 y_2), .row true (.ints .i64 y_3), .row true (.ints .i64 y_5), .row true (.bools y_6), .row true (.trips y_7), .row true (.ints .i64 y_8), .row true (.ints .i64 y_9), .box [.sl 12, .sl 13], .row true (.ints .i64 y_11), .row true (.ints .i64 y_12), .box [.sl 15, .sl 16], .row true (.ints .i64 y_14), .row true (.bools y_15), .row true (.trips y_16), .box [.v (.int .i64 y_13), .sl 18, .sl 19, .sl 20], .row true (.ints .i64 y_17), .row true (.ints .i64 y_18), .box [.sl 22, .sl 23]] 2 [15, 16, 18, 19, 20] (k_impl_SaveState y_11 y_12 y_13 y_14 y_15 y_16 (h := hr0)) ?_
    clear hr0
    refine awp_seq fun K8 hK8 => ?_
    replace ⟨y_20, hr0, h⟩ := bind_some h
    refine awp_to [(2, .pp 5 0), (3, .pp 6 0), (6, .pp 14 0), (7, .v (.bool y_10)), (8, .pp 17 0), (9, .pp 21 0), (10, .pp 24 0), (11, .v (.bool y_19)), (53, .v (.bool ((!y_20) || (!(y_19 == y_10)))))] [.row false (.ints .i64 a0_0), .row false (.ints .i64 a0_1), .row false (.ints .i64 a1_1), .row false (.bools a1_2), .row false (.trips a1_3), .rbox [.sl 0, .sl 1], .rbox [.v (.int .i64 a1_0), .sl 2, .sl 3, .sl 4], .row true (.ints .i64 y_2), .row true (.ints .i64 y_3), .row true (.ints .i64 y_5), .row true (.bools y_6), .row true (.trips y_7), .row true (.ints .i64 y_8), .row true (.ints .i64 y_9), .box [.sl 12, .sl 13], .row true (.ints .i64 y_11), .row true (.ints .i64 y_12), .box [.sl 15, .sl 16], .row true (.ints .i64 y_14), .row true (.bools y_15), .row true (.trips y_16), .box [.v (.int .i64 y_13), .sl 18, .sl 19, .sl 20], .row true (.ints .i64 y_17), .row true (.ints .i64 y_18), .box [.sl 22, .sl 23]] ?_ ?_
    ·clear h
     intro K hK
     refine awp_region ftCOk ?_
     simp (maxSteps := 4000000) only [go_sem, Nat.reduceBEq, Nat.reduceLT, Nat.reduceAdd, Nat.reduceLeDiff, Nat.reduceSub, Nat.reduceEqDiff, Int.reduceToNat, reduceCtorEq, ↓reduceIte]
     repeat' (first | refine And.intro ?_ ?_ | intro hg)
     all_goals (try simp (disch := omega) only [wrap_fits])
     all_goals first
      | (refine hK _ _ ?_; exact Red.auto)
      | exact trivial
      | assumption
      | omega
      | exact wrap_fits (by omega) (by omega)
      | (refine wpA_callA (k_laws_eqDisk y_17 y_18 y_8 y_9 (h := hr0)) [22, 23, 12, 13] [] ?_
         rintro x Hc' ⟨rfl, rfl⟩ hlen
         refine vcOps_sound ftCOk ?_
         simp (maxSteps := 4000000) only [go_sem, Nat.reduceBEq, Nat.reduceLT, Nat.reduceAdd, Nat.reduceLeDiff, Nat.reduceSub, Nat.reduceEqDiff, Int.reduceToNat, reduceCtorEq, ↓reduceIte]
         repeat' (first | refine And.intro ?_ ?_ | intro hg)
         all_goals (try simp (disch := omega) only [wrap_fits])
         all_goals first | (refine hK _ _ ?_; exact Red.auto) | exact trivial | assumption | omega | exact wrap_fits (by omega) (by omega) | (simp_all; done) | (simp_all; omega))
      | (simp_all; done)
      | (simp_all; omega)
    ·clear hr0
     refine awp_cond (t := 53) rfl (fun hc9 => ?_) (fun hc9 => ?_)
     ·replace h := bite_t h hc9
      refine awp_regS ftCOk [(4, .v (.bool false))] ?_
      refine awp_ret ?_
      obtain rfl := Option.some.inj h
      exact finQ [0, 1, 2, 3, 4]
     ·replace h := bite_f h hc9
      refine awp_skip ?_
      refine hK8 _ _ ?_
      clear hK8
      refine awp_seq fun K11 hK11 => ?_
      replace ⟨⟨y_21, y_22⟩, hr0, h⟩ := bind_some h
      try dsimp only at h
      replace ⟨y_23, hr1, h⟩ := bind_some h
      refine awp_to [(2, .pp 5 0), (3, .pp 6 0), (6, .pp 14 0), (7, .v (.bool y_10)), (8, .pp 17 0), (9, .pp 21 0), (10, .pp 24 0), (11, .v (.bool y_19)), (58, .v (.bool (!y_23)))] [.row false (.ints .i64 a0_0), .row false (.ints .i64 a0_1), .row false (.ints .i64 a1_1), .row false (.bools a1_2), .row false (.trips a1_3), .rbox [.sl 0, .sl 1], .rbox [.v (.int .i64 a1_0), .sl 2, .sl 3, .sl 4], .row true (.ints .i64 y_2), .row true (.ints .i64 y_3), .row true (.ints .i64 y_5), .row true (.bools y_6), .row true (.trips y_7), .row true (.ints .i64 y_8), .row true (.ints .i64 y_9), .box [.sl 12, .sl 13], .row true (.ints .i64 y_11), .row true (.ints .i64 y_12), .box [.sl 15, .sl 16], .row true (.ints .i64 y_14), .row true (.bools y_15), .row true (.trips y_16), .box [.v (.int .i64 y_13), .sl 18, .sl 19, .sl 20], .row true (.ints .i64 y_17), .row true (.ints .i64 y_18), .box [.sl 22, .sl 23], .row true (.ints .i64 y_21), .row true (.ints .i64 y_22)] ?_ ?_
      ·clear h
       intro K hK
       refine awp_drawT mixed ftCOk (.free 1 (.two 0 2 (.one 2 (.one 3 (.one 4 .fin))) (.one 0 (.one 3 (.one 4 .fin))))) (by kernel_rfl) (by simp) ?_
       simp (maxSteps := 4000000) only [go_sem, Nat.reduceBEq, Nat.reduceLT, Nat.reduceAdd, Nat.reduceLeDiff, Nat.reduceSub, Nat.reduceEqDiff, Int.reduceToNat, reduceCtorEq, ↓reduceIte]
       repeat' (first | refine And.intro ?_ ?_ | intro hg)
       all_goals (try simp (disch := omega) only [wrap_fits])
       all_goals first
        | (refine hK _ _ ?_; exact Red.auto)
        | exact trivial
        | assumption
        | omega
        | exact wrap_fits (by omega) (by omega)
        | (refine OpK_callA (k_laws_toDisk a0_0 a0_1 (h := hr0)) [0, 1] [] ?_
           rintro x Hc' ⟨rfl, rfl⟩ hlen
           simp (maxSteps := 4000000) only [go_sem, Nat.reduceBEq, Nat.reduceLT, Nat.reduceAdd, Nat.reduceLeDiff, Nat.reduceSub, Nat.reduceEqDiff, Int.reduceToNat, reduceCtorEq, ↓reduceIte]
           repeat' (first | refine And.intro ?_ ?_ | intro hg)
           all_goals (try simp (disch := omega) only [wrap_fits])
           all_goals first
            | (refine hK _ _ ?_; exact Red.auto)
            | exact trivial
            | assumption
            | omega
            | exact wrap_fits (by omega) (by omega)
            | (refine OpK_callA (k_laws_eqDisk y_11 y_12 y_21 y_22 (h := hr1)) [15, 16, 25, 26] [] ?_
               rintro x Hc' ⟨rfl, rfl⟩ hlen
               simp (maxSteps := 4000000) only [go_sem, Nat.reduceBEq, Nat.reduceLT, Nat.reduceAdd, Nat.reduceLeDiff, Nat.reduceSub, Nat.reduceEqDiff, Int.reduceToNat, reduceCtorEq, ↓reduceIte]
               repeat' (first | refine And.intro ?_ ?_ | intro hg)
               all_goals (try simp (disch := omega) only [wrap_fits])
               all_goals first
                | (refine hK _ _ ?_; exact Red.auto)
                | exact trivial
                | assumption
                | omega
                | exact wrap_fits (by omega) (by omega)
                | (simp (maxSteps := 4000000) only [go_sem, Nat.reduceBEq, Nat.reduceLT, Nat.reduceAdd, Nat.reduceLeDiff, Nat.reduceSub, Nat.reduceEqDiff, Int.reduceToNat, reduceCtorEq, ↓reduceIte]
                   repeat' (first | refine And.intro ?_ ?_ | intro hg)
                   all_goals (try simp (disch := omega) only [wrap_fits])
                   all_goals first | (refine hK _ _ ?_; exact Red.auto) | exact trivial | assumption | omega | exact wrap_fits (by omega) (by omega))
                | (simp_all; done)
                | (simp_all; omega))
            | (simp_all; done)
            | (simp_all; omega))
        | (simp_all; done)
        | (simp_all; omega)
      ·clear hr0 hr1
       refine awp_cond (t := 58) rfl (fun hc12 => ?_) (fun hc12 => ?_)
       ·replace h := bite_t h hc12
        refine awp_regS ftCOk [(4, .v (.bool false))] ?_
        refine awp_ret ?_
        obtain rfl := Option.some.inj h
        exact finQ [0, 1, 2, 3, 4]
       ·replace h := bite_f h hc12
        refine awp_skip ?_
        refine hK11 _ _ ?_
        clear hK11
        refine awp_seq fun K14 hK14 => ?_
        replace ⟨⟨y_24, y_25, y_26, y_27⟩, hr0, h⟩ := bind_some h
        try dsimp only at h
        replace ⟨y_28, hr1, h⟩ := bind_some h
        refine awp_to [(2, .pp 5 0), (3, .pp 6 0), (6, .pp 14 0), (7, .v (.bool y_10)), (8, .pp 17 0), (9, .pp 21 0), (10, .pp 24 0), (11, .v (.bool y_19)), (63, .v (.bool (!y_28)))] [.row false (.ints .i64 a0_0), .row false (.ints .i64 a0_1), .row false (.ints .i64 a1_1), .row false (.bools a1_2), .row false (.trips a1_3), .rbox [.sl 0, .sl 1], .rbox [.v (.int .i64 a1_0), .sl 2, .sl 3, .sl 4], .row true (.ints .i64 y_2), .row true (.ints .i64 y_3), .row true (.ints .i64 y_5), .row true (.bools y_6), .row true (.trips y_7), .row true (.ints .i64 y_8), .row true (.ints .i64 y_9), .box [.sl 12, .sl 13], .row true (.ints .i64 y_11), .row true (.ints .i64 y_12), .box [.sl 15, .sl 16], .row true (.ints .i64 y_14), .row true (.bools y_15), .row true (.trips y_16), .box [.v (.int .i64 y_13), .sl 18, .sl 19, .sl 20], .row true (.ints .i64 y_17), .row true (.ints .i64 y_18), .box [.sl 22, .sl 23], .row true (.ints .i64 y_21), .row true (.ints .i64 y_22), .row true (.ints .i64 y_25), .row true (.bools y_26), .row true (.trips y_27)] ?_ ?_
        ·clear h
         intro K hK
         refine awp_drawT mixed ftCOk (.free 1 (.two 0 2 (.one 2 (.one 3 (.one 4 .fin))) (.one 0 (.one 3 (.one 4 .fin))))) (by kernel_rfl) (by simp) ?_
         simp (maxSteps := 4000000) only [go_sem, Nat.reduceBEq, Nat.reduceLT, Nat.reduceAdd, Nat.reduceLeDiff, Nat.reduceSub, Nat.reduceEqDiff, Int.reduceToNat, reduceCtorEq, ↓reduceIte]
         repeat' (first | refine And.intro ?_ ?_ | intro hg)
         all_goals (try simp (disch := omega) only [wrap_fits])
         all_goals first
          | (refine hK _ _ ?_; exact Red.auto)
          | exact trivial
          | assumption
          | omega
          | exact wrap_fits (by omega) (by omega)
          | (refine OpK_callA (k_laws_toState a1_0 a1_1 a1_2 a1_3 (h := hr0)) [2, 3, 4] [] ?_
             rintro x Hc' ⟨rfl, rfl⟩ hlen
             simp (maxSteps := 4000000) only [go_sem, Nat.reduceBEq, Nat.reduceLT, Nat.reduceAdd, Nat.reduceLeDiff, Nat.reduceSub, Nat.reduceEqDiff, Int.reduceToNat, reduceCtorEq, ↓reduceIte]
             repeat' (first | refine And.intro ?_ ?_ | intro hg)
             all_goals (try simp (disch := omega) only [wrap_fits])
             all_goals first
              | (refine hK _ _ ?_; exact Red.auto)
              | exact trivial
              | assumption
              | omega
              | exact wrap_fits (by omega) (by omega)
              | (refine OpK_callA (k_laws_eqState y_13 y_14 y_15 y_16 y_24 y_25 y_26 y_27 (h := hr1)) [18, 19, 20, 27, 28, 29] [] ?_
                 rintro x Hc' ⟨rfl, rfl⟩ hlen
                 simp (maxSteps := 4000000) only [go_sem, Nat.reduceBEq, Nat.reduceLT, Nat.reduceAdd, Nat.reduceLeDiff, Nat.reduceSub, Nat.reduceEqDiff, Int.reduceToNat, reduceCtorEq, ↓reduceIte]
                 repeat' (first | refine And.intro ?_ ?_ | intro hg)
                 all_goals (try simp (disch := omega) only [wrap_fits])
                 all_goals first
                  | (refine hK _ _ ?_; exact Red.auto)
                  | exact trivial
                  | assumption
                  | omega
                  | exact wrap_fits (by omega) (by omega)
                  | (simp (maxSteps := 4000000) only [go_sem, Nat.reduceBEq, Nat.reduceLT, Nat.reduceAdd, Nat.reduceLeDiff, Nat.reduceSub, Nat.reduceEqDiff, Int.reduceToNat, reduceCtorEq, ↓reduceIte]
                     repeat' (first | refine And.intro ?_ ?_ | intro hg)
                     all_goals (try simp (disch := omega) only [wrap_fits])
                     all_goals first | (refine hK _ _ ?_; exact Red.auto) | exact trivial | assumption | omega | exact wrap_fits (by omega) (by omega))
                  | (simp_all; done)
                  | (simp_all; omega))
              | (simp_all; done)
              | (simp_all; omega))
          | (simp_all; done)
          | (simp_all; omega)
        ·clear hr0 hr1
         refine awp_cond (t := 63) rfl (fun hc15 => ?_) (fun hc15 => ?_)
         ·replace h := bite_t h hc15
          refine awp_regS ftCOk [(4, .v (.bool false))] ?_
          refine awp_ret ?_
          obtain rfl := Option.some.inj h
          exact finQ [0, 1, 2, 3, 4]
         ·replace h := bite_f h hc15
          refine awp_skip ?_
          refine hK14 _ _ ?_
          clear hK14
          refine awp_regS ftCOk [(2, .pp 5 0), (3, .pp 6 0), (6, .pp 14 0), (7, .v (.bool y_10)), (8, .pp 17 0), (9, .pp 21 0), (10, .pp 24 0), (11, .v (.bool y_19)), (12, .v (.int .i64 1))] ?_
          replace ⟨⟨y_29, y_30, y_31⟩, hr0, h⟩ := bind_some h
          try dsimp only at h
          refine awp_regC ftCOk [(2, .pp 5 0), (3, .pp 6 0), (6, .pp 14 0), (7, .v (.bool y_10)), (9, .pp 21 0), (10, .pp 24 0), (11, .v (.bool y_19)), (12, .v (.int .i64 y_29))] [.row false (.ints .i64 a0_0), .row false (.ints .i64 a0_1), .row false (.ints .i64 a1_1), .row false (.bools a1_2), .row false (.trips a1_3), .rbox [.sl 0, .sl 1], .rbox [.v (.int .i64 a1_0), .sl 2, .sl 3, .sl 4], .row true (.ints .i64 y_2), .row true (.ints .i64 y_3), .row true (.ints .i64 y_5), .row true (.bools y_6), .row true (.trips y_7), .row true (.ints .i64 y_8), .row true (.ints .i64 y_9), .box [.sl 12, .sl 13], .row true (.ints .i64 y_30), .row true (.ints .i64 y_31), .box [.sl 15, .sl 16], .row true (.ints .i64 y_14), .row true (.bools y_15), .row true (.trips y_16), .box [.v (.int .i64 y_13), .sl 18, .sl 19, .sl 20], .row true (.ints .i64 y_17), .row true (.ints .i64 y_18), .box [.sl 22, .sl 23], .row true (.ints .i64 y_21), .row true (.ints .i64 y_22), .row true (.ints .i64 y_25), .row true (.bools y_26), .row true (.trips y_27)] 2 [15, 16] (k_laws_markDisk y_11 y_12 1 (h := hr0)) ?_
          clear hr0
          replace ⟨⟨y_32, y_33, y_34, y_35⟩, hr0, h⟩ := bind_some h
          try dsimp only at h
          refine awp_regC ftCOk [(2, .pp 5 0), (3, .pp 6 0), (6, .pp 14 0), (7, .v (.bool y_10)), (10, .pp 24 0), (11, .v (.bool y_19)), (12, .v (.int .i64 y_32))] [.row false (.ints .i64 a0_0), .row false (.ints .i64 a0_1), .row false (.ints .i64 a1_1), .row false (.bools a1_2), .row false (.trips a1_3), .rbox [.sl 0, .sl 1], .rbox [.v (.int .i64 a1_0), .sl 2, .sl 3, .sl 4], .row true (.ints .i64 y_2), .row true (.ints .i64 y_3), .row true (.ints .i64 y_5), .row true (.bools y_6), .row true (.trips y_7), .row true (.ints .i64 y_8), .row true (.ints .i64 y_9), .box [.sl 12, .sl 13], .row true (.ints .i64 y_30), .row true (.ints .i64 y_31), .box [.sl 15, .sl 16], .row true (.ints .i64 y_33), .row true (.bools y_34), .row true (.trips y_35), .box [.v (.int .i64 y_13), .sl 18, .sl 19, .sl 20], .row true (.ints .i64 y_17), .row true (.ints .i64 y_18), .box [.sl 22, .sl 23], .row true (.ints .i64 y_21), .row true (.ints .i64 y_22), .row true (.ints .i64 y_25), .row true (.bools y_26), .row true (.trips y_27)] 2 [18, 19, 20] (k_laws_markState y_13 y_14 y_15 y_16 y_29 (h := hr0)) ?_
          clear hr0
          refine awp_seq fun K17 hK17 => ?_
          replace ⟨y_36, hr0, h⟩ := bind_some h
          refine awp_to [(2, .pp 5 0), (3, .pp 6 0), (6, .pp 14 0), (7, .v (.bool y_10)), (10, .pp 24 0), (82, .v (.bool (((decide (y_32 < 0)) || (!y_36)) || (!(y_19 == y_10)))))] [.row false (.ints .i64 a0_0), .row false (.ints .i64 a0_1), .row false (.ints .i64 a1_1), .row false (.bools a1_2), .row false (.trips a1_3), .rbox [.sl 0, .sl 1], .rbox [.v (.int .i64 a1_0), .sl 2, .sl 3, .sl 4], .row true (.ints .i64 y_2), .row true (.ints .i64 y_3), .row true (.ints .i64 y_5), .row true (.bools y_6), .row true (.trips y_7), .row true (.ints .i64 y_8), .row true (.ints .i64 y_9), .box [.sl 12, .sl 13], .row true (.ints .i64 y_30), .row true (.ints .i64 y_31), .box [.sl 15, .sl 16], .row true (.ints .i64 y_33), .row true (.bools y_34), .row true (.trips y_35), .box [.v (.int .i64 y_13), .sl 18, .sl 19, .sl 20], .row true (.ints .i64 y_17), .row true (.ints .i64 y_18), .box [.sl 22, .sl 23], .row true (.ints .i64 y_21), .row true (.ints .i64 y_22), .row true (.ints .i64 y_25), .row true (.bools y_26), .row true (.trips y_27)] ?_ ?_
          ·clear h
           intro K hK
           refine awp_regionA ?_
           refine wpA_cutAt 8 [(2, .pp 5 0), (3, .pp 6 0), (6, .pp 14 0), (7, .v (.bool y_10)), (10, .pp 24 0), (11, .v (.bool y_19)), (77, .v (.bool ((decide (y_32 < 0)) || (!y_36))))] [.row false (.ints .i64 a0_0), .row false (.ints .i64 a0_1), .row false (.ints .i64 a1_1), .row false (.bools a1_2), .row false (.trips a1_3), .rbox [.sl 0, .sl 1], .rbox [.v (.int .i64 a1_0), .sl 2, .sl 3, .sl 4], .row true (.ints .i64 y_2), .row true (.ints .i64 y_3), .row true (.ints .i64 y_5), .row true (.bools y_6), .row true (.trips y_7), .row true (.ints .i64 y_8), .row true (.ints .i64 y_9), .box [.sl 12, .sl 13], .row true (.ints .i64 y_30), .row true (.ints .i64 y_31), .box [.sl 15, .sl 16], .row true (.ints .i64 y_33), .row true (.bools y_34), .row true (.trips y_35), .box [.v (.int .i64 y_13), .sl 18, .sl 19, .sl 20], .row true (.ints .i64 y_17), .row true (.ints .i64 y_18), .box [.sl 22, .sl 23], .row true (.ints .i64 y_21), .row true (.ints .i64 y_22), .row true (.ints .i64 y_25), .row true (.bools y_26), .row true (.trips y_27)] ?_ ?_
           ·clear hK K
            intro K hK
            refine vcOps_sound ftCOk ?_
            simp (maxSteps := 4000000) only [go_sem, Nat.reduceBEq, Nat.reduceLT, Nat.reduceAdd, Nat.reduceLeDiff, Nat.reduceSub, Nat.reduceEqDiff, Int.reduceToNat, reduceCtorEq, ↓reduceIte]
            repeat' (first | refine And.intro ?_ ?_ | intro hg)
            all_goals (try simp (disch := omega) only [wrap_fits])
            all_goals first
             | (refine hK _ _ ?_; exact Red.auto)
             | exact trivial
             | assumption
             | omega
             | exact wrap_fits (by omega) (by omega)
             | (refine wpA_guard rfl rfl ?_
                refine wpA_callA (k_laws_eqDisk y_17 y_18 y_8 y_9 (h := (bite_t hr0 (by rw [Bool.not_eq_true']; exact (by first | assumption | (simp only [*, Bool.false_or, Bool.true_or, Bool.or_false, Bool.or_true, Bool.false_and, Bool.true_and, Bool.and_false, Bool.and_true, Bool.not_true, Bool.not_false, beq_self_eq_true]; done) | (simp_all; done)))))) [22, 23, 12, 13] [] ?_
                rintro x Hc' ⟨rfl, rfl⟩ hlen
                refine vcOps_sound ftCOk ?_
                simp (maxSteps := 4000000) only [go_sem, Nat.reduceBEq, Nat.reduceLT, Nat.reduceAdd, Nat.reduceLeDiff, Nat.reduceSub, Nat.reduceEqDiff, Int.reduceToNat, reduceCtorEq, ↓reduceIte]
                repeat' (first | refine And.intro ?_ ?_ | intro hg)
                all_goals (try simp (disch := omega) only [wrap_fits])
                all_goals first | (refine hK _ _ ?_; exact Red.auto) | exact trivial | assumption | omega | exact wrap_fits (by omega) (by omega) | (simp_all; done) | (simp_all; omega))
             | (simp_all; done)
             | (simp_all; omega)
           refine vcOps_sound ftCOk ?_
           simp (maxSteps := 4000000) only [go_sem, Nat.reduceBEq, Nat.reduceLT, Nat.reduceAdd, Nat.reduceLeDiff, Nat.reduceSub, Nat.reduceEqDiff, Int.reduceToNat, reduceCtorEq, ↓reduceIte]
           repeat' (first | refine And.intro ?_ ?_ | intro hg)
           all_goals (try simp (disch := omega) only [wrap_fits])
           all_goals first | (refine hK _ _ ?_; exact Red.auto) | exact trivial | assumption | omega | exact wrap_fits (by omega) (by omega) | (simp_all; done) | (simp_all; omega)
          ·clear hr0
           refine awp_cond (t := 82) rfl (fun hc18 => ?_) (fun hc18 => ?_)
           ·replace h := bite_t h hc18
            refine awp_regS ftCOk [(4, .v (.bool false))] ?_
            refine awp_ret ?_
            obtain rfl := Option.some.inj h
            exact finQ [0, 1, 2, 3, 4]
           ·replace h := bite_f h hc18
            refine awp_skip ?_
            refine hK17 _ _ ?_
            clear hK17
            refine awp_regS ftCOk [(2, .pp 5 0), (3, .pp 6 0), (6, .pp 14 0), (7, .v (.bool y_10)), (10, .pp 24 0), (13, .v (.int .i64 1))] ?_
            replace ⟨⟨y_37, y_38, y_39⟩, hr0, h⟩ := bind_some h
            try dsimp only at h
            refine awp_regC ftCOk [(2, .pp 5 0), (3, .pp 6 0), (6, .pp 14 0), (7, .v (.bool y_10)), (10, .pp 24 0), (13, .v (.int .i64 y_37))] [.row false (.ints .i64 a0_0), .row false (.ints .i64 a0_1), .row false (.ints .i64 a1_1), .row false (.bools a1_2), .row false (.trips a1_3), .rbox [.sl 0, .sl 1], .rbox [.v (.int .i64 a1_0), .sl 2, .sl 3, .sl 4], .row true (.ints .i64 y_2), .row true (.ints .i64 y_3), .row true (.ints .i64 y_5), .row true (.bools y_6), .row true (.trips y_7), .row true (.ints .i64 y_8), .row true (.ints .i64 y_9), .box [.sl 12, .sl 13], .row true (.ints .i64 y_30), .row true (.ints .i64 y_31), .box [.sl 15, .sl 16], .row true (.ints .i64 y_33), .row true (.bools y_34), .row true (.trips y_35), .box [.v (.int .i64 y_13), .sl 18, .sl 19, .sl 20], .row true (.ints .i64 y_38), .row true (.ints .i64 y_39), .box [.sl 22, .sl 23], .row true (.ints .i64 y_21), .row true (.ints .i64 y_22), .row true (.ints .i64 y_25), .row true (.bools y_26), .row true (.trips y_27)] 2 [22, 23] (k_laws_markDisk y_17 y_18 1 (h := hr0)) ?_
            clear hr0
            refine awp_regS ftCOk [(2, .pp 5 0), (3, .pp 6 0), (6, .pp 14 0), (7, .v (.bool y_10)), (10, .pp 24 0), (13, .v (.int .i64 y_37)), (14, .v (.int .i64 1))] ?_
            replace ⟨y_40, hr0, h⟩ := bind_some h
            refine awp_regC ftCOk [(2, .pp 5 0), (3, .pp 6 0), (6, .pp 14 0), (7, .v (.bool y_10)), (10, .pp 24 0), (13, .v (.int .i64 y_37)), (14, .v (.int .i64 y_40))] [.row false (.ints .i64 a0_0), .row false (.ints .i64 a0_1), .row false (.ints .i64 a1_1), .row false (.bools a1_2), .row false (.trips a1_3), .rbox [.sl 0, .sl 1], .rbox [.v (.int .i64 a1_0), .sl 2, .sl 3, .sl 4], .row true (.ints .i64 y_2), .row true (.ints .i64 y_3), .row true (.ints .i64 y_5), .row true (.bools y_6), .row true (.trips y_7), .row true (.ints .i64 y_8), .row true (.ints .i64 y_9), .box [.sl 12, .sl 13], .row true (.ints .i64 y_30), .row true (.ints .i64 y_31), .box [.sl 15, .sl 16], .row true (.ints .i64 y_33), .row true (.bools y_34), .row true (.trips y_35), .box [.v (.int .i64 y_13), .sl 18, .sl 19, .sl 20], .row true (.ints .i64 y_38), .row true (.ints .i64 y_39), .box [.sl 22, .sl 23], .row true (.ints .i64 y_21), .row true (.ints .i64 y_22), .row true (.ints .i64 y_25), .row true (.bools y_26), .row true (.trips y_27)] 2 [22, 23] (k_laws_heldDisk y_38 y_39 1 (h := hr0)) ?_
            clear hr0
            refine awp_seq fun K20 hK20 => ?_
            refine awp_regS ftCOk [(2, .pp 5 0), (3, .pp 6 0), (6, .pp 14 0), (7, .v (.bool y_10)), (10, .pp 24 0), (13, .v (.int .i64 y_37)), (14, .v (.int .i64 y_40)), (90, .v (.bool (decide (y_40 < 0))))] ?_
            refine awp_cond (t := 90) rfl (fun hc21 => ?_) (fun hc21 => ?_)
            ·replace h := bite_t h hc21
             refine awp_regS ftCOk [(4, .v (.bool false))] ?_
             refine awp_ret ?_
             obtain rfl := Option.some.inj h
             exact finQ [0, 1, 2, 3, 4]
            ·replace h := bite_f h hc21
             refine awp_skip ?_
             refine hK20 _ _ ?_
             clear hK20
             refine awp_seq fun K23 hK23 => ?_
             refine awp_regS ftCOk [(2, .pp 5 0), (3, .pp 6 0), (6, .pp 14 0), (7, .v (.bool y_10)), (10, .pp 24 0), (13, .v (.int .i64 y_37)), (93, .v (.bool (y_40 != y_37)))] ?_
             refine awp_cond (t := 93) rfl (fun hc24 => ?_) (fun hc24 => ?_)
             ·replace h := bite_t h hc24
              refine awp_regS ftCOk [(4, .v (.bool false))] ?_
              refine awp_ret ?_
              obtain rfl := Option.some.inj h
              exact finQ [0, 1, 2, 3, 4]
             ·replace h := bite_f h hc24
              refine awp_skip ?_
              refine hK23 _ _ ?_
              clear hK23
              replace ⟨⟨y_41, y_42⟩, hr0, h⟩ := bind_some h
              try dsimp only at h
              replace ⟨⟨y_43, y_44, y_45, y_46⟩, hr1, h⟩ := bind_some h
              try dsimp only at h
              replace ⟨⟨y_47, y_48, y_49⟩, hr2, h⟩ := bind_some h
              try dsimp only at h
              refine awp_to [(6, .pp 14 0), (7, .v (.bool y_10)), (10, .pp 24 0), (13, .v (.int .i64 y_37)), (15, .pp 37 0), (16, .v (.bool y_49))] [.row false (.ints .i64 a0_0), .row false (.ints .i64 a0_1), .row false (.ints .i64 a1_1), .row false (.bools a1_2), .row false (.trips a1_3), .rbox [.sl 0, .sl 1], .rbox [.v (.int .i64 a1_0), .sl 2, .sl 3, .sl 4], .row true (.ints .i64 y_2), .row true (.ints .i64 y_3), .row true (.ints .i64 y_5), .row true (.bools y_6), .row true (.trips y_7), .row true (.ints .i64 y_8), .row true (.ints .i64 y_9), .box [.sl 12, .sl 13], .row true (.ints .i64 y_30), .row true (.ints .i64 y_31), .box [.sl 15, .sl 16], .row true (.ints .i64 y_33), .row true (.bools y_34), .row true (.trips y_35), .box [.v (.int .i64 y_13), .sl 18, .sl 19, .sl 20], .row true (.ints .i64 y_38), .row true (.ints .i64 y_39), .box [.sl 22, .sl 23], .row true (.ints .i64 y_21), .row true (.ints .i64 y_22), .row true (.ints .i64 y_25), .row true (.bools y_26), .row true (.trips y_27), .row true (.ints .i64 y_41), .row true (.ints .i64 y_42), .row true (.ints .i64 y_44), .row true (.bools y_45), .row true (.trips y_46), .row true (.ints .i64 y_47), .row true (.ints .i64 y_48), .box [.sl 35, .sl 36]] ?_ ?_
              ·clear h
               intro K hK
               refine awp_drawL [0, 1, 2, 3, 4, 5, 6, 7, 8, 9, 10, 11, 12, 13, 14, 15, 16, 17, 18, 19, 20, 21, 22, 23, 24, 25, 26, 27, 28, 29] [0, 2] 9 #[true, false, true, false, false, false, false, false, false, false, false] mixed ftCOk (by kernel_rfl) (by first | rfl | kernel_rfl) (by rfl) (by simp) fun L hL => ?_
               have n6 : L 0 #[true, true, true, true, true, true, true, true, true, true, true] [(2, .pp 5 0), (3, .pp 6 0), (6, .pp 14 0), (7, .v (.bool y_10)), (10, .pp 24 0), (13, .v (.int .i64 y_37)), (15, .pp 37 0), (16, .v (.bool y_49)), (93, .v (.bool (y_40 != y_37))), (94, .tup [.agg [.sl 35, .sl 36], .v (.bool y_49)]), (95, .agg [.sl 0, .sl 1]), (96, .agg [.sl 30, .sl 31]), (97, .agg [.v (.int .i64 a1_0), .sl 2, .sl 3, .sl 4]), (98, .agg [.v (.int .i64 y_43), .sl 32, .sl 33, .sl 34]), (99, .tup [.agg [.sl 35, .sl 36], .v (.bool y_49)]), (100, .agg [.sl 35, .sl 36]), (101, .v (.bool y_49))] [.row false (.ints .i64 a0_0), .row false (.ints .i64 a0_1), .row false (.ints .i64 a1_1), .row false (.bools a1_2), .row false (.trips a1_3), .rbox [.sl 0, .sl 1], .rbox [.v (.int .i64 a1_0), .sl 2, .sl 3, .sl 4], .row true (.ints .i64 y_2), .row true (.ints .i64 y_3), .row true (.ints .i64 y_5), .row true (.bools y_6), .row true (.trips y_7), .row true (.ints .i64 y_8), .row true (.ints .i64 y_9), .box [.sl 12, .sl 13], .row true (.ints .i64 y_30), .row true (.ints .i64 y_31), .box [.sl 15, .sl 16], .row true (.ints .i64 y_33), .row true (.bools y_34), .row true (.trips y_35), .box [.v (.int .i64 y_13), .sl 18, .sl 19, .sl 20], .row true (.ints .i64 y_38), .row true (.ints .i64 y_39), .box [.sl 22, .sl 23], .row true (.ints .i64 y_21), .row true (.ints .i64 y_22), .row true (.ints .i64 y_25), .row true (.bools y_26), .row true (.trips y_27), .row true (.ints .i64 y_41), .row true (.ints .i64 y_42), .row true (.ints .i64 y_44), .row true (.bools y_45), .row true (.trips y_46), .row true (.ints .i64 y_47), .row true (.ints .i64 y_48), .box [.sl 35, .sl 36]] := by
                exact hL.fin (by kernel_rfl) (hK _ _ Red.auto)
               have n5 : L 2 #[true, true, true, true, true, true, true, true, true, false, false] [(2, .pp 5 0), (3, .pp 6 0), (6, .pp 14 0), (7, .v (.bool y_10)), (10, .pp 24 0), (13, .v (.int .i64 y_37)), (15, .pp 37 0), (93, .v (.bool (y_40 != y_37))), (94, .tup [.agg [.sl 35, .sl 36], .v (.bool y_49)]), (95, .agg [.sl 0, .sl 1]), (96, .agg [.sl 30, .sl 31]), (97, .agg [.v (.int .i64 a1_0), .sl 2, .sl 3, .sl 4]), (98, .agg [.v (.int .i64 y_43), .sl 32, .sl 33, .sl 34]), (99, .tup [.agg [.sl 35, .sl 36], .v (.bool y_49)]), (100, .agg [.sl 35, .sl 36]), (101, .v (.bool y_49))] [.row false (.ints .i64 a0_0), .row false (.ints .i64 a0_1), .row false (.ints .i64 a1_1), .row false (.bools a1_2), .row false (.trips a1_3), .rbox [.sl 0, .sl 1], .rbox [.v (.int .i64 a1_0), .sl 2, .sl 3, .sl 4], .row true (.ints .i64 y_2), .row true (.ints .i64 y_3), .row true (.ints .i64 y_5), .row true (.bools y_6), .row true (.trips y_7), .row true (.ints .i64 y_8), .row true (.ints .i64 y_9), .box [.sl 12, .sl 13], .row true (.ints .i64 y_30), .row true (.ints .i64 y_31), .box [.sl 15, .sl 16], .row true (.ints .i64 y_33), .row true (.bools y_34), .row true (.trips y_35), .box [.v (.int .i64 y_13), .sl 18, .sl 19, .sl 20], .row true (.ints .i64 y_38), .row true (.ints .i64 y_39), .box [.sl 22, .sl 23], .row true (.ints .i64 y_21), .row true (.ints .i64 y_22), .row true (.ints .i64 y_25), .row true (.bools y_26), .row true (.trips y_27), .row true (.ints .i64 y_41), .row true (.ints .i64 y_42), .row true (.ints .i64 y_44), .row true (.bools y_45), .row true (.trips y_46), .row true (.ints .i64 y_47), .row true (.ints .i64 y_48), .box [.v (.slice none 0 0), .v (.slice none 0 0)]] := by
                refine hL.step [(9, [10], 0, #[true, true, true, true, true, true, true, true, true, true, true])] (by kernel_rfl) ⟨?_, trivial⟩
                ·exact hL.edge n6
               have n4 : L 3 #[true, true, true, true, true, true, true, true, false, false, false] [(2, .pp 5 0), (3, .pp 6 0), (6, .pp 14 0), (7, .v (.bool y_10)), (10, .pp 24 0), (13, .v (.int .i64 y_37)), (93, .v (.bool (y_40 != y_37))), (94, .tup [.agg [.sl 35, .sl 36], .v (.bool y_49)]), (95, .agg [.sl 0, .sl 1]), (96, .agg [.sl 30, .sl 31]), (97, .agg [.v (.int .i64 a1_0), .sl 2, .sl 3, .sl 4]), (98, .agg [.v (.int .i64 y_43), .sl 32, .sl 33, .sl 34]), (99, .tup [.agg [.sl 35, .sl 36], .v (.bool y_49)]), (100, .agg [.sl 35, .sl 36]), (101, .v (.bool y_49))] [.row false (.ints .i64 a0_0), .row false (.ints .i64 a0_1), .row false (.ints .i64 a1_1), .row false (.bools a1_2), .row false (.trips a1_3), .rbox [.sl 0, .sl 1], .rbox [.v (.int .i64 a1_0), .sl 2, .sl 3, .sl 4], .row true (.ints .i64 y_2), .row true (.ints .i64 y_3), .row true (.ints .i64 y_5), .row true (.bools y_6), .row true (.trips y_7), .row true (.ints .i64 y_8), .row true (.ints .i64 y_9), .box [.sl 12, .sl 13], .row true (.ints .i64 y_30), .row true (.ints .i64 y_31), .box [.sl 15, .sl 16], .row true (.ints .i64 y_33), .row true (.bools y_34), .row true (.trips y_35), .box [.v (.int .i64 y_13), .sl 18, .sl 19, .sl 20], .row true (.ints .i64 y_38), .row true (.ints .i64 y_39), .box [.sl 22, .sl 23], .row true (.ints .i64 y_21), .row true (.ints .i64 y_22), .row true (.ints .i64 y_25), .row true (.bools y_26), .row true (.trips y_27), .row true (.ints .i64 y_41), .row true (.ints .i64 y_42), .row true (.ints .i64 y_44), .row true (.bools y_45), .row true (.trips y_46), .row true (.ints .i64 y_47), .row true (.ints .i64 y_48)] := by
                refine hL.step [(8, [], 2, #[true, true, true, true, true, true, true, true, true, false, false])] (by kernel_rfl) ⟨?_, trivial⟩
                ·exact hL.edge n5
               have n7 : L 5 #[true, true, true, true, true, false, false, false, true, false, false] [(2, .pp 5 0), (3, .pp 6 0), (6, .pp 14 0), (7, .v (.bool y_10)), (10, .pp 24 0), (13, .v (.int .i64 y_37)), (15, .pp 37 0), (93, .v (.bool (y_40 != y_37))), (95, .agg [.sl 0, .sl 1]), (96, .agg [.sl 30, .sl 31]), (97, .agg [.v (.int .i64 a1_0), .sl 2, .sl 3, .sl 4]), (98, .agg [.v (.int .i64 y_43), .sl 32, .sl 33, .sl 34]), (99, .tup [.agg [.sl 35, .sl 36], .v (.bool y_49)])] [.row false (.ints .i64 a0_0), .row false (.ints .i64 a0_1), .row false (.ints .i64 a1_1), .row false (.bools a1_2), .row false (.trips a1_3), .rbox [.sl 0, .sl 1], .rbox [.v (.int .i64 a1_0), .sl 2, .sl 3, .sl 4], .row true (.ints .i64 y_2), .row true (.ints .i64 y_3), .row true (.ints .i64 y_5), .row true (.bools y_6), .row true (.trips y_7), .row true (.ints .i64 y_8), .row true (.ints .i64 y_9), .box [.sl 12, .sl 13], .row true (.ints .i64 y_30), .row true (.ints .i64 y_31), .box [.sl 15, .sl 16], .row true (.ints .i64 y_33), .row true (.bools y_34), .row true (.trips y_35), .box [.v (.int .i64 y_13), .sl 18, .sl 19, .sl 20], .row true (.ints .i64 y_38), .row true (.ints .i64 y_39), .box [.sl 22, .sl 23], .row true (.ints .i64 y_21), .row true (.ints .i64 y_22), .row true (.ints .i64 y_25), .row true (.bools y_26), .row true (.trips y_27), .row true (.ints .i64 y_41), .row true (.ints .i64 y_42), .row true (.ints .i64 y_44), .row true (.bools y_45), .row true (.trips y_46), .row true (.ints .i64 y_47), .row true (.ints .i64 y_48), .box [.v (.slice none 0 0), .v (.slice none 0 0)]] := by
                refine hL.step [(5, [6, 7], 2, #[true, true, true, true, true, true, true, true, true, false, false])] (by kernel_rfl) ⟨?_, trivial⟩
                ·exact hL.edge n5
               have n3 : L 6 #[true, true, true, true, true, false, false, false, false, false, false] [(2, .pp 5 0), (3, .pp 6 0), (6, .pp 14 0), (7, .v (.bool y_10)), (10, .pp 24 0), (13, .v (.int .i64 y_37)), (93, .v (.bool (y_40 != y_37))), (95, .agg [.sl 0, .sl 1]), (96, .agg [.sl 30, .sl 31]), (97, .agg [.v (.int .i64 a1_0), .sl 2, .sl 3, .sl 4]), (98, .agg [.v (.int .i64 y_43), .sl 32, .sl 33, .sl 34]), (99, .tup [.agg [.sl 35, .sl 36], .v (.bool y_49)])] [.row false (.ints .i64 a0_0), .row false (.ints .i64 a0_1), .row false (.ints .i64 a1_1), .row false (.bools a1_2), .row false (.trips a1_3), .rbox [.sl 0, .sl 1], .rbox [.v (.int .i64 a1_0), .sl 2, .sl 3, .sl 4], .row true (.ints .i64 y_2), .row true (.ints .i64 y_3), .row true (.ints .i64 y_5), .row true (.bools y_6), .row true (.trips y_7), .row true (.ints .i64 y_8), .row true (.ints .i64 y_9), .box [.sl 12, .sl 13], .row true (.ints .i64 y_30), .row true (.ints .i64 y_31), .box [.sl 15, .sl 16], .row true (.ints .i64 y_33), .row true (.bools y_34), .row true (.trips y_35), .box [.v (.int .i64 y_13), .sl 18, .sl 19, .sl 20], .row true (.ints .i64 y_38), .row true (.ints .i64 y_39), .box [.sl 22, .sl 23], .row true (.ints .i64 y_21), .row true (.ints .i64 y_22), .row true (.ints .i64 y_25), .row true (.bools y_26), .row true (.trips y_27), .row true (.ints .i64 y_41), .row true (.ints .i64 y_42), .row true (.ints .i64 y_44), .row true (.bools y_45), .row true (.trips y_46), .row true (.ints .i64 y_47), .row true (.ints .i64 y_48)] := by
                refine hL.step [(5, [6, 7], 3, #[true, true, true, true, true, true, true, true, false, false, false]), (8, [], 5, #[true, true, true, true, true, false, false, false, true, false, false])] (by kernel_rfl) ⟨?_, ?_, trivial⟩
                ·exact hL.edge n4
                ·exact hL.edge n7
               have n8 : L 6 #[true, true, true, true, false, false, false, false, true, false, false] [(2, .pp 5 0), (3, .pp 6 0), (6, .pp 14 0), (7, .v (.bool y_10)), (10, .pp 24 0), (13, .v (.int .i64 y_37)), (15, .pp 35 0), (93, .v (.bool (y_40 != y_37))), (95, .agg [.sl 0, .sl 1]), (96, .agg [.sl 30, .sl 31]), (97, .agg [.v (.int .i64 a1_0), .sl 2, .sl 3, .sl 4]), (98, .agg [.v (.int .i64 y_43), .sl 32, .sl 33, .sl 34])] [.row false (.ints .i64 a0_0), .row false (.ints .i64 a0_1), .row false (.ints .i64 a1_1), .row false (.bools a1_2), .row false (.trips a1_3), .rbox [.sl 0, .sl 1], .rbox [.v (.int .i64 a1_0), .sl 2, .sl 3, .sl 4], .row true (.ints .i64 y_2), .row true (.ints .i64 y_3), .row true (.ints .i64 y_5), .row true (.bools y_6), .row true (.trips y_7), .row true (.ints .i64 y_8), .row true (.ints .i64 y_9), .box [.sl 12, .sl 13], .row true (.ints .i64 y_30), .row true (.ints .i64 y_31), .box [.sl 15, .sl 16], .row true (.ints .i64 y_33), .row true (.bools y_34), .row true (.trips y_35), .box [.v (.int .i64 y_13), .sl 18, .sl 19, .sl 20], .row true (.ints .i64 y_38), .row true (.ints .i64 y_39), .box [.sl 22, .sl 23], .row true (.ints .i64 y_21), .row true (.ints .i64 y_22), .row true (.ints .i64 y_25), .row true (.bools y_26), .row true (.trips y_27), .row true (.ints .i64 y_41), .row true (.ints .i64 y_42), .row true (.ints .i64 y_44), .row true (.bools y_45), .row true (.trips y_46), .box [.v (.slice none 0 0), .v (.slice none 0 0)]] := by
                refine hL.step [(4, [], 5, #[true, true, true, true, true, false, false, false, true, false, false])] (by kernel_rfl) ⟨?_, trivial⟩
                ·simp (maxSteps := 4000000) only [go_sem, Nat.reduceBEq, Nat.reduceLT, Nat.reduceAdd, Nat.reduceLeDiff, Nat.reduceSub, Nat.reduceEqDiff, Int.reduceToNat, reduceCtorEq, ↓reduceIte]
                 repeat' (first | refine And.intro ?_ ?_ | intro hg)
                 all_goals (try simp (disch := omega) only [wrap_fits])
                 all_goals first
                  | (refine hL.red ?_ n7; exact Red.selA [0, 1, 2, 3, 4, 5, 6, 7, 8, 9, 10, 11, 12, 13, 14, 15, 16, 17, 18, 19, 20, 21, 22, 23, 24, 25, 26, 27, 28, 29, 30, 31, 32, 33, 34, 36, 37, 35] Red.auto)
                  | exact trivial
                  | assumption
                  | omega
                  | exact wrap_fits (by omega) (by omega)
                  | (refine OpK_callA (k_impl_SaveState y_41 y_42 y_43 y_44 y_45 y_46 (h := hr2)) [30, 31, 32, 33, 34] [] ?_
                     rintro x Hc' ⟨rfl, rfl⟩ hlen
                     simp (maxSteps := 4000000) only [go_sem, Nat.reduceBEq, Nat.reduceLT, Nat.reduceAdd, Nat.reduceLeDiff, Nat.reduceSub, Nat.reduceEqDiff, Int.reduceToNat, reduceCtorEq, ↓reduceIte]
                     repeat' (first | refine And.intro ?_ ?_ | intro hg)
                     all_goals (try simp (disch := omega) only [wrap_fits])
                     all_goals first | (refine hL.red ?_ n7; exact Red.selA [0, 1, 2, 3, 4, 5, 6, 7, 8, 9, 10, 11, 12, 13, 14, 15, 16, 17, 18, 19, 20, 21, 22, 23, 24, 25, 26, 27, 28, 29, 30, 31, 32, 33, 34, 36, 37, 35] Red.auto) | exact trivial | assumption | omega | exact wrap_fits (by omega) (by omega) | (simp_all; done) | (simp_all; omega))
                  | (simp (maxSteps := 4000000) only [go_sem, Nat.reduceBEq, Nat.reduceLT, Nat.reduceAdd, Nat.reduceLeDiff, Nat.reduceSub, Nat.reduceEqDiff, Int.reduceToNat, reduceCtorEq, ↓reduceIte]
                     repeat' (first | refine And.intro ?_ ?_ | intro hg)
                     all_goals (try simp (disch := omega) only [wrap_fits])
                     all_goals first | (refine hL.red ?_ n7; exact Red.selA [0, 1, 2, 3, 4, 5, 6, 7, 8, 9, 10, 11, 12, 13, 14, 15, 16, 17, 18, 19, 20, 21, 22, 23, 24, 25, 26, 27, 28, 29, 30, 31, 32, 33, 34, 36, 37, 35] Red.auto) | exact trivial | assumption | omega | exact wrap_fits (by omega) (by omega))
                  | (simp_all; done)
                  | (simp_all; omega)
               have n2 : L 7 #[true, true, true, true, false, false, false, false, false, false, false] [(2, .pp 5 0), (3, .pp 6 0), (6, .pp 14 0), (7, .v (.bool y_10)), (10, .pp 24 0), (13, .v (.int .i64 y_37)), (93, .v (.bool (y_40 != y_37))), (95, .agg [.sl 0, .sl 1]), (96, .agg [.sl 30, .sl 31]), (97, .agg [.v (.int .i64 a1_0), .sl 2, .sl 3, .sl 4]), (98, .agg [.v (.int .i64 y_43), .sl 32, .sl 33, .sl 34])] [.row false (.ints .i64 a0_0), .row false (.ints .i64 a0_1), .row false (.ints .i64 a1_1), .row false (.bools a1_2), .row false (.trips a1_3), .rbox [.sl 0, .sl 1], .rbox [.v (.int .i64 a1_0), .sl 2, .sl 3, .sl 4], .row true (.ints .i64 y_2), .row true (.ints .i64 y_3), .row true (.ints .i64 y_5), .row true (.bools y_6), .row true (.trips y_7), .row true (.ints .i64 y_8), .row true (.ints .i64 y_9), .box [.sl 12, .sl 13], .row true (.ints .i64 y_30), .row true (.ints .i64 y_31), .box [.sl 15, .sl 16], .row true (.ints .i64 y_33), .row true (.bools y_34), .row true (.trips y_35), .box [.v (.int .i64 y_13), .sl 18, .sl 19, .sl 20], .row true (.ints .i64 y_38), .row true (.ints .i64 y_39), .box [.sl 22, .sl 23], .row true (.ints .i64 y_21), .row true (.ints .i64 y_22), .row true (.ints .i64 y_25), .row true (.bools y_26), .row true (.trips y_27), .row true (.ints .i64 y_41), .row true (.ints .i64 y_42), .row true (.ints .i64 y_44), .row true (.bools y_45), .row true (.trips y_46)] := by
                refine hL.step [(4, [], 6, #[true, true, true, true, true, false, false, false, false, false, false]), (8, [], 6, #[true, true, true, true, false, false, false, false, true, false, false])] (by kernel_rfl) ⟨?_, ?_, trivial⟩
                ·simp (maxSteps := 4000000) only [go_sem, Nat.reduceBEq, Nat.reduceLT, Nat.reduceAdd, Nat.reduceLeDiff, Nat.reduceSub, Nat.reduceEqDiff, Int.reduceToNat, reduceCtorEq, ↓reduceIte]
                 repeat' (first | refine And.intro ?_ ?_ | intro hg)
                 all_goals (try simp (disch := omega) only [wrap_fits])
                 all_goals first
                  | (refine hL.red ?_ n3; exact Red.auto)
                  | exact trivial
                  | assumption
                  | omega
                  | exact wrap_fits (by omega) (by omega)
                  | (refine OpK_callA (k_impl_SaveState y_41 y_42 y_43 y_44 y_45 y_46 (h := hr2)) [30, 31, 32, 33, 34] [] ?_
                     rintro x Hc' ⟨rfl, rfl⟩ hlen
                     simp (maxSteps := 4000000) only [go_sem, Nat.reduceBEq, Nat.reduceLT, Nat.reduceAdd, Nat.reduceLeDiff, Nat.reduceSub, Nat.reduceEqDiff, Int.reduceToNat, reduceCtorEq, ↓reduceIte]
                     repeat' (first | refine And.intro ?_ ?_ | intro hg)
                     all_goals (try simp (disch := omega) only [wrap_fits])
                     all_goals first | (refine hL.red ?_ n3; exact Red.auto) | exact trivial | assumption | omega | exact wrap_fits (by omega) (by omega) | (simp_all; done) | (simp_all; omega))
                  | (simp (maxSteps := 4000000) only [go_sem, Nat.reduceBEq, Nat.reduceLT, Nat.reduceAdd, Nat.reduceLeDiff, Nat.reduceSub, Nat.reduceEqDiff, Int.reduceToNat, reduceCtorEq, ↓reduceIte]
                     repeat' (first | refine And.intro ?_ ?_ | intro hg)
                     all_goals (try simp (disch := omega) only [wrap_fits])
                     all_goals first | (refine hL.red ?_ n3; exact Red.auto) | exact trivial | assumption | omega | exact wrap_fits (by omega) (by omega))
                  | (simp_all; done)
                  | (simp_all; omega)
                ·exact hL.edge n8
               have n9 : L 7 #[true, true, true, false, false, false, false, false, true, false, false] [(2, .pp 5 0), (3, .pp 6 0), (6, .pp 14 0), (7, .v (.bool y_10)), (10, .pp 24 0), (13, .v (.int .i64 y_37)), (15, .pp 32 0), (93, .v (.bool (y_40 != y_37))), (95, .agg [.sl 0, .sl 1]), (96, .agg [.sl 30, .sl 31]), (97, .agg [.v (.int .i64 a1_0), .sl 2, .sl 3, .sl 4])] [.row false (.ints .i64 a0_0), .row false (.ints .i64 a0_1), .row false (.ints .i64 a1_1), .row false (.bools a1_2), .row false (.trips a1_3), .rbox [.sl 0, .sl 1], .rbox [.v (.int .i64 a1_0), .sl 2, .sl 3, .sl 4], .row true (.ints .i64 y_2), .row true (.ints .i64 y_3), .row true (.ints .i64 y_5), .row true (.bools y_6), .row true (.trips y_7), .row true (.ints .i64 y_8), .row true (.ints .i64 y_9), .box [.sl 12, .sl 13], .row true (.ints .i64 y_30), .row true (.ints .i64 y_31), .box [.sl 15, .sl 16], .row true (.ints .i64 y_33), .row true (.bools y_34), .row true (.trips y_35), .box [.v (.int .i64 y_13), .sl 18, .sl 19, .sl 20], .row true (.ints .i64 y_38), .row true (.ints .i64 y_39), .box [.sl 22, .sl 23], .row true (.ints .i64 y_21), .row true (.ints .i64 y_22), .row true (.ints .i64 y_25), .row true (.bools y_26), .row true (.trips y_27), .row true (.ints .i64 y_41), .row true (.ints .i64 y_42), .box [.v (.slice none 0 0), .v (.slice none 0 0)]] := by
                refine hL.step [(3, [], 6, #[true, true, true, true, false, false, false, false, true, false, false])] (by kernel_rfl) ⟨?_, trivial⟩
                ·simp (maxSteps := 4000000) only [go_sem, Nat.reduceBEq, Nat.reduceLT, Nat.reduceAdd, Nat.reduceLeDiff, Nat.reduceSub, Nat.reduceEqDiff, Int.reduceToNat, reduceCtorEq, ↓reduceIte]
                 repeat' (first | refine And.intro ?_ ?_ | intro hg)
                 all_goals (try simp (disch := omega) only [wrap_fits])
                 all_goals first
                  | (refine hL.red ?_ n8; exact Red.selA [0, 1, 2, 3, 4, 5, 6, 7, 8, 9, 10, 11, 12, 13, 14, 15, 16, 17, 18, 19, 20, 21, 22, 23, 24, 25, 26, 27, 28, 29, 30, 31, 33, 34, 35, 32] Red.auto)
                  | exact trivial
                  | assumption
                  | omega
                  | exact wrap_fits (by omega) (by omega)
                  | (refine OpK_callA (k_laws_toState a1_0 a1_1 a1_2 a1_3 (h := hr1)) [2, 3, 4] [] ?_
                     rintro x Hc' ⟨rfl, rfl⟩ hlen
                     simp (maxSteps := 4000000) only [go_sem, Nat.reduceBEq, Nat.reduceLT, Nat.reduceAdd, Nat.reduceLeDiff, Nat.reduceSub, Nat.reduceEqDiff, Int.reduceToNat, reduceCtorEq, ↓reduceIte]
                     repeat' (first | refine And.intro ?_ ?_ | intro hg)
                     all_goals (try simp (disch := omega) only [wrap_fits])
                     all_goals first | (refine hL.red ?_ n8; exact Red.selA [0, 1, 2, 3, 4, 5, 6, 7, 8, 9, 10, 11, 12, 13, 14, 15, 16, 17, 18, 19, 20, 21, 22, 23, 24, 25, 26, 27, 28, 29, 30, 31, 33, 34, 35, 32] Red.auto) | exact trivial | assumption | omega | exact wrap_fits (by omega) (by omega) | (simp_all; done) | (simp_all; omega))
                  | (simp (maxSteps := 4000000) only [go_sem, Nat.reduceBEq, Nat.reduceLT, Nat.reduceAdd, Nat.reduceLeDiff, Nat.reduceSub, Nat.reduceEqDiff, Int.reduceToNat, reduceCtorEq, ↓reduceIte]
                     repeat' (first | refine And.intro ?_ ?_ | intro hg)
                     all_goals (try simp (disch := omega) only [wrap_fits])
                     all_goals first | (refine hL.red ?_ n8; exact Red.selA [0, 1, 2, 3, 4, 5, 6, 7, 8, 9, 10, 11, 12, 13, 14, 15, 16, 17, 18, 19, 20, 21, 22, 23, 24, 25, 26, 27, 28, 29, 30, 31, 33, 34, 35, 32] Red.auto) | exact trivial | assumption | omega | exact wrap_fits (by omega) (by omega))
                  | (simp_all; done)
                  | (simp_all; omega)
               have n1 : L 8 #[true, true, true, false, false, false, false, false, false, false, false] [(2, .pp 5 0), (3, .pp 6 0), (6, .pp 14 0), (7, .v (.bool y_10)), (10, .pp 24 0), (13, .v (.int .i64 y_37)), (93, .v (.bool (y_40 != y_37))), (95, .agg [.sl 0, .sl 1]), (96, .agg [.sl 30, .sl 31]), (97, .agg [.v (.int .i64 a1_0), .sl 2, .sl 3, .sl 4])] [.row false (.ints .i64 a0_0), .row false (.ints .i64 a0_1), .row false (.ints .i64 a1_1), .row false (.bools a1_2), .row false (.trips a1_3), .rbox [.sl 0, .sl 1], .rbox [.v (.int .i64 a1_0), .sl 2, .sl 3, .sl 4], .row true (.ints .i64 y_2), .row true (.ints .i64 y_3), .row true (.ints .i64 y_5), .row true (.bools y_6), .row true (.trips y_7), .row true (.ints .i64 y_8), .row true (.ints .i64 y_9), .box [.sl 12, .sl 13], .row true (.ints .i64 y_30), .row true (.ints .i64 y_31), .box [.sl 15, .sl 16], .row true (.ints .i64 y_33), .row true (.bools y_34), .row true (.trips y_35), .box [.v (.int .i64 y_13), .sl 18, .sl 19, .sl 20], .row true (.ints .i64 y_38), .row true (.ints .i64 y_39), .box [.sl 22, .sl 23], .row true (.ints .i64 y_21), .row true (.ints .i64 y_22), .row true (.ints .i64 y_25), .row true (.bools y_26), .row true (.trips y_27), .row true (.ints .i64 y_41), .row true (.ints .i64 y_42)] := by
                refine hL.step [(3, [], 7, #[true, true, true, true, false, false, false, false, false, false, false]), (8, [], 7, #[true, true, true, false, false, false, false, false, true, false, false])] (by kernel_rfl) ⟨?_, ?_, trivial⟩
                ·simp (maxSteps := 4000000) only [go_sem, Nat.reduceBEq, Nat.reduceLT, Nat.reduceAdd, Nat.reduceLeDiff, Nat.reduceSub, Nat.reduceEqDiff, Int.reduceToNat, reduceCtorEq, ↓reduceIte]
                 repeat' (first | refine And.intro ?_ ?_ | intro hg)
                 all_goals (try simp (disch := omega) only [wrap_fits])
                 all_goals first
                  | (refine hL.red ?_ n2; exact Red.auto)
                  | exact trivial
                  | assumption
                  | omega
                  | exact wrap_fits (by omega) (by omega)
                  | (refine OpK_callA (k_laws_toState a1_0 a1_1 a1_2 a1_3 (h := hr1)) [2, 3, 4] [] ?_
                     rintro x Hc' ⟨rfl, rfl⟩ hlen
                     simp (maxSteps := 4000000) only [go_sem, Nat.reduceBEq, Nat.reduceLT, Nat.reduceAdd, Nat.reduceLeDiff, Nat.reduceSub, Nat.reduceEqDiff, Int.reduceToNat, reduceCtorEq, ↓reduceIte]
                     repeat' (first | refine And.intro ?_ ?_ | intro hg)
                     all_goals (try simp (disch := omega) only [wrap_fits])
                     all_goals first | (refine hL.red ?_ n2; exact Red.auto) | exact trivial | assumption | omega | exact wrap_fits (by omega) (by omega) | (simp_all; done) | (simp_all; omega))
                  | (simp (maxSteps := 4000000) only [go_sem, Nat.reduceBEq, Nat.reduceLT, Nat.reduceAdd, Nat.reduceLeDiff, Nat.reduceSub, Nat.reduceEqDiff, Int.reduceToNat, reduceCtorEq, ↓reduceIte]
                     repeat' (first | refine And.intro ?_ ?_ | intro hg)
                     all_goals (try simp (disch := omega) only [wrap_fits])
                     all_goals first | (refine hL.red ?_ n2; exact Red.auto) | exact trivial | assumption | omega | exact wrap_fits (by omega) (by omega))
                  | (simp_all; done)
                  | (simp_all; omega)
                ·exact hL.edge n9
               have n10 : L 8 #[true, false, true, false, false, false, false, false, true, false, false] [(2, .pp 5 0), (3, .pp 6 0), (6, .pp 14 0), (7, .v (.bool y_10)), (10, .pp 24 0), (13, .v (.int .i64 y_37)), (15, .pp 30 0), (93, .v (.bool (y_40 != y_37))), (95, .agg [.sl 0, .sl 1]), (97, .agg [.v (.int .i64 a1_0), .sl 2, .sl 3, .sl 4])] [.row false (.ints .i64 a0_0), .row false (.ints .i64 a0_1), .row false (.ints .i64 a1_1), .row false (.bools a1_2), .row false (.trips a1_3), .rbox [.sl 0, .sl 1], .rbox [.v (.int .i64 a1_0), .sl 2, .sl 3, .sl 4], .row true (.ints .i64 y_2), .row true (.ints .i64 y_3), .row true (.ints .i64 y_5), .row true (.bools y_6), .row true (.trips y_7), .row true (.ints .i64 y_8), .row true (.ints .i64 y_9), .box [.sl 12, .sl 13], .row true (.ints .i64 y_30), .row true (.ints .i64 y_31), .box [.sl 15, .sl 16], .row true (.ints .i64 y_33), .row true (.bools y_34), .row true (.trips y_35), .box [.v (.int .i64 y_13), .sl 18, .sl 19, .sl 20], .row true (.ints .i64 y_38), .row true (.ints .i64 y_39), .box [.sl 22, .sl 23], .row true (.ints .i64 y_21), .row true (.ints .i64 y_22), .row true (.ints .i64 y_25), .row true (.bools y_26), .row true (.trips y_27), .box [.v (.slice none 0 0), .v (.slice none 0 0)]] := by
                refine hL.step [(1, [], 7, #[true, true, true, false, false, false, false, false, true, false, false])] (by kernel_rfl) ⟨?_, trivial⟩
                ·simp (maxSteps := 4000000) only [go_sem, Nat.reduceBEq, Nat.reduceLT, Nat.reduceAdd, Nat.reduceLeDiff, Nat.reduceSub, Nat.reduceEqDiff, Int.reduceToNat, reduceCtorEq, ↓reduceIte]
                 repeat' (first | refine And.intro ?_ ?_ | intro hg)
                 all_goals (try simp (disch := omega) only [wrap_fits])
                 all_goals first
                  | (refine hL.red ?_ n9; exact Red.selA [0, 1, 2, 3, 4, 5, 6, 7, 8, 9, 10, 11, 12, 13, 14, 15, 16, 17, 18, 19, 20, 21, 22, 23, 24, 25, 26, 27, 28, 29, 31, 32, 30] Red.auto)
                  | exact trivial
                  | assumption
                  | omega
                  | exact wrap_fits (by omega) (by omega)
                  | (refine OpK_callA (k_laws_toDisk a0_0 a0_1 (h := hr0)) [0, 1] [] ?_
                     rintro x Hc' ⟨rfl, rfl⟩ hlen
                     simp (maxSteps := 4000000) only [go_sem, Nat.reduceBEq, Nat.reduceLT, Nat.reduceAdd, Nat.reduceLeDiff, Nat.reduceSub, Nat.reduceEqDiff, Int.reduceToNat, reduceCtorEq, ↓reduceIte]
                     repeat' (first | refine And.intro ?_ ?_ | intro hg)
                     all_goals (try simp (disch := omega) only [wrap_fits])
                     all_goals first | (refine hL.red ?_ n9; exact Red.selA [0, 1, 2, 3, 4, 5, 6, 7, 8, 9, 10, 11, 12, 13, 14, 15, 16, 17, 18, 19, 20, 21, 22, 23, 24, 25, 26, 27, 28, 29, 31, 32, 30] Red.auto) | exact trivial | assumption | omega | exact wrap_fits (by omega) (by omega) | (simp_all; done) | (simp_all; omega))
                  | (simp (maxSteps := 4000000) only [go_sem, Nat.reduceBEq, Nat.reduceLT, Nat.reduceAdd, Nat.reduceLeDiff, Nat.reduceSub, Nat.reduceEqDiff, Int.reduceToNat, reduceCtorEq, ↓reduceIte]
                     repeat' (first | refine And.intro ?_ ?_ | intro hg)
                     all_goals (try simp (disch := omega) only [wrap_fits])
                     all_goals first | (refine hL.red ?_ n9; exact Red.selA [0, 1, 2, 3, 4, 5, 6, 7, 8, 9, 10, 11, 12, 13, 14, 15, 16, 17, 18, 19, 20, 21, 22, 23, 24, 25, 26, 27, 28, 29, 31, 32, 30] Red.auto) | exact trivial | assumption | omega | exact wrap_fits (by omega) (by omega))
                  | (simp_all; done)
                  | (simp_all; omega)
               have n0 : L 9 #[true, false, true, false, false, false, false, false, false, false, false] [(2, .pp 5 0), (3, .pp 6 0), (6, .pp 14 0), (7, .v (.bool y_10)), (10, .pp 24 0), (13, .v (.int .i64 y_37)), (93, .v (.bool (y_40 != y_37))), (95, .agg [.sl 0, .sl 1]), (97, .agg [.v (.int .i64 a1_0), .sl 2, .sl 3, .sl 4])] [.row false (.ints .i64 a0_0), .row false (.ints .i64 a0_1), .row false (.ints .i64 a1_1), .row false (.bools a1_2), .row false (.trips a1_3), .rbox [.sl 0, .sl 1], .rbox [.v (.int .i64 a1_0), .sl 2, .sl 3, .sl 4], .row true (.ints .i64 y_2), .row true (.ints .i64 y_3), .row true (.ints .i64 y_5), .row true (.bools y_6), .row true (.trips y_7), .row true (.ints .i64 y_8), .row true (.ints .i64 y_9), .box [.sl 12, .sl 13], .row true (.ints .i64 y_30), .row true (.ints .i64 y_31), .box [.sl 15, .sl 16], .row true (.ints .i64 y_33), .row true (.bools y_34), .row true (.trips y_35), .box [.v (.int .i64 y_13), .sl 18, .sl 19, .sl 20], .row true (.ints .i64 y_38), .row true (.ints .i64 y_39), .box [.sl 22, .sl 23], .row true (.ints .i64 y_21), .row true (.ints .i64 y_22), .row true (.ints .i64 y_25), .row true (.bools y_26), .row true (.trips y_27)] := by
                refine hL.step [(1, [], 8, #[true, true, true, false, false, false, false, false, false, false, false]), (8, [], 8, #[true, false, true, false, false, false, false, false, true, false, false])] (by kernel_rfl) ⟨?_, ?_, trivial⟩
                ·simp (maxSteps := 4000000) only [go_sem, Nat.reduceBEq, Nat.reduceLT, Nat.reduceAdd, Nat.reduceLeDiff, Nat.reduceSub, Nat.reduceEqDiff, Int.reduceToNat, reduceCtorEq, ↓reduceIte]
                 repeat' (first | refine And.intro ?_ ?_ | intro hg)
                 all_goals (try simp (disch := omega) only [wrap_fits])
                 all_goals first
                  | (refine hL.red ?_ n1; exact Red.auto)
                  | exact trivial
                  | assumption
                  | omega
                  | exact wrap_fits (by omega) (by omega)
                  | (refine OpK_callA (k_laws_toDisk a0_0 a0_1 (h := hr0)) [0, 1] [] ?_
                     rintro x Hc' ⟨rfl, rfl⟩ hlen
                     simp (maxSteps := 4000000) only [go_sem, Nat.reduceBEq, Nat.reduceLT, Nat.reduceAdd, Nat.reduceLeDiff, Nat.reduceSub, Nat.reduceEqDiff, Int.reduceToNat, reduceCtorEq, ↓reduceIte]
                     repeat' (first | refine And.intro ?_ ?_ | intro hg)
                     all_goals (try simp (disch := omega) only [wrap_fits])
                     all_goals first | (refine hL.red ?_ n1; exact Red.auto) | exact trivial | assumption | omega | exact wrap_fits (by omega) (by omega) | (simp_all; done) | (simp_all; omega))
                  | (simp (maxSteps := 4000000) only [go_sem, Nat.reduceBEq, Nat.reduceLT, Nat.reduceAdd, Nat.reduceLeDiff, Nat.reduceSub, Nat.reduceEqDiff, Int.reduceToNat, reduceCtorEq, ↓reduceIte]
                     repeat' (first | refine And.intro ?_ ?_ | intro hg)
                     all_goals (try simp (disch := omega) only [wrap_fits])
                     all_goals first | (refine hL.red ?_ n1; exact Red.auto) | exact trivial | assumption | omega | exact wrap_fits (by omega) (by omega))
                  | (simp_all; done)
                  | (simp_all; omega)
                ·exact hL.edge n10
               simp (maxSteps := 4000000) only [go_sem, Nat.reduceBEq, Nat.reduceLT, Nat.reduceAdd, Nat.reduceLeDiff, Nat.reduceSub, Nat.reduceEqDiff, Int.reduceToNat, reduceCtorEq, ↓reduceIte]
               repeat' (first | refine And.intro ?_ ?_ | intro hg)
               all_goals (try simp (disch := omega) only [wrap_fits])
               all_goals first
                | (refine hL.red ?_ n0; exact Red.auto)
                | exact trivial
                | assumption
                | omega
                | exact wrap_fits (by omega) (by omega)
                | (simp (maxSteps := 4000000) only [go_sem, Nat.reduceBEq, Nat.reduceLT, Nat.reduceAdd, Nat.reduceLeDiff, Nat.reduceSub, Nat.reduceEqDiff, Int.reduceToNat, reduceCtorEq, ↓reduceIte]
                   repeat' (first | refine And.intro ?_ ?_ | intro hg)
                   all_goals (try simp (disch := omega) only [wrap_fits])
                   all_goals first | (refine hL.red ?_ n0; exact Red.auto) | exact trivial | assumption | omega | exact wrap_fits (by omega) (by omega))
                | (simp_all; done)
                | (simp_all; omega)
              ·clear hr0 hr1 hr2
               refine awp_seq fun K26 hK26 => ?_
               replace ⟨y_50, hr0, h⟩ := bind_some h
               refine awp_to [(10, .pp 24 0), (13, .v (.int .i64 y_37)), (110, .v (.bool ((!y_50) || (!(y_49 == y_10)))))] [.row false (.ints .i64 a0_0), .row false (.ints .i64 a0_1), .row false (.ints .i64 a1_1), .row false (.bools a1_2), .row false (.trips a1_3), .rbox [.sl 0, .sl 1], .rbox [.v (.int .i64 a1_0), .sl 2, .sl 3, .sl 4], .row true (.ints .i64 y_2), .row true (.ints .i64 y_3), .row true (.ints .i64 y_5), .row true (.bools y_6), .row true (.trips y_7), .row true (.ints .i64 y_8), .row true (.ints .i64 y_9), .box [.sl 12, .sl 13], .row true (.ints .i64 y_30), .row true (.ints .i64 y_31), .box [.sl 15, .sl 16], .row true (.ints .i64 y_33), .row true (.bools y_34), .row true (.trips y_35), .box [.v (.int .i64 y_13), .sl 18, .sl 19, .sl 20], .row true (.ints .i64 y_38), .row true (.ints .i64 y_39), .box [.sl 22, .sl 23], .row true (.ints .i64 y_21), .row true (.ints .i64 y_22), .row true (.ints .i64 y_25), .row true (.bools y_26), .row true (.trips y_27), .row true (.ints .i64 y_41), .row true (.ints .i64 y_42), .row true (.ints .i64 y_44), .row true (.bools y_45), .row true (.trips y_46), .row true (.ints .i64 y_47), .row true (.ints .i64 y_48), .box [.sl 35, .sl 36]] ?_ ?_
               ·clear h
                intro K hK
                refine awp_region ftCOk ?_
                simp (maxSteps := 4000000) only [go_sem, Nat.reduceBEq, Nat.reduceLT, Nat.reduceAdd, Nat.reduceLeDiff, Nat.reduceSub, Nat.reduceEqDiff, Int.reduceToNat, reduceCtorEq, ↓reduceIte]
                repeat' (first | refine And.intro ?_ ?_ | intro hg)
                all_goals (try simp (disch := omega) only [wrap_fits])
                all_goals first
                 | (refine hK _ _ ?_; exact Red.auto)
                 | exact trivial
                 | assumption
                 | omega
                 | exact wrap_fits (by omega) (by omega)
                 | (refine wpA_callA (k_laws_eqDisk y_47 y_48 y_8 y_9 (h := hr0)) [35, 36, 12, 13] [] ?_
                    rintro x Hc' ⟨rfl, rfl⟩ hlen
                    refine vcOps_sound ftCOk ?_
                    simp (maxSteps := 4000000) only [go_sem, Nat.reduceBEq, Nat.reduceLT, Nat.reduceAdd, Nat.reduceLeDiff, Nat.reduceSub, Nat.reduceEqDiff, Int.reduceToNat, reduceCtorEq, ↓reduceIte]
                    repeat' (first | refine And.intro ?_ ?_ | intro hg)
                    all_goals (try simp (disch := omega) only [wrap_fits])
                    all_goals first | (refine hK _ _ ?_; exact Red.auto) | exact trivial | assumption | omega | exact wrap_fits (by omega) (by omega) | (simp_all; done) | (simp_all; omega))
                 | (simp_all; done)
                 | (simp_all; omega)
               ·clear hr0
                refine awp_cond (t := 110) rfl (fun hc27 => ?_) (fun hc27 => ?_)
                ·replace h := bite_t h hc27
                 refine awp_regS ftCOk [(4, .v (.bool false))] ?_
                 refine awp_ret ?_
                 obtain rfl := Option.some.inj h
                 exact finQ [0, 1, 2, 3, 4]
                ·replace h := bite_f h hc27
                 refine awp_skip ?_
                 refine hK26 _ _ ?_
                 clear hK26
                 refine awp_regS ftCOk [(10, .pp 24 0), (13, .v (.int .i64 y_37)), (14, .v (.int .i64 1))] ?_
                 replace ⟨y_51, hr0, h⟩ := bind_some h
                 refine awp_regC ftCOk [(13, .v (.int .i64 y_37)), (14, .v (.int .i64 y_51))] [.row false (.ints .i64 a0_0), .row false (.ints .i64 a0_1), .row false (.ints .i64 a1_1), .row false (.bools a1_2), .row false (.trips a1_3), .rbox [.sl 0, .sl 1], .rbox [.v (.int .i64 a1_0), .sl 2, .sl 3, .sl 4], .row true (.ints .i64 y_2), .row true (.ints .i64 y_3), .row true (.ints .i64 y_5), .row true (.bools y_6), .row true (.trips y_7), .row true (.ints .i64 y_8), .row true (.ints .i64 y_9), .box [.sl 12, .sl 13], .row true (.ints .i64 y_30), .row true (.ints .i64 y_31), .box [.sl 15, .sl 16], .row true (.ints .i64 y_33), .row true (.bools y_34), .row true (.trips y_35), .box [.v (.int .i64 y_13), .sl 18, .sl 19, .sl 20], .row true (.ints .i64 y_38), .row true (.ints .i64 y_39), .box [.sl 22, .sl 23], .row true (.ints .i64 y_21), .row true (.ints .i64 y_22), .row true (.ints .i64 y_25), .row true (.bools y_26), .row true (.trips y_27), .row true (.ints .i64 y_41), .row true (.ints .i64 y_42), .row true (.ints .i64 y_44), .row true (.bools y_45), .row true (.trips y_46), .row true (.ints .i64 y_47), .row true (.ints .i64 y_48), .box [.sl 35, .sl 36]] 2 [22, 23] (k_laws_heldDisk y_38 y_39 1 (h := hr0)) ?_
                 clear hr0
                 refine awp_seq fun K29 hK29 => ?_
                 refine awp_regS ftCOk [(13, .v (.int .i64 y_37)), (14, .v (.int .i64 y_51)), (115, .v (.bool (decide (y_51 < 0))))] ?_
                 refine awp_cond (t := 115) rfl (fun hc30 => ?_) (fun hc30 => ?_)
                 ·replace h := bite_t h hc30
                  refine awp_regS ftCOk [(4, .v (.bool false))] ?_
                  refine awp_ret ?_
                  obtain rfl := Option.some.inj h
                  exact finQ [0, 1, 2, 3, 4]
                 ·replace h := bite_f h hc30
                  refine awp_skip ?_
                  refine hK29 _ _ ?_
                  clear hK29
                  refine awp_seq fun K32 hK32 => ?_
                  refine awp_regS ftCOk [(118, .v (.bool (y_51 != y_37)))] ?_
                  refine awp_cond (t := 118) rfl (fun hc33 => ?_) (fun hc33 => ?_)
                  ·replace h := bite_t h hc33
                   refine awp_regS ftCOk [(4, .v (.bool false))] ?_
                   refine awp_ret ?_
                   obtain rfl := Option.some.inj h
                   exact finQ [0, 1, 2, 3, 4]
                  ·replace h := bite_f h hc33
                   refine awp_skip ?_
                   refine hK32 _ _ ?_
                   clear hK32
                   refine awp_regS ftCOk [(4, .v (.bool true))] ?_
                   refine awp_ret ?_
                   obtain rfl := Option.some.inj h
                   exact finQ [0, 1, 2, 3, 4]
end Go.Proofs.Yteoedigfnfjopaa

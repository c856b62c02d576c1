/- Contracts: small functions over rows of integers. -/
import Derived.Test.YtngpllgpfndkkaaDoorFacts
set_option maxRecDepth 100000
set_option maxHeartbeats 4000000
set_option linter.unusedSimpArgs false
set_option linter.unusedVariables false
namespace Go.Proofs.YtngpllgpfndkkaaDoor
open Go Go.Av
attribute [local irreducible] wpA OpK awp
attribute [local go_sem] buildQ placesOf buildCells List.toList_toArray vcQg gfind gfree gput un3_agg unI_int unB_bool unK_int guardU skipV resVs resV vcD vcD1 roH roOb ftNone ftAdd oneOrTup AV.detup AV.ren AV.ren2 AV.ren1 pos selH AObj.ren fitAll fit fit1 fit1s matchAll matchOb exIds AObj.excl Env.killp pastH setAll upId AObj.past AObj.back AV.killp AV.killp1 AV.killp2 Nat.sub_self Nat.lt_irrefl Bool.or_self vcOps vcOp vcQs vcQ dstOk quiet eff pcall plain valsOf ev ofConst argEnv List.lookup Nat.add_eq decide_true decide_false Env.put binV wrapTo unV convV loadQ indexQ callQ builtinQ rd globC AObj.globC partAV isAggD isArrayD addrAdd boxE storeE makeE buildSliceE buildFold appendE sliceE boundAV subObj asCells Value.oneCell' contZero Cont.sets Cont.app Cont.sub Cont.len Cont.esz Cont.cell Cont.cells Cont.flat AV.det AV.det1 guardV AObj.unview AObj.kill Env.kill AV.kill AV.kill1 AV.kill2 fits64 Option.getD_some Option.getD_none Option.map_some Option.map_none Option.bind_some List.map_cons List.map_nil List.getElem?_cons_zero List.getElem?_cons_succ List.getElem?_nil true_and and_true List.getElem?_toArray List.cons_append List.nil_append List.length_cons List.length_nil List.set_cons_zero List.set_cons_succ List.take_succ_cons List.take_zero List.drop_succ_cons List.drop_zero List.drop_nil List.take_nil List.contains_cons List.contains_nil List.elem_cons List.elem_nil Bool.not_true Bool.not_false Bool.false_eq_true Bool.or_false Bool.or_true Bool.and_true Bool.and_false Bool.true_and Bool.false_and List.all_cons List.all_nil List.size_toArray Nat.lt_add_one Nat.zero_lt_succ Nat.one_ne_zero Nat.zero_ne_one and_self List.replicate_succ List.replicate_zero Int.toNat_natCast Int.toNat_zero Value.cells false_implies true_implies forall_const Thn InBlk Nat.zero_add Nat.add_zero Int.zero_add tsz0 tby0 tz0 Tryd.underlying0 tsz1 tby1 tz1 Tryd.underlying1 tsz2 tby2 tz2 Tryd.underlying2 tsz3 tby3 tz3 Tryd.underlying3 tsz4 tby4 tz4 Tryd.underlying4 tsz5 tby5 tz5 Tryd.underlying5 tsz6 tby6 tz6 Tryd.underlying6 tsz7 tby7 tz7 Tryd.underlying7 fo7_0 fo7_1 fo7_2 fo7_3 tsz8 tby8 tz8 Tryd.underlying8 fo8_0 fo8_1 fo8_2 fo8_3 tsz9 tby9 Tryd.underlying9 tsz10 tby10 Tryd.underlying10 tsz11 tby11 Tryd.underlying11 tsz12 tby12 tz12 Tryd.underlying12 tsz13 tby13 Tryd.underlying13 fo13_0 fo13_1 tsz14 tby14 Tryd.underlying14 fo14_0 fo14_1 tsz15 tby15 tz15 Tryd.underlying15 tsz16 tby16 tz16 Tryd.underlying16 tsz17 tby17 tz17 Tryd.underlying17 tsz18 tby18 tz18 Tryd.underlying18 fo18_0 tsz19 tby19 tz19 Tryd.underlying19 fo19_0 tsz20 tby20 tz20 Tryd.underlying20 tsz21 tby21 tz21 Tryd.underlying21 tsz22 tby22 tz22 Tryd.underlying22 tsz23 tby23 tz23 Tryd.underlying23 fo23_0 fo23_1 tsz24 tby24 tz24 Tryd.underlying24 fo24_0 fo24_1 tsz25 tby25 tz25 Tryd.underlying25 tsz26 tby26 tz26 Tryd.underlying26 tsz27 tby27 tz27 Tryd.underlying27 tsz28 tby28 tz28 Tryd.underlying28 tsz29 tby29 tz29 Tryd.underlying29 fo29_0 fo29_1 tsz30 tby30 tz30 Tryd.underlying30 fo30_0 fo30_1 tsz31 tby31 tz31 Tryd.underlying31 tsz32 tby32 tz32 Tryd.underlying32 tsz33 tby33 tz33 Tryd.underlying33 tsz34 tby34 tz34 Tryd.underlying34 tsz35 tby35 tz35 Tryd.underlying35 tsz36 tby36 tz36 Tryd.underlying36 tsz37 tby37 tz37 Tryd.underlying37 tsz38 tby38 tz38 Tryd.underlying38 tsz39 tby39 tz39 Tryd.underlying39 tsz40 tby40 tz40 Tryd.underlying40 tsz41 tby41 tz41 Tryd.underlying41 tsz42 tby42 tz42 Tryd.underlying42 tsz43 tby43 tz43 Tryd.underlying43 tsz44 tby44 tz44 Tryd.underlying44 tsz45 tby45 tz45 Tryd.underlying45 fo45_0 fo45_1 fo45_2 tsz46 tby46 tz46 Tryd.underlying46 fo46_0 fo46_1 fo46_2 tsz47 tby47 tz47 Tryd.underlying47 tsz48 tby48 tz48 Tryd.underlying48 tsz49 tby49 tz49 Tryd.underlying49 tsz50 tby50 tz50 Tryd.underlying50 tsz51 tby51 tz51 Tryd.underlying51 tsz52 tby52 tz52 Tryd.underlying52 tsz53 tby53 tz53 Tryd.underlying53 tsz54 tby54 tz54 Tryd.underlying54 tsz55 tby55 tz55 Tryd.underlying55 tsz56 tby56 tz56 Tryd.underlying56 tsz57 tby57 tz57 Tryd.underlying57 tsz58 tby58 tz58 Tryd.underlying58 tsz59 tby59 tz59 Tryd.underlying59 tsz60 tby60 tz60 Tryd.underlying60 tsz61 tby61 tz61 Tryd.underlying61 tsz62 tby62 tz62 Tryd.underlying62 tsz63 tby63 tz63 Tryd.underlying63 tsz64 tby64 tz64 Tryd.underlying64 tsz65 tby65 tz65 Tryd.underlying65 tsz66 tby66 tz66 Tryd.underlying66 tsz67 tby67 tz67 Tryd.underlying67 tsz68 tby68 tz68 Tryd.underlying68 tsz69 tby69 tz69 Tryd.underlying69 tsz70 tby70 tz70 Tryd.underlying70 tsz71 tby71 tz71 Tryd.underlying71 tsz72 tby72 tz72 Tryd.underlying72 tsz73 tby73 tz73 Tryd.underlying73 tsz74 tby74 tz74 Tryd.underlying74 tsz75 tby75 tz75 Tryd.underlying75 tsz76 tby76 tz76 Tryd.underlying76 tsz77 tby77 tz77 Tryd.underlying77 tsz78 tby78 tz78 Tryd.underlying78 fo78_0 fo78_1 fo78_2 tsz79 tby79 tz79 Tryd.underlying79 tsz80 tby80 tz80 Tryd.underlying80 tsz81 tby81 tz81 Tryd.underlying81 fo81_0 fo81_1 tsz82 tby82 tz82 Tryd.underlying82 fo82_0 fo82_1 tsz83 tby83 tz83 Tryd.underlying83 tsz84 tby84 tz84 Tryd.underlying84 tsz85 tby85 tz85 Tryd.underlying85 tsz86 tby86 tz86 Tryd.underlying86 tsz87 tby87 tz87 Tryd.underlying87 tsz88 tby88 tz88 Tryd.underlying88 tsz89 tby89 tz89 Tryd.underlying89 tsz90 tby90 tz90 Tryd.underlying90 tsz91 tby91 tz91 Tryd.underlying91 tsz92 tby92 Tryd.underlying92 fo92_0 fo92_1 fo92_2 fo92_3 tsz93 tby93 Tryd.underlying93 fo93_0 fo93_1 fo93_2 fo93_3 tsz94 tby94 tz94 Tryd.underlying94 tsz95 tby95 tz95 Tryd.underlying95 tsz96 tby96 tz96 Tryd.underlying96 tsz97 tby97 tz97 Tryd.underlying97 tsz98 tby98 tz98 Tryd.underlying98 tsz99 tby99 tz99 Tryd.underlying99 tsz100 tby100 tz100 Tryd.underlying100 tsz101 tby101 tz101 Tryd.underlying101 tsz102 tby102 tz102 Tryd.underlying102 tsz103 tby103 tz103 Tryd.underlying103 fo103_0 fo103_1 fo103_2 fo103_3 fo103_4 fo103_5 fo103_6 fo103_7 fo103_8 fo103_9 fo103_10 tsz104 tby104 tz104 Tryd.underlying104 fo104_0 fo104_1 fo104_2 fo104_3 fo104_4 fo104_5 fo104_6 fo104_7 fo104_8 fo104_9 fo104_10 tsz105 tby105 tz105 Tryd.underlying105
theorem c_spec_l1In (n lo hi : Int) :
    FnA Tryd.prog 63 [.v (.int .i64 n), .v (.int .i64 lo), .v (.int .i64 hi)] [] [] (fun x _ => x = .v (.bool (decide (lo ≤ n) && decide (n ≤ hi)))) := by
  refine FnA.of (N := 15) (pin := []) (rs := [.tmp 6]) Tryd.func63 rfl en63 rfl rfl (by simp) (by simp; try omega) ?_
  refine awp_seq fun K1 hK1 => ?_
  refine awp_region ftNoneOk ?_
  simp (maxSteps := 4000000) only [go_sem, Nat.reduceBEq, Nat.reduceLT, Nat.reduceAdd, Nat.reduceLeDiff, Nat.reduceSub, Nat.reduceEqDiff, Int.reduceToNat, reduceCtorEq, ↓reduceIte, ftNone]
  repeat' (first | refine And.intro ?_ ?_ | (intro hg; try simp at hg))
  all_goals first
    | refine hK1 _ _ ?_
    | exact trivial
    | omega
    | ((simp; omega))
  clear hK1
  refine awp_seq fun K2 hK2 => ?_
  refine awp_region ftNoneOk ?_
  simp (maxSteps := 4000000) only [go_sem, Nat.reduceBEq, Nat.reduceLT, Nat.reduceAdd, Nat.reduceLeDiff, Nat.reduceSub, Nat.reduceEqDiff, Int.reduceToNat, reduceCtorEq, ↓reduceIte, ftNone]
  repeat' (first | refine And.intro ?_ ?_ | (intro hg; try simp at hg))
  all_goals first
    | refine hK2 _ _ ?_
    | exact trivial
    | omega
    | ((simp; omega))
  all_goals
    clear hK2
    refine awp_keep [0, 1, 2, 6] (by simp only [keepE, List.map_cons, List.map_nil, List.lookup, Nat.reduceBEq, Option.getD_some, Option.getD_none]; exact rfl) ?_
    refine awp_ret ?_
    (try simp only [Thn, InBlk, ↓reduceIte, Nat.reduceEqDiff])
    refine ⟨by simp, _, [], (by simp only [go_sem, Nat.reduceBEq, Nat.reduceLT, Nat.reduceAdd, Nat.reduceLeDiff, Nat.reduceSub, Nat.reduceEqDiff, Int.reduceToNat, reduceCtorEq, ↓reduceIte]; exact rfl), ?_, ?_, ?_, ?_⟩
    · first | exact trivial | exact ⟨trivial, trivial⟩ | exact ⟨trivial, trivial, trivial⟩ | exact ⟨trivial, trivial, trivial, trivial⟩ | (simp only [allP, and_true, true_and]; done) | (simp only [allP, and_true, true_and]; omega)
    · simp [selOk, pos]
    · simp
    · simp only [go_sem, Nat.reduceBEq, Nat.reduceLT, Nat.reduceAdd, Nat.reduceLeDiff, Nat.reduceSub, Nat.reduceEqDiff, Int.reduceToNat, reduceCtorEq, ↓reduceIte]
      first | (simp_all; done) | (simp_all; intros; omega)
def l1InG : List Value → Option (Prop × Value)
  | [.int .i64 n, .int .i64 lo, .int .i64 hi] => some (True, .bool (decide (lo ≤ n) && decide (n ≤ hi)))
  | _ => none
theorem l1InP : PureF Tryd.prog 63 l1InG := PureF.of en63 fun vs q r hg hq => by
  unfold l1InG at hg
  split at hg
  · simp only [Option.some.injEq, Prod.mk.injEq] at hg
    obtain ⟨_, rfl⟩ := hg
    exact c_spec_l1In _ _ _
  · cases hg
def ft1 : FuncId → Option (List Value → Option (Prop × Value)) := ftAdd 63 l1InG ftNone
theorem ft1Ok : PTab Tryd.prog ft1 := ftAddOk l1InP ftNoneOk
theorem take_succ_eq {α : Type} {d : α} {xs ys : List α} {k : Nat} (h : xs.take k = ys.take k) (hx : k < xs.length) (hl : xs.length = ys.length) (he : xs[k]?.getD d = ys[k]?.getD d) : xs.take (k + 1) = ys.take (k + 1) := by
  have hy : k < ys.length := by omega
  have he2 : xs[k]? = ys[k]? := by simp [hx, hy] at he ⊢; exact he
  rw [List.take_add_one, List.take_add_one, h, he2]

theorem c_laws_eqIntS (xs ys : List Int) (hx : xs.length ≤ 1000000000) :
    FnA Tryd.prog 14 [.sl 0, .sl 1] [.row false (.ints .i64 xs), .row false (.ints .i64 ys)] [] (fun x H => x = .v (.bool (decide (xs = ys))) ∧ H = [.row false (.ints .i64 xs), .row false (.ints .i64 ys)]) := by
  refine FnA.of (N := 26) (pin := [0, 1]) (rs := [.tmp 4]) Tryd.func14 rfl en14 rfl rfl (by simp) (by simp; try omega) ?_
  refine awp_seq fun K1 hK1 => ?_
  refine awp_region ftNoneOk ?_
  simp (maxSteps := 4000000) only [go_sem, Nat.reduceBEq, Nat.reduceLT, Nat.reduceAdd, Nat.reduceLeDiff, Nat.reduceSub, Nat.reduceEqDiff, Int.reduceToNat, reduceCtorEq, ↓reduceIte, ftNone]
  repeat' (first | refine And.intro ?_ ?_ | (intro hg; try simp at hg))
  all_goals first
    | refine hK1 _ _ ?_
    | exact trivial
    | omega
    | ((simp; omega))
  clear hK1
  refine awp_seq fun K2 hK2 => ?_
  refine awp_seq fun K3 hK3 => ?_
  refine awp_region ftNoneOk ?_
  simp (maxSteps := 4000000) only [go_sem, Nat.reduceBEq, Nat.reduceLT, Nat.reduceAdd, Nat.reduceLeDiff, Nat.reduceSub, Nat.reduceEqDiff, Int.reduceToNat, reduceCtorEq, ↓reduceIte, ftNone]
  repeat' (first | refine And.intro ?_ ?_ | (intro hg; try simp at hg))
  all_goals first
    | refine hK3 _ _ ?_
    | exact trivial
    | omega
    | ((simp; omega))
  clear hK3
  refine awp_cond (t := 10) rfl (fun hc0 => ?_) (fun hc0 => ?_)
  · first
    | exact absurd hc0 (by decide)
    | (simp at hc0; done)
    | (exfalso; (try simp at hc0); omega)
    | ((try simp at hc0)
       refine awp_seq fun K4 hK4 => ?_
       refine awp_region ftNoneOk ?_
       simp (maxSteps := 4000000) only [go_sem, Nat.reduceBEq, Nat.reduceLT, Nat.reduceAdd, Nat.reduceLeDiff, Nat.reduceSub, Nat.reduceEqDiff, Int.reduceToNat, reduceCtorEq, ↓reduceIte, ftNone]
       repeat' (first | refine And.intro ?_ ?_ | (intro hg; try simp at hg))
       all_goals first
         | refine hK4 _ _ ?_
         | exact trivial
         | omega
         | ((simp; omega))
       clear hK4
       refine awp_ret ?_
       (try simp only [Thn, InBlk, ↓reduceIte, Nat.reduceEqDiff])
       refine ⟨by simp, _, [0, 1], (by simp only [go_sem, Nat.reduceBEq, Nat.reduceLT, Nat.reduceAdd, Nat.reduceLeDiff, Nat.reduceSub, Nat.reduceEqDiff, Int.reduceToNat, reduceCtorEq, ↓reduceIte]; exact rfl), ?_, ?_, ?_, ?_⟩
       · first | exact trivial | exact ⟨trivial, trivial⟩ | exact ⟨trivial, trivial, trivial⟩ | exact ⟨trivial, trivial, trivial, trivial⟩ | (simp only [allP, and_true, true_and]; done) | (simp only [allP, and_true, true_and]; omega)
       · simp [selOk, pos]
       · simp
       · simp only [go_sem, Nat.reduceBEq, Nat.reduceLT, Nat.reduceAdd, Nat.reduceLeDiff, Nat.reduceSub, Nat.reduceEqDiff, Int.reduceToNat, reduceCtorEq, ↓reduceIte]
         have hne : xs ≠ ys := (fun e => hc0 (by rw [e])); simp [hne])
  · first
    | exact absurd hc0 (by decide)
    | (simp at hc0; done)
    | (exfalso; (try simp at hc0); omega)
    | ((try simp at hc0)
       refine awp_skip ?_
       refine hK2 _ _ ?_
       clear hK2
       refine awp_seq fun K5 hK5 => ?_
       refine awp_seq fun K6 hK6 => ?_
       refine awp_region ftNoneOk ?_
       simp (maxSteps := 4000000) only [go_sem, Nat.reduceBEq, Nat.reduceLT, Nat.reduceAdd, Nat.reduceLeDiff, Nat.reduceSub, Nat.reduceEqDiff, Int.reduceToNat, reduceCtorEq, ↓reduceIte, ftNone]
       repeat' (first | refine And.intro ?_ ?_ | (intro hg; try simp at hg))
       all_goals first
         | refine hK6 _ _ ?_
         | exact trivial
         | omega
         | ((simp; omega))
       clear hK6
       refine awp_block ?_
       refine awp_loop (σ := Nat) (fun k => k ≤ xs.length ∧ xs.length = ys.length ∧ xs.take k = ys.take k) (fun k => [(0, .sl 0), (1, .sl 1), (5, .v (.int .i64 (k : Int)))]) (fun _ => [.row false (.ints .i64 xs), .row false (.ints .i64 ys)]) (fun k => xs.length - k) (0) ?_ ?_ ?_
       · exact ⟨by omega, by omega, rfl⟩
       · refine Red.fin ?_ rfl
         (simp only [Ele, Env.ren, AV.ren, AV.ren2, AV.ren1, AObj.ren, pos, selH, List.map_cons, List.map_nil, List.lookup, Nat.reduceBEq, Nat.reduceAdd, Nat.reduceEqDiff, Option.some.injEq, AV.v.injEq, AV.sl.injEq, AV.pp.injEq, AV.ep.injEq, AV.agg.injEq, List.cons.injEq, Value.int.injEq, Value.bool.injEq, Value.string.injEq, true_and, and_true, true_or, or_true, or_false, false_or, reduceCtorEq, ↓reduceIte, Option.getD_some, Option.getD_none, List.getElem?_cons_zero, List.getElem?_cons_succ, List.getElem?_nil, Nat.zero_add, Nat.one_ne_zero, Nat.zero_ne_one, and_self]) <;> first | done | omega
       · intro k hs
         refine awp_seq fun K7 hK7 => ?_
         refine awp_seq fun K8 hK8 => ?_
         refine awp_region ftNoneOk ?_
         simp (maxSteps := 4000000) only [go_sem, Nat.reduceBEq, Nat.reduceLT, Nat.reduceAdd, Nat.reduceLeDiff, Nat.reduceSub, Nat.reduceEqDiff, Int.reduceToNat, reduceCtorEq, ↓reduceIte, ftNone]
         repeat' (first | refine And.intro ?_ ?_ | (intro hg; try simp at hg))
         all_goals first
           | refine hK8 _ _ ?_
           | exact trivial
           | omega
           | ((simp; omega))
         clear hK8
         refine awp_cond (t := 14) rfl (fun hc1 => ?_) (fun hc1 => ?_)
         · first
           | exact absurd hc1 (by decide)
           | (simp at hc1; done)
           | (exfalso; (try simp at hc1); omega)
           | ((try simp at hc1)
              refine awp_skip ?_
              refine hK7 _ _ ?_
              clear hK7
              refine awp_seq fun K9 hK9 => ?_
              refine awp_block ?_
              refine awp_seq fun K10 hK10 => ?_
              refine awp_quietg mixed ftNoneOk (by kernel_rfl) ?_
              simp (maxSteps := 4000000) only [go_sem, Nat.reduceBEq, Nat.reduceLT, Nat.reduceAdd, Nat.reduceLeDiff, Nat.reduceSub, Nat.reduceEqDiff, Int.reduceToNat, reduceCtorEq, ↓reduceIte, ftNone]
              repeat' (first | refine And.intro ?_ ?_ | (intro hg; try simp at hg))
              all_goals first
                | refine hK10 _ _ ?_
                | exact trivial
                | omega
                | ((simp; omega))
              clear hK10
              refine awp_keep [0, 1, 4, 5, 10, 14, 25] (by simp only [keepE, List.map_cons, List.map_nil, List.lookup, Nat.reduceBEq, Option.getD_some, Option.getD_none]; exact rfl) ?_
              refine awp_cond (t := 25) rfl (fun hc2 => ?_) (fun hc2 => ?_)
              · first
                | exact absurd hc2 (by decide)
                | (simp at hc2; done)
                | (exfalso; (try simp at hc2); omega)
                | ((try simp at hc2)
                   refine awp_seq fun K11 hK11 => ?_
                   refine awp_region ftNoneOk ?_
                   simp (maxSteps := 4000000) only [go_sem, Nat.reduceBEq, Nat.reduceLT, Nat.reduceAdd, Nat.reduceLeDiff, Nat.reduceSub, Nat.reduceEqDiff, Int.reduceToNat, reduceCtorEq, ↓reduceIte, ftNone]
                   repeat' (first | refine And.intro ?_ ?_ | (intro hg; try simp at hg))
                   all_goals first
                     | refine hK11 _ _ ?_
                     | exact trivial
                     | omega
                     | ((simp; omega))
                   clear hK11
                   refine awp_ret ?_
                   (try simp only [Thn, InBlk, ↓reduceIte, Nat.reduceEqDiff])
                   refine ⟨by simp, _, [0, 1], (by simp only [go_sem, Nat.reduceBEq, Nat.reduceLT, Nat.reduceAdd, Nat.reduceLeDiff, Nat.reduceSub, Nat.reduceEqDiff, Int.reduceToNat, reduceCtorEq, ↓reduceIte]; exact rfl), ?_, ?_, ?_, ?_⟩
                   · first | exact trivial | exact ⟨trivial, trivial⟩ | exact ⟨trivial, trivial, trivial⟩ | exact ⟨trivial, trivial, trivial, trivial⟩ | (simp only [allP, and_true, true_and]; done) | (simp only [allP, and_true, true_and]; omega)
                   · simp [selOk, pos]
                   · simp
                   · simp only [go_sem, Nat.reduceBEq, Nat.reduceLT, Nat.reduceAdd, Nat.reduceLeDiff, Nat.reduceSub, Nat.reduceEqDiff, Int.reduceToNat, reduceCtorEq, ↓reduceIte]
                     have hne : xs ≠ ys := (fun e => hc2 (by rw [e])); simp [hne])
              · first
                | exact absurd hc2 (by decide)
                | (simp at hc2; done)
                | (exfalso; (try simp at hc2); omega)
                | ((try simp at hc2)
                   refine awp_skip ?_
                   (try simp only [Thn, InBlk, ↓reduceIte, Nat.reduceEqDiff])
                   refine hK9 _ _ ?_
                   clear hK9
                   refine awp_last fun K12 hK12 => ?_
                   refine awp_region ftNoneOk ?_
                   simp (maxSteps := 4000000) only [go_sem, Nat.reduceBEq, Nat.reduceLT, Nat.reduceAdd, Nat.reduceLeDiff, Nat.reduceSub, Nat.reduceEqDiff, Int.reduceToNat, reduceCtorEq, ↓reduceIte, ftNone]
                   repeat' (first | refine And.intro ?_ ?_ | (intro hg; try simp at hg))
                   all_goals first
                     | refine hK12 _ _ ?_
                     | exact trivial
                     | omega
                     | ((simp; omega))
                   clear hK12
                   (try simp only [Thn, InBlk, ↓reduceIte, Nat.reduceEqDiff])
                   refine ⟨k + 1, ?_, ?_, ?_⟩
                   · exact ⟨by omega, hs.2.1, take_succ_eq hs.2.2 hc1 hs.2.1 hc2⟩
                   · omega
                   · refine Red.fin ?_ rfl
                     (simp only [Ele, Env.ren, AV.ren, AV.ren2, AV.ren1, AObj.ren, pos, selH, List.map_cons, List.map_nil, List.lookup, Nat.reduceBEq, Nat.reduceAdd, Nat.reduceEqDiff, Option.some.injEq, AV.v.injEq, AV.sl.injEq, AV.pp.injEq, AV.ep.injEq, AV.agg.injEq, List.cons.injEq, Value.int.injEq, Value.bool.injEq, Value.string.injEq, true_and, and_true, true_or, or_true, or_false, false_or, reduceCtorEq, ↓reduceIte, Option.getD_some, Option.getD_none, List.getElem?_cons_zero, List.getElem?_cons_succ, List.getElem?_nil, Nat.zero_add, Nat.one_ne_zero, Nat.zero_ne_one, and_self]) <;> first | done | omega | (refine ⟨?_, ?_⟩ <;> omega)))
         · first
           | exact absurd hc1 (by decide)
           | (simp at hc1; done)
           | (exfalso; (try simp at hc1); omega)
           | ((try simp at hc1)
              refine awp_exit ?_
              (try simp only [Thn, InBlk, ↓reduceIte, Nat.reduceEqDiff])
              refine hK5 _ _ ?_
              clear hK5
              refine awp_seq fun K13 hK13 => ?_
              refine awp_region ftNoneOk ?_
              simp (maxSteps := 4000000) only [go_sem, Nat.reduceBEq, Nat.reduceLT, Nat.reduceAdd, Nat.reduceLeDiff, Nat.reduceSub, Nat.reduceEqDiff, Int.reduceToNat, reduceCtorEq, ↓reduceIte, ftNone]
              repeat' (first | refine And.intro ?_ ?_ | (intro hg; try simp at hg))
              all_goals first
                | refine hK13 _ _ ?_
                | exact trivial
                | omega
                | ((simp; omega))
              clear hK13
              refine awp_ret ?_
              (try simp only [Thn, InBlk, ↓reduceIte, Nat.reduceEqDiff])
              refine ⟨by simp, _, [0, 1], (by simp only [go_sem, Nat.reduceBEq, Nat.reduceLT, Nat.reduceAdd, Nat.reduceLeDiff, Nat.reduceSub, Nat.reduceEqDiff, Int.reduceToNat, reduceCtorEq, ↓reduceIte]; exact rfl), ?_, ?_, ?_, ?_⟩
              · first | exact trivial | exact ⟨trivial, trivial⟩ | exact ⟨trivial, trivial, trivial⟩ | exact ⟨trivial, trivial, trivial, trivial⟩ | (simp only [allP, and_true, true_and]; done) | (simp only [allP, and_true, true_and]; omega)
              · simp [selOk, pos]
              · simp
              · simp only [go_sem, Nat.reduceBEq, Nat.reduceLT, Nat.reduceAdd, Nat.reduceLeDiff, Nat.reduceSub, Nat.reduceEqDiff, Int.reduceToNat, reduceCtorEq, ↓reduceIte]
                have he : xs = ys := (by have h := hs.2.2; rw [List.take_of_length_le hc1, List.take_of_length_le (by omega)] at h; exact h); simp [he]))
theorem c_laws_sameInts (xs ys : List Int) (hx : xs.length ≤ 1000000000) :
    FnA Tryd.prog 24 [.sl 0, .sl 1] [.row false (.ints .i64 xs), .row false (.ints .i64 ys)] [] (fun x H => x = .v (.bool (decide (xs = ys))) ∧ H = [.row false (.ints .i64 xs), .row false (.ints .i64 ys)]) := by
  refine FnA.of (N := 26) (pin := [0, 1]) (rs := [.tmp 4]) Tryd.func24 rfl en24 rfl rfl (by simp) (by simp; try omega) ?_
  refine awp_seq fun K1 hK1 => ?_
  refine awp_region ftNoneOk ?_
  simp (maxSteps := 4000000) only [go_sem, Nat.reduceBEq, Nat.reduceLT, Nat.reduceAdd, Nat.reduceLeDiff, Nat.reduceSub, Nat.reduceEqDiff, Int.reduceToNat, reduceCtorEq, ↓reduceIte, ftNone]
  repeat' (first | refine And.intro ?_ ?_ | (intro hg; try simp at hg))
  all_goals first
    | refine hK1 _ _ ?_
    | exact trivial
    | omega
    | ((simp; omega))
  clear hK1
  refine awp_seq fun K2 hK2 => ?_
  refine awp_seq fun K3 hK3 => ?_
  refine awp_region ftNoneOk ?_
  simp (maxSteps := 4000000) only [go_sem, Nat.reduceBEq, Nat.reduceLT, Nat.reduceAdd, Nat.reduceLeDiff, Nat.reduceSub, Nat.reduceEqDiff, Int.reduceToNat, reduceCtorEq, ↓reduceIte, ftNone]
  repeat' (first | refine And.intro ?_ ?_ | (intro hg; try simp at hg))
  all_goals first
    | refine hK3 _ _ ?_
    | exact trivial
    | omega
    | ((simp; omega))
  clear hK3
  refine awp_cond (t := 10) rfl (fun hc0 => ?_) (fun hc0 => ?_)
  · first
    | exact absurd hc0 (by decide)
    | (simp at hc0; done)
    | (exfalso; (try simp at hc0); omega)
    | ((try simp at hc0)
       refine awp_seq fun K4 hK4 => ?_
       refine awp_region ftNoneOk ?_
       simp (maxSteps := 4000000) only [go_sem, Nat.reduceBEq, Nat.reduceLT, Nat.reduceAdd, Nat.reduceLeDiff, Nat.reduceSub, Nat.reduceEqDiff, Int.reduceToNat, reduceCtorEq, ↓reduceIte, ftNone]
       repeat' (first | refine And.intro ?_ ?_ | (intro hg; try simp at hg))
       all_goals first
         | refine hK4 _ _ ?_
         | exact trivial
         | omega
         | ((simp; omega))
       clear hK4
       refine awp_ret ?_
       (try simp only [Thn, InBlk, ↓reduceIte, Nat.reduceEqDiff])
       refine ⟨by simp, _, [0, 1], (by simp only [go_sem, Nat.reduceBEq, Nat.reduceLT, Nat.reduceAdd, Nat.reduceLeDiff, Nat.reduceSub, Nat.reduceEqDiff, Int.reduceToNat, reduceCtorEq, ↓reduceIte]; exact rfl), ?_, ?_, ?_, ?_⟩
       · first | exact trivial | exact ⟨trivial, trivial⟩ | exact ⟨trivial, trivial, trivial⟩ | exact ⟨trivial, trivial, trivial, trivial⟩ | (simp only [allP, and_true, true_and]; done) | (simp only [allP, and_true, true_and]; omega)
       · simp [selOk, pos]
       · simp
       · simp only [go_sem, Nat.reduceBEq, Nat.reduceLT, Nat.reduceAdd, Nat.reduceLeDiff, Nat.reduceSub, Nat.reduceEqDiff, Int.reduceToNat, reduceCtorEq, ↓reduceIte]
         have hne : xs ≠ ys := (fun e => hc0 (by rw [e])); simp [hne])
  · first
    | exact absurd hc0 (by decide)
    | (simp at hc0; done)
    | (exfalso; (try simp at hc0); omega)
    | ((try simp at hc0)
       refine awp_skip ?_
       refine hK2 _ _ ?_
       clear hK2
       refine awp_seq fun K5 hK5 => ?_
       refine awp_seq fun K6 hK6 => ?_
       refine awp_region ftNoneOk ?_
       simp (maxSteps := 4000000) only [go_sem, Nat.reduceBEq, Nat.reduceLT, Nat.reduceAdd, Nat.reduceLeDiff, Nat.reduceSub, Nat.reduceEqDiff, Int.reduceToNat, reduceCtorEq, ↓reduceIte, ftNone]
       repeat' (first | refine And.intro ?_ ?_ | (intro hg; try simp at hg))
       all_goals first
         | refine hK6 _ _ ?_
         | exact trivial
         | omega
         | ((simp; omega))
       clear hK6
       refine awp_block ?_
       refine awp_loop (σ := Nat) (fun k => k ≤ xs.length ∧ xs.length = ys.length ∧ xs.take k = ys.take k) (fun k => [(0, .sl 0), (1, .sl 1), (5, .v (.int .i64 (k : Int)))]) (fun _ => [.row false (.ints .i64 xs), .row false (.ints .i64 ys)]) (fun k => xs.length - k) (0) ?_ ?_ ?_
       · exact ⟨by omega, by omega, rfl⟩
       · refine Red.fin ?_ rfl
         (simp only [Ele, Env.ren, AV.ren, AV.ren2, AV.ren1, AObj.ren, pos, selH, List.map_cons, List.map_nil, List.lookup, Nat.reduceBEq, Nat.reduceAdd, Nat.reduceEqDiff, Option.some.injEq, AV.v.injEq, AV.sl.injEq, AV.pp.injEq, AV.ep.injEq, AV.agg.injEq, List.cons.injEq, Value.int.injEq, Value.bool.injEq, Value.string.injEq, true_and, and_true, true_or, or_true, or_false, false_or, reduceCtorEq, ↓reduceIte, Option.getD_some, Option.getD_none, List.getElem?_cons_zero, List.getElem?_cons_succ, List.getElem?_nil, Nat.zero_add, Nat.one_ne_zero, Nat.zero_ne_one, and_self]) <;> first | done | omega
       · intro k hs
         refine awp_seq fun K7 hK7 => ?_
         refine awp_seq fun K8 hK8 => ?_
         refine awp_region ftNoneOk ?_
         simp (maxSteps := 4000000) only [go_sem, Nat.reduceBEq, Nat.reduceLT, Nat.reduceAdd, Nat.reduceLeDiff, Nat.reduceSub, Nat.reduceEqDiff, Int.reduceToNat, reduceCtorEq, ↓reduceIte, ftNone]
         repeat' (first | refine And.intro ?_ ?_ | (intro hg; try simp at hg))
         all_goals first
           | refine hK8 _ _ ?_
           | exact trivial
           | omega
           | ((simp; omega))
         clear hK8
         refine awp_cond (t := 14) rfl (fun hc1 => ?_) (fun hc1 => ?_)
         · first
           | exact absurd hc1 (by decide)
           | (simp at hc1; done)
           | (exfalso; (try simp at hc1); omega)
           | ((try simp at hc1)
              refine awp_skip ?_
              refine hK7 _ _ ?_
              clear hK7
              refine awp_seq fun K9 hK9 => ?_
              refine awp_block ?_
              refine awp_seq fun K10 hK10 => ?_
              refine awp_quietg mixed ftNoneOk (by kernel_rfl) ?_
              simp (maxSteps := 4000000) only [go_sem, Nat.reduceBEq, Nat.reduceLT, Nat.reduceAdd, Nat.reduceLeDiff, Nat.reduceSub, Nat.reduceEqDiff, Int.reduceToNat, reduceCtorEq, ↓reduceIte, ftNone]
              repeat' (first | refine And.intro ?_ ?_ | (intro hg; try simp at hg))
              all_goals first
                | refine hK10 _ _ ?_
                | exact trivial
                | omega
                | ((simp; omega))
              clear hK10
              refine awp_keep [0, 1, 4, 5, 10, 14, 25] (by simp only [keepE, List.map_cons, List.map_nil, List.lookup, Nat.reduceBEq, Option.getD_some, Option.getD_none]; exact rfl) ?_
              refine awp_cond (t := 25) rfl (fun hc2 => ?_) (fun hc2 => ?_)
              · first
                | exact absurd hc2 (by decide)
                | (simp at hc2; done)
                | (exfalso; (try simp at hc2); omega)
                | ((try simp at hc2)
                   refine awp_seq fun K11 hK11 => ?_
                   refine awp_region ftNoneOk ?_
                   simp (maxSteps := 4000000) only [go_sem, Nat.reduceBEq, Nat.reduceLT, Nat.reduceAdd, Nat.reduceLeDiff, Nat.reduceSub, Nat.reduceEqDiff, Int.reduceToNat, reduceCtorEq, ↓reduceIte, ftNone]
                   repeat' (first | refine And.intro ?_ ?_ | (intro hg; try simp at hg))
                   all_goals first
                     | refine hK11 _ _ ?_
                     | exact trivial
                     | omega
                     | ((simp; omega))
                   clear hK11
                   refine awp_ret ?_
                   (try simp only [Thn, InBlk, ↓reduceIte, Nat.reduceEqDiff])
                   refine ⟨by simp, _, [0, 1], (by simp only [go_sem, Nat.reduceBEq, Nat.reduceLT, Nat.reduceAdd, Nat.reduceLeDiff, Nat.reduceSub, Nat.reduceEqDiff, Int.reduceToNat, reduceCtorEq, ↓reduceIte]; exact rfl), ?_, ?_, ?_, ?_⟩
                   · first | exact trivial | exact ⟨trivial, trivial⟩ | exact ⟨trivial, trivial, trivial⟩ | exact ⟨trivial, trivial, trivial, trivial⟩ | (simp only [allP, and_true, true_and]; done) | (simp only [allP, and_true, true_and]; omega)
                   · simp [selOk, pos]
                   · simp
                   · simp only [go_sem, Nat.reduceBEq, Nat.reduceLT, Nat.reduceAdd, Nat.reduceLeDiff, Nat.reduceSub, Nat.reduceEqDiff, Int.reduceToNat, reduceCtorEq, ↓reduceIte]
                     have hne : xs ≠ ys := (fun e => hc2 (by rw [e])); simp [hne])
              · first
                | exact absurd hc2 (by decide)
                | (simp at hc2; done)
                | (exfalso; (try simp at hc2); omega)
                | ((try simp at hc2)
                   refine awp_skip ?_
                   (try simp only [Thn, InBlk, ↓reduceIte, Nat.reduceEqDiff])
                   refine hK9 _ _ ?_
                   clear hK9
                   refine awp_last fun K12 hK12 => ?_
                   refine awp_region ftNoneOk ?_
                   simp (maxSteps := 4000000) only [go_sem, Nat.reduceBEq, Nat.reduceLT, Nat.reduceAdd, Nat.reduceLeDiff, Nat.reduceSub, Nat.reduceEqDiff, Int.reduceToNat, reduceCtorEq, ↓reduceIte, ftNone]
                   repeat' (first | refine And.intro ?_ ?_ | (intro hg; try simp at hg))
                   all_goals first
                     | refine hK12 _ _ ?_
                     | exact trivial
                     | omega
                     | ((simp; omega))
                   clear hK12
                   (try simp only [Thn, InBlk, ↓reduceIte, Nat.reduceEqDiff])
                   refine ⟨k + 1, ?_, ?_, ?_⟩
                   · exact ⟨by omega, hs.2.1, take_succ_eq hs.2.2 hc1 hs.2.1 hc2⟩
                   · omega
                   · refine Red.fin ?_ rfl
                     (simp only [Ele, Env.ren, AV.ren, AV.ren2, AV.ren1, AObj.ren, pos, selH, List.map_cons, List.map_nil, List.lookup, Nat.reduceBEq, Nat.reduceAdd, Nat.reduceEqDiff, Option.some.injEq, AV.v.injEq, AV.sl.injEq, AV.pp.injEq, AV.ep.injEq, AV.agg.injEq, List.cons.injEq, Value.int.injEq, Value.bool.injEq, Value.string.injEq, true_and, and_true, true_or, or_true, or_false, false_or, reduceCtorEq, ↓reduceIte, Option.getD_some, Option.getD_none, List.getElem?_cons_zero, List.getElem?_cons_succ, List.getElem?_nil, Nat.zero_add, Nat.one_ne_zero, Nat.zero_ne_one, and_self]) <;> first | done | omega | (refine ⟨?_, ?_⟩ <;> omega)))
         · first
           | exact absurd hc1 (by decide)
           | (simp at hc1; done)
           | (exfalso; (try simp at hc1); omega)
           | ((try simp at hc1)
              refine awp_exit ?_
              (try simp only [Thn, InBlk, ↓reduceIte, Nat.reduceEqDiff])
              refine hK5 _ _ ?_
              clear hK5
              refine awp_seq fun K13 hK13 => ?_
              refine awp_region ftNoneOk ?_
              simp (maxSteps := 4000000) only [go_sem, Nat.reduceBEq, Nat.reduceLT, Nat.reduceAdd, Nat.reduceLeDiff, Nat.reduceSub, Nat.reduceEqDiff, Int.reduceToNat, reduceCtorEq, ↓reduceIte, ftNone]
              repeat' (first | refine And.intro ?_ ?_ | (intro hg; try simp at hg))
              all_goals first
                | refine hK13 _ _ ?_
                | exact trivial
                | omega
                | ((simp; omega))
              clear hK13
              refine awp_ret ?_
              (try simp only [Thn, InBlk, ↓reduceIte, Nat.reduceEqDiff])
              refine ⟨by simp, _, [0, 1], (by simp only [go_sem, Nat.reduceBEq, Nat.reduceLT, Nat.reduceAdd, Nat.reduceLeDiff, Nat.reduceSub, Nat.reduceEqDiff, Int.reduceToNat, reduceCtorEq, ↓reduceIte]; exact rfl), ?_, ?_, ?_, ?_⟩
              · first | exact trivial | exact ⟨trivial, trivial⟩ | exact ⟨trivial, trivial, trivial⟩ | exact ⟨trivial, trivial, trivial, trivial⟩ | (simp only [allP, and_true, true_and]; done) | (simp only [allP, and_true, true_and]; omega)
              · simp [selOk, pos]
              · simp
              · simp only [go_sem, Nat.reduceBEq, Nat.reduceLT, Nat.reduceAdd, Nat.reduceLeDiff, Nat.reduceSub, Nat.reduceEqDiff, Int.reduceToNat, reduceCtorEq, ↓reduceIte]
                have he : xs = ys := (by have h := hs.2.2; rw [List.take_of_length_le hc1, List.take_of_length_le (by omega)] at h; exact h); simp [he]))
theorem fill_step {α : Type} {xs : List α} {d d' : α} {k : Nat} (hk : k < xs.length) : (xs.take k ++ List.replicate (xs.length - k) d).set k (xs.getD k d') = xs.take (k + 1) ++ List.replicate (xs.length - (k + 1)) d := by
  have h1 : (xs.take k).length = k := by simp; omega
  have h2 : xs.length - k = (xs.length - (k + 1)) + 1 := by omega
  rw [List.set_append_right _ _ (by omega), h1, Nat.sub_self, h2, List.replicate_succ, List.set_cons_zero, ← List.take_append_getElem hk]
  simp only [List.getD_eq_getElem?_getD, List.getElem?_eq_getElem hk, Option.getD_some, List.append_assoc, List.cons_append, List.nil_append]
theorem fill_end {α : Type} {xs : List α} {d : α} {k : Nat} (hk : xs.length ≤ k) : xs.take k ++ List.replicate (xs.length - k) d = xs := by
  rw [List.take_of_length_le hk, Nat.sub_eq_zero_of_le hk]; simp

end Go.Proofs.YtngpllgpfndkkaaDoor

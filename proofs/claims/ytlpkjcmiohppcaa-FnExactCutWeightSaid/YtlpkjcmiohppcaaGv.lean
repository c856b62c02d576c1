/- Valid graphs. -/
import Derived.Test.YtlpkjcmiohppcaaGr
set_option maxRecDepth 100000
set_option maxHeartbeats 4000000
set_option linter.unusedSimpArgs false
set_option linter.unusedVariables false
namespace Go.Proofs.Ytlpkjcmiohppcaa
open Go Go.Av
attribute [local irreducible] wpA OpK awp
attribute [local go_sem] vcQg gfind gfree gput un3_agg unI_int unB_bool unK_int guardU skipV resVs resV vcD vcD1 roH roOb ftNone ftAdd oneOrTup AV.detup AV.ren AV.ren2 AV.ren1 pos selH AObj.ren fitAll fit fit1 fit1s matchAll matchOb exIds AObj.excl Env.killp pastH setAll upId AObj.past AObj.back AV.killp AV.killp1 AV.killp2 Nat.sub_self Nat.lt_irrefl Bool.or_self vcOps vcOp vcQs vcQ dstOk quiet eff pcall plain valsOf ev ofConst argEnv List.lookup Nat.add_eq decide_true decide_false Env.put binV wrapTo unV convV loadQ indexQ callQ builtinQ rd partAV isAggD isArrayD addrAdd boxE storeE makeE buildSliceE buildFold appendE sliceE boundAV subObj asCells Value.oneCell' contZero Cont.sets Cont.app Cont.sub Cont.len Cont.esz Cont.cell Cont.cells Cont.flat AV.det AV.det1 guardV AObj.unview AObj.kill Env.kill AV.kill AV.kill1 AV.kill2 fits64 Option.getD_some Option.getD_none Option.map_some Option.map_none Option.bind_some List.map_cons List.map_nil List.getElem?_cons_zero List.getElem?_cons_succ List.getElem?_nil true_and and_true List.getElem?_toArray List.cons_append List.nil_append List.length_cons List.length_nil List.set_cons_zero List.set_cons_succ List.take_succ_cons List.take_zero List.drop_succ_cons List.drop_zero List.drop_nil List.take_nil List.contains_cons List.contains_nil List.elem_cons List.elem_nil Bool.not_true Bool.not_false Bool.false_eq_true Bool.or_false Bool.or_true Bool.and_true Bool.and_false Bool.true_and Bool.false_and List.all_cons List.all_nil List.size_toArray Nat.lt_add_one Nat.zero_lt_succ Nat.one_ne_zero Nat.zero_ne_one and_self List.replicate_succ List.replicate_zero Int.toNat_natCast Int.toNat_zero Value.cells false_implies true_implies forall_const Thn InBlk Nat.zero_add Nat.add_zero Int.zero_add tsz0 tby0 tz0 Try.underlying0 tsz1 tby1 tz1 Try.underlying1 tsz2 tby2 tz2 Try.underlying2 tsz3 tby3 tz3 Try.underlying3 tsz4 tby4 tz4 Try.underlying4 tsz5 tby5 tz5 Try.underlying5 tsz6 tby6 tz6 Try.underlying6 tsz7 tby7 tz7 Try.underlying7 fo7_0 fo7_1 fo7_2 fo7_3 tsz8 tby8 tz8 Try.underlying8 fo8_0 fo8_1 fo8_2 fo8_3 tsz9 tby9 Try.underlying9 tsz10 tby10 Try.underlying10 tsz11 tby11 Try.underlying11 tsz12 tby12 tz12 Try.underlying12 tsz13 tby13 Try.underlying13 fo13_0 fo13_1 tsz14 tby14 Try.underlying14 fo14_0 fo14_1 tsz15 tby15 tz15 Try.underlying15 tsz16 tby16 tz16 Try.underlying16 tsz17 tby17 tz17 Try.underlying17 tsz18 tby18 tz18 Try.underlying18 fo18_0 tsz19 tby19 tz19 Try.underlying19 fo19_0 tsz20 tby20 tz20 Try.underlying20 tsz21 tby21 tz21 Try.underlying21 tsz22 tby22 tz22 Try.underlying22 tsz23 tby23 tz23 Try.underlying23 tsz24 tby24 tz24 Try.underlying24 tsz25 tby25 tz25 Try.underlying25 tsz26 tby26 tz26 Try.underlying26 tsz27 tby27 tz27 Try.underlying27 tsz28 tby28 tz28 Try.underlying28 tsz29 tby29 tz29 Try.underlying29 tsz30 tby30 tz30 Try.underlying30 tsz31 tby31 tz31 Try.underlying31 tsz32 tby32 tz32 Try.underlying32 tsz33 tby33 tz33 Try.underlying33 tsz34 tby34 tz34 Try.underlying34 tsz35 tby35 tz35 Try.underlying35 tsz36 tby36 tz36 Try.underlying36 tsz37 tby37 tz37 Try.underlying37 fo37_0 fo37_1 tsz38 tby38 tz38 Try.underlying38 fo38_0 fo38_1 tsz39 tby39 tz39 Try.underlying39 tsz40 tby40 tz40 Try.underlying40 tsz41 tby41 tz41 Try.underlying41 tsz42 tby42 tz42 Try.underlying42 tsz43 tby43 tz43 Try.underlying43 fo43_0 fo43_1 tsz44 tby44 tz44 Try.underlying44 fo44_0 fo44_1 tsz45 tby45 tz45 Try.underlying45 tsz46 tby46 tz46 Try.underlying46 tsz47 tby47 tz47 Try.underlying47 tsz48 tby48 tz48 Try.underlying48 tsz49 tby49 tz49 Try.underlying49 tsz50 tby50 tz50 Try.underlying50 tsz51 tby51 tz51 Try.underlying51 tsz52 tby52 tz52 Try.underlying52 tsz53 tby53 tz53 Try.underlying53 tsz54 tby54 tz54 Try.underlying54 tsz55 tby55 tz55 Try.underlying55 tsz56 tby56 tz56 Try.underlying56 tsz57 tby57 tz57 Try.underlying57 tsz58 tby58 tz58 Try.underlying58 tsz59 tby59 tz59 Try.underlying59 tsz60 tby60 tz60 Try.underlying60 tsz61 tby61 tz61 Try.underlying61 tsz62 tby62 tz62 Try.underlying62 tsz63 tby63 tz63 Try.underlying63 tsz64 tby64 tz64 Try.underlying64 tsz65 tby65 tz65 Try.underlying65 tsz66 tby66 tz66 Try.underlying66 tsz67 tby67 tz67 Try.underlying67 tsz68 tby68 tz68 Try.underlying68 tsz69 tby69 tz69 Try.underlying69 tsz70 tby70 tz70 Try.underlying70 fo70_0 fo70_1 fo70_2 tsz71 tby71 tz71 Try.underlying71 fo71_0 fo71_1 fo71_2 tsz72 tby72 tz72 Try.underlying72 tsz73 tby73 tz73 Try.underlying73 tsz74 tby74 tz74 Try.underlying74 tsz75 tby75 tz75 Try.underlying75 tsz76 tby76 tz76 Try.underlying76 tsz77 tby77 tz77 Try.underlying77 tsz78 tby78 tz78 Try.underlying78 tsz79 tby79 tz79 Try.underlying79 tsz80 tby80 tz80 Try.underlying80 tsz81 tby81 tz81 Try.underlying81 tsz82 tby82 tz82 Try.underlying82 tsz83 tby83 tz83 Try.underlying83 tsz84 tby84 tz84 Try.underlying84 tsz85 tby85 tz85 Try.underlying85 tsz86 tby86 tz86 Try.underlying86 tsz87 tby87 tz87 Try.underlying87 tsz88 tby88 tz88 Try.underlying88 fo88_0 fo88_1 tsz89 tby89 tz89 Try.underlying89 fo89_0 fo89_1 tsz90 tby90 tz90 Try.underlying90 tsz91 tby91 tz91 Try.underlying91 tsz92 tby92 tz92 Try.underlying92 fo92_0 fo92_1 fo92_2 tsz93 tby93 tz93 Try.underlying93 tsz94 tby94 tz94 Try.underlying94 tsz95 tby95 tz95 Try.underlying95 tsz96 tby96 tz96 Try.underlying96 tsz97 tby97 tz97 Try.underlying97 tsz98 tby98 tz98 Try.underlying98 tsz99 tby99 tz99 Try.underlying99 tsz100 tby100 tz100 Try.underlying100 tsz101 tby101 tz101 Try.underlying101 tsz102 tby102 tz102 Try.underlying102 tsz103 tby103 tz103 Try.underlying103 tsz104 tby104 Try.underlying104 fo104_0 fo104_1 fo104_2 fo104_3 tsz105 tby105 Try.underlying105 fo105_0 fo105_1 fo105_2 fo105_3 tsz106 tby106 tz106 Try.underlying106 tsz107 tby107 tz107 Try.underlying107 tsz108 tby108 tz108 Try.underlying108 tsz109 tby109 tz109 Try.underlying109 tsz110 tby110 tz110 Try.underlying110 tsz111 tby111 tz111 Try.underlying111 tsz112 tby112 tz112 Try.underlying112 tsz113 tby113 tz113 Try.underlying113 tsz114 tby114 tz114 Try.underlying114 tsz115 tby115 tz115 Try.underlying115 tsz116 tby116 tz116 Try.underlying116 fo116_0 fo116_1 fo116_2 fo116_3 fo116_4 fo116_5 fo116_6 fo116_7 fo116_8 fo116_9 fo116_10 tsz117 tby117 tz117 Try.underlying117 fo117_0 fo117_1 fo117_2 fo117_3 fo117_4 fo117_5 fo117_6 fo117_7 fo117_8 fo117_9 fo117_10 tsz118 tby118 tz118 Try.underlying118
/-- Edge k of a list is right: its ends, its weight, its place. -/
def EOk (n : Int) (es : List (Int × Int × Int)) (k : Nat) : Prop :=
  0 ≤ (es[k]?.getD (0, 0, 0)).1 ∧ (es[k]?.getD (0, 0, 0)).1 < n ∧ 0 ≤ (es[k]?.getD (0, 0, 0)).2.1 ∧ (es[k]?.getD (0, 0, 0)).2.1 < n ∧ ¬ (es[k]?.getD (0, 0, 0)).1 = (es[k]?.getD (0, 0, 0)).2.1 ∧
  0 ≤ (es[k]?.getD (0, 0, 0)).2.2 ∧ (es[k]?.getD (0, 0, 0)).2.2 ≤ 20 ∧
  (0 < k → (es[k - 1]?.getD (0, 0, 0)).1 < (es[k]?.getD (0, 0, 0)).1 ∨ (es[k - 1]?.getD (0, 0, 0)).1 = (es[k]?.getD (0, 0, 0)).1 ∧ (es[k - 1]?.getD (0, 0, 0)).2.1 < (es[k]?.getD (0, 0, 0)).2.1)
def GOk (n : Int) (es : List (Int × Int × Int)) : Prop := 0 ≤ n ∧ n ≤ 16 ∧ es.length ≤ 40 ∧ ∀ k, k < es.length → EOk n es k
open Classical in
noncomputable def gok (n : Int) (es : List (Int × Int × Int)) : Bool := decide (GOk n es)
theorem gok_true {n : Int} {es : List (Int × Int × Int)} (h : GOk n es) : gok n es = true := by simp [gok, h]
theorem gok_false {n : Int} {es : List (Int × Int × Int)} (h : ¬ GOk n es) : gok n es = false := by simp [gok, h]
theorem of_gok {n : Int} {es : List (Int × Int × Int)} (h : gok n es = true) : GOk n es := by simpa [gok] using h
theorem not_of_gok {n : Int} {es : List (Int × Int × Int)} (h : gok n es = false) : ¬ GOk n es := by simpa [gok] using h
theorem gbad {n : Int} {es : List (Int × Int × Int)} {k : Nat} (hk : k < es.length) (h : 0 ≤ n → ¬ EOk n es k) : AV.v (.bool false) = AV.v (.bool (gok n es)) := by
  rw [gok_false]; intro hg; exact h hg.1 (hg.2.2.2 k hk)
theorem gfin {n : Int} {es : List (Int × Int × Int)} (h0 : 0 ≤ n ∧ n ≤ 16) (h : ∀ j, j < es.length → EOk n es j) : AV.v (.bool (decide ((es.length : Int) ≤ 40))) = AV.v (.bool (gok n es)) := by
  by_cases hl : es.length ≤ 40
  · rw [gok_true ⟨h0.1, h0.2, hl, h⟩]; simp; omega
  · rw [gok_false (fun g => hl g.2.2.1)]; simp; omega
theorem gnot {n : Int} {es : List (Int × Int × Int)} (h : ¬ (0 ≤ n ∧ n ≤ 16 ∧ es.length ≤ 40)) : AV.v (.bool false) = AV.v (.bool (gok n es)) := by rw [gok_false (fun g => h ⟨g.1, g.2.1, g.2.2.1⟩)]
theorem EOk.more {n : Int} {es : List (Int × Int × Int)} {k : Nat} (h : ∀ j, j < k → EOk n es j) (hk : EOk n es k) (j : Nat) (hj : j < k + 1) : EOk n es j := by
  by_cases he : j = k
  · subst he; exact hk
  · exact h j (by omega)
theorem cmpE_neg (a b d e : Int) : orF [cmpI a d, cmpI b e] < 0 ↔ (a < d ∨ a = d ∧ b < e) := by
  simp only [orF, cmpI]; repeat' split
  all_goals omega
theorem to_int_sub {k : Nat} (h : 0 < k) : ((k : Int) - 1).toNat = k - 1 := by omega

theorem c_has (n : Int) (es : List (Int × Int × Int)) (v : Int) :
    FnA Try.prog 62 [.agg [.v (.int .i64 n), .sl 0], .v (.int .i64 v)] [.row false (.trips es)] [] (fun x H => x = .v (.bool (decide (0 ≤ v ∧ v < n))) ∧ H = [.row false (.trips es)]) := by
  refine FnA.of (N := 13) (pin := [0]) (rs := [.tmp 4]) Try.func62 rfl en62 rfl rfl (by simp) (by simp; try omega) ?_
  refine awp_seq fun K1 hK1 => ?_
  refine awp_region ftCOk ?_
  simp (maxSteps := 4000000) only [go_sem, Nat.reduceBEq, Nat.reduceLT, Nat.reduceAdd, Nat.reduceLeDiff, Nat.reduceSub, Nat.reduceEqDiff, Int.reduceToNat, reduceCtorEq, ↓reduceIte, l1InG, eqEdgeG, l4BeforeG, isNaNG, cmpIntG, cmpEndsG, toEdgeG, ftC]
  repeat' (first | refine And.intro ?_ ?_ | (intro hg; try simp at hg))
  all_goals first
    | refine hK1 _ _ ?_
    | exact trivial
    | omega
    | ((simp; omega))
  clear hK1
  refine awp_freeze 2 (by rfl) (by rfl) (by simp only [List.map_cons, List.map_nil, List.set_cons_succ, List.set_cons_zero, AObj.unview, reduceCtorEq, ↓reduceIte, Nat.reduceEqDiff]; exact rfl) ?_
  refine awp_seq fun K2 hK2 => ?_
  refine awp_region ftCOk ?_
  simp (maxSteps := 4000000) only [go_sem, Nat.reduceBEq, Nat.reduceLT, Nat.reduceAdd, Nat.reduceLeDiff, Nat.reduceSub, Nat.reduceEqDiff, Int.reduceToNat, reduceCtorEq, ↓reduceIte, l1InG, eqEdgeG, l4BeforeG, isNaNG, cmpIntG, cmpEndsG, toEdgeG, ftC]
  repeat' (first | refine And.intro ?_ ?_ | (intro hg; try simp at hg))
  all_goals first
    | refine hK2 _ _ ?_
    | exact trivial
    | omega
    | ((simp; omega))
  all_goals
    clear hK2
    refine awp_keep [0, 1, 2, 4] (by simp only [keepE, List.map_cons, List.map_nil, List.lookup, Nat.reduceBEq, Option.getD_some, Option.getD_none]; exact rfl) ?_
    refine awp_ret ?_
    (try simp only [Thn, InBlk, ↓reduceIte, Nat.reduceEqDiff])
    refine ⟨by simp, _, [0], (by simp only [go_sem, Nat.reduceBEq, Nat.reduceLT, Nat.reduceAdd, Nat.reduceLeDiff, Nat.reduceSub, Nat.reduceEqDiff, Int.reduceToNat, reduceCtorEq, ↓reduceIte]; exact rfl), ?_, ?_, ?_, ?_⟩
    · first | exact trivial | exact ⟨trivial, trivial⟩ | exact ⟨trivial, trivial, trivial⟩ | exact ⟨trivial, trivial, trivial, trivial⟩ | (simp only [allP, and_true, true_and]; done) | (simp only [allP, and_true, true_and]; omega)
    · simp [selOk, pos]
    · simp
    · simp only [go_sem, Nat.reduceBEq, Nat.reduceLT, Nat.reduceAdd, Nat.reduceLeDiff, Nat.reduceSub, Nat.reduceEqDiff, Int.reduceToNat, reduceCtorEq, ↓reduceIte]
      first | (refine ⟨bav_true (by omega), rfl⟩; done) | (refine ⟨bav_false (by omega), rfl⟩; done) | (refine ⟨bav_iff (by omega), rfl⟩; done) | exact bav_iff (by omega) | exact bav_false (by omega)
theorem c_spec_GraphValid (n : Int) (es : List (Int × Int × Int)) (hn : -9223372036854775808 ≤ n ∧ n ≤ 9223372036854775807) (hx : es.length ≤ 1000000000) :
    FnA Try.prog 57 [.agg [.v (.int .i64 n), .sl 0]] [.row false (.trips es)] [] (fun x H => x = .v (.bool (gok n es)) ∧ H = [.row false (.trips es)]) := by
  refine FnA.of (N := 70) (pin := [0]) (rs := [.tmp 2]) Try.func57 rfl en57 rfl rfl (by simp) (by simp; try omega) ?_
  refine awp_seq fun K1 hK1 => ?_
  refine awp_region ftCOk ?_
  simp (maxSteps := 4000000) only [go_sem, Nat.reduceBEq, Nat.reduceLT, Nat.reduceAdd, Nat.reduceLeDiff, Nat.reduceSub, Nat.reduceEqDiff, Int.reduceToNat, reduceCtorEq, ↓reduceIte, l1InG, eqEdgeG, l4BeforeG, isNaNG, cmpIntG, cmpEndsG, toEdgeG, ftC]
  repeat' (first | refine And.intro ?_ ?_ | (intro hg; try simp at hg))
  all_goals first
    | refine hK1 _ _ ?_
    | exact trivial
    | omega
    | ((simp; omega))
  clear hK1
  refine awp_freeze 1 (by rfl) (by rfl) (by simp only [List.map_cons, List.map_nil, List.set_cons_succ, List.set_cons_zero, AObj.unview, reduceCtorEq, ↓reduceIte, Nat.reduceEqDiff]; exact rfl) ?_
  refine awp_seq fun K2 hK2 => ?_
  refine awp_seq fun K3 hK3 => ?_
  refine awp_region ftCOk ?_
  simp (maxSteps := 4000000) only [go_sem, Nat.reduceBEq, Nat.reduceLT, Nat.reduceAdd, Nat.reduceLeDiff, Nat.reduceSub, Nat.reduceEqDiff, Int.reduceToNat, reduceCtorEq, ↓reduceIte, l1InG, eqEdgeG, l4BeforeG, isNaNG, cmpIntG, cmpEndsG, toEdgeG, ftC]
  repeat' (first | refine And.intro ?_ ?_ | (intro hg; try simp at hg))
  all_goals first
    | refine hK3 _ _ ?_
    | exact trivial
    | omega
    | ((simp; omega))
  clear hK3
  refine awp_block ?_
  refine awp_loop (σ := Nat) (fun k => k ≤ es.length ∧ (0 ≤ n → ∀ j, j < k → EOk n es j)) (fun k => [(1, .pp 1 0), (3, .v (.int .i64 (k : Int)))]) (fun _ => [.row false (.trips es), .rbox [.v (.int .i64 n), .sl 0]]) (fun k => es.length - k) (0) ?_ ?_ ?_
  · exact ⟨by omega, fun _ j hj => absurd hj (by omega)⟩
  · refine Red.fin ?_ rfl
    (simp only [Ele, Env.ren, AV.ren, AV.ren2, AV.ren1, AObj.ren, pos, selH, List.map_cons, List.map_nil, List.lookup, Nat.reduceBEq, Nat.reduceAdd, Nat.reduceEqDiff, Option.some.injEq, AV.v.injEq, AV.sl.injEq, AV.pp.injEq, AV.ep.injEq, AV.agg.injEq, List.cons.injEq, Value.int.injEq, Value.bool.injEq, Value.string.injEq, true_and, and_true, true_or, or_true, or_false, false_or, reduceCtorEq, ↓reduceIte, Option.getD_some, Option.getD_none, List.getElem?_cons_zero, List.getElem?_cons_succ, List.getElem?_nil, Nat.zero_add, Nat.one_ne_zero, Nat.zero_ne_one, and_self]) <;> first | done | omega
  · intro k hs
    refine awp_seq fun K4 hK4 => ?_
    refine awp_seq fun K5 hK5 => ?_
    refine awp_region ftCOk ?_
    simp (maxSteps := 4000000) only [go_sem, Nat.reduceBEq, Nat.reduceLT, Nat.reduceAdd, Nat.reduceLeDiff, Nat.reduceSub, Nat.reduceEqDiff, Int.reduceToNat, reduceCtorEq, ↓reduceIte, l1InG, eqEdgeG, l4BeforeG, isNaNG, cmpIntG, cmpEndsG, toEdgeG, ftC]
    repeat' (first | refine And.intro ?_ ?_ | (intro hg; try simp at hg))
    all_goals first
      | refine hK5 _ _ ?_
      | exact trivial
      | omega
      | ((simp; omega))
    clear hK5
    refine awp_cond (t := 9) rfl (fun hc0 => ?_) (fun hc0 => ?_)
    · first
      | exact absurd hc0 (by decide)
      | (simp at hc0; done)
      | (exfalso; (try simp at hc0); omega)
      | ((try simp at hc0)
         refine awp_skip ?_
         refine hK4 _ _ ?_
         clear hK4
         refine awp_seq fun K6 hK6 => ?_
         refine awp_block ?_
         refine awp_seq fun K7 hK7 => ?_
         refine awp_region ftCOk ?_
         simp (maxSteps := 4000000) only [go_sem, Nat.reduceBEq, Nat.reduceLT, Nat.reduceAdd, Nat.reduceLeDiff, Nat.reduceSub, Nat.reduceEqDiff, Int.reduceToNat, reduceCtorEq, ↓reduceIte, l1InG, eqEdgeG, l4BeforeG, isNaNG, cmpIntG, cmpEndsG, toEdgeG, ftC]
         repeat' (first | refine And.intro ?_ ?_ | (intro hg; try simp at hg))
         all_goals first
           | refine hK7 _ _ ?_
           | exact trivial
           | omega
           | ((simp; omega))
         clear hK7
         refine awp_keep [0, 1, 2, 3, 4, 9] (by simp only [keepE, List.map_cons, List.map_nil, List.lookup, Nat.reduceBEq, Option.getD_some, Option.getD_none]; exact rfl) ?_
         refine awp_seq fun K8 hK8 => ?_
         refine awp_quietg mixed ftCOk (by kernel_rfl) ?_
         simp (maxSteps := 4000000) only [go_sem, Nat.reduceBEq, Nat.reduceLT, Nat.reduceAdd, Nat.reduceLeDiff, Nat.reduceSub, Nat.reduceEqDiff, Int.reduceToNat, reduceCtorEq, ↓reduceIte, l1InG, eqEdgeG, l4BeforeG, isNaNG, cmpIntG, cmpEndsG, toEdgeG, ftC]
         repeat' (first | refine And.intro ?_ ?_ | (intro hg; try simp at hg))
         all_goals (try simp (disch := omega) only [wrap_fits])
         all_goals first
           | refine hK8 _ _ ?_
           | exact trivial
           | omega
           | ((simp; omega))
         all_goals
           clear hK8
           refine awp_keep [0, 1, 2, 3, 4, 9, 60] (by simp only [keepE, List.map_cons, List.map_nil, List.lookup, Nat.reduceBEq, Option.getD_some, Option.getD_none]; exact rfl) ?_
           refine awp_cond (t := 60) rfl (fun hc1 => ?_) (fun hc1 => ?_)
           · first
             | exact absurd hc1 (by decide)
             | (simp at hc1; done)
             | (exfalso; (try simp at hc1); omega)
             | ((try simp at hc1)
                refine awp_seq fun K9 hK9 => ?_
                refine awp_region ftCOk ?_
                simp (maxSteps := 4000000) only [go_sem, Nat.reduceBEq, Nat.reduceLT, Nat.reduceAdd, Nat.reduceLeDiff, Nat.reduceSub, Nat.reduceEqDiff, Int.reduceToNat, reduceCtorEq, ↓reduceIte, l1InG, eqEdgeG, l4BeforeG, isNaNG, cmpIntG, cmpEndsG, toEdgeG, ftC]
                repeat' (first | refine And.intro ?_ ?_ | (intro hg; try simp at hg))
                all_goals first
                  | refine hK9 _ _ ?_
                  | exact trivial
                  | omega
                  | ((simp; omega))
                clear hK9
                refine awp_ret ?_
                (try simp only [Thn, InBlk, ↓reduceIte, Nat.reduceEqDiff])
                refine ⟨by simp, _, [0], (by simp only [go_sem, Nat.reduceBEq, Nat.reduceLT, Nat.reduceAdd, Nat.reduceLeDiff, Nat.reduceSub, Nat.reduceEqDiff, Int.reduceToNat, reduceCtorEq, ↓reduceIte]; exact rfl), ?_, ?_, ?_, ?_⟩
                · first | exact trivial | exact ⟨trivial, trivial⟩ | exact ⟨trivial, trivial, trivial⟩ | exact ⟨trivial, trivial, trivial, trivial⟩ | (simp only [allP, and_true, true_and]; done) | (simp only [allP, and_true, true_and]; omega)
                · simp [selOk, pos]
                · simp
                · simp only [go_sem, Nat.reduceBEq, Nat.reduceLT, Nat.reduceAdd, Nat.reduceLeDiff, Nat.reduceSub, Nat.reduceEqDiff, Int.reduceToNat, reduceCtorEq, ↓reduceIte]
                  refine gbad hc0 (fun h0 he => ?_); have hw := wrap_fits (n := n - 1) (by omega) (by omega); simp only [EOk] at he; omega)
           · first
             | exact absurd hc1 (by decide)
             | (simp at hc1; done)
             | (exfalso; (try simp at hc1); omega)
             | ((try simp at hc1)
                refine awp_skip ?_
                (try simp only [Thn, InBlk, ↓reduceIte, Nat.reduceEqDiff])
                refine hK6 _ _ ?_
                clear hK6
                refine awp_last fun K10 hK10 => ?_
                refine awp_region ftCOk ?_
                simp (maxSteps := 4000000) only [go_sem, Nat.reduceBEq, Nat.reduceLT, Nat.reduceAdd, Nat.reduceLeDiff, Nat.reduceSub, Nat.reduceEqDiff, Int.reduceToNat, reduceCtorEq, ↓reduceIte, l1InG, eqEdgeG, l4BeforeG, isNaNG, cmpIntG, cmpEndsG, toEdgeG, ftC]
                repeat' (first | refine And.intro ?_ ?_ | (intro hg; try simp at hg))
                all_goals first
                  | refine hK10 _ _ ?_
                  | exact trivial
                  | omega
                  | ((simp; omega))
                clear hK10
                (try simp only [Thn, InBlk, ↓reduceIte, Nat.reduceEqDiff])
                refine ⟨k + 1, ?_, ?_, ?_⟩
                · exact ⟨by omega, fun h0 => EOk.more (hs.2 h0) (by have hw := wrap_fits (n := n - 1) (by omega) (by omega); simp only [EOk]; omega)⟩
                · first | omega | (simp only []; omega)
                · refine Red.trans (Red.sel [0, 1] (by simp [selOk, pos])) (Red.fin ?_ rfl)
                  (simp only [Ele, Env.ren, AV.ren, AV.ren2, AV.ren1, AObj.ren, pos, selH, List.map_cons, List.map_nil, List.lookup, Nat.reduceBEq, Nat.reduceAdd, Nat.reduceEqDiff, Option.some.injEq, AV.v.injEq, AV.sl.injEq, AV.pp.injEq, AV.ep.injEq, AV.agg.injEq, List.cons.injEq, Value.int.injEq, Value.bool.injEq, Value.string.injEq, true_and, and_true, true_or, or_true, or_false, false_or, reduceCtorEq, ↓reduceIte, Option.getD_some, Option.getD_none, List.getElem?_cons_zero, List.getElem?_cons_succ, List.getElem?_nil, Nat.zero_add, Nat.one_ne_zero, Nat.zero_ne_one, and_self]) <;> first | done | omega | (refine ⟨?_, ?_⟩ <;> omega)))
    · first
      | exact absurd hc0 (by decide)
      | (simp at hc0; done)
      | (exfalso; (try simp at hc0); omega)
      | ((try simp at hc0)
         refine awp_exit ?_
         (try simp only [Thn, InBlk, ↓reduceIte, Nat.reduceEqDiff])
         refine hK2 _ _ ?_
         clear hK2
         refine awp_seq fun K11 hK11 => ?_
         refine awp_region ftCOk ?_
         simp (maxSteps := 4000000) only [go_sem, Nat.reduceBEq, Nat.reduceLT, Nat.reduceAdd, Nat.reduceLeDiff, Nat.reduceSub, Nat.reduceEqDiff, Int.reduceToNat, reduceCtorEq, ↓reduceIte, l1InG, eqEdgeG, l4BeforeG, isNaNG, cmpIntG, cmpEndsG, toEdgeG, ftC]
         repeat' (first | refine And.intro ?_ ?_ | (intro hg; try simp at hg))
         all_goals first
           | refine hK11 _ _ ?_
           | exact trivial
           | omega
           | ((simp; omega))
         all_goals
           clear hK11
           refine awp_keep [0, 1, 2, 3, 4, 9, 60] (by simp only [keepE, List.map_cons, List.map_nil, List.lookup, Nat.reduceBEq, Option.getD_some, Option.getD_none]; exact rfl) ?_
           refine awp_ret ?_
           (try simp only [Thn, InBlk, ↓reduceIte, Nat.reduceEqDiff])
           refine ⟨by simp, _, [0], (by simp only [go_sem, Nat.reduceBEq, Nat.reduceLT, Nat.reduceAdd, Nat.reduceLeDiff, Nat.reduceSub, Nat.reduceEqDiff, Int.reduceToNat, reduceCtorEq, ↓reduceIte]; exact rfl), ?_, ?_, ?_, ?_⟩
           · first | exact trivial | exact ⟨trivial, trivial⟩ | exact ⟨trivial, trivial, trivial⟩ | exact ⟨trivial, trivial, trivial, trivial⟩ | (simp only [allP, and_true, true_and]; done) | (simp only [allP, and_true, true_and]; omega)
           · simp [selOk, pos]
           · simp
           · simp only [go_sem, Nat.reduceBEq, Nat.reduceLT, Nat.reduceAdd, Nat.reduceLeDiff, Nat.reduceSub, Nat.reduceEqDiff, Int.reduceToNat, reduceCtorEq, ↓reduceIte]
             first | exact gfin hg (fun j hj => hs.2 hg.1 j (by omega)) | exact gnot (by omega))
theorem c_impl_GraphValid (n : Int) (es : List (Int × Int × Int)) (hx : es.length ≤ 1000000000) :
    FnA Try.prog 61 [.agg [.v (.int .i64 n), .sl 0]] [.row false (.trips es)] [] (fun x H => x = .v (.bool (gok n es)) ∧ H = [.row false (.trips es)]) := by
  refine FnA.of (N := 68) (pin := [0]) (rs := [.tmp 2]) Try.func61 rfl en61 rfl rfl (by simp) (by simp; try omega) ?_
  refine awp_seq fun K1 hK1 => ?_
  refine awp_region ftCOk ?_
  simp (maxSteps := 4000000) only [go_sem, Nat.reduceBEq, Nat.reduceLT, Nat.reduceAdd, Nat.reduceLeDiff, Nat.reduceSub, Nat.reduceEqDiff, Int.reduceToNat, reduceCtorEq, ↓reduceIte, l1InG, eqEdgeG, l4BeforeG, isNaNG, cmpIntG, cmpEndsG, toEdgeG, ftC]
  repeat' (first | refine And.intro ?_ ?_ | (intro hg; try simp at hg))
  all_goals first
    | refine hK1 _ _ ?_
    | exact trivial
    | omega
    | ((simp; omega))
  clear hK1
  refine awp_freeze 1 (by rfl) (by rfl) (by simp only [List.map_cons, List.map_nil, List.set_cons_succ, List.set_cons_zero, AObj.unview, reduceCtorEq, ↓reduceIte, Nat.reduceEqDiff]; exact rfl) ?_
  refine awp_seq fun K2 hK2 => ?_
  refine awp_seq fun K3 hK3 => ?_
  refine awp_region ftCOk ?_
  simp (maxSteps := 4000000) only [go_sem, Nat.reduceBEq, Nat.reduceLT, Nat.reduceAdd, Nat.reduceLeDiff, Nat.reduceSub, Nat.reduceEqDiff, Int.reduceToNat, reduceCtorEq, ↓reduceIte, l1InG, eqEdgeG, l4BeforeG, isNaNG, cmpIntG, cmpEndsG, toEdgeG, ftC]
  repeat' (first | refine And.intro ?_ ?_ | (intro hg; try simp at hg))
  all_goals first
    | refine hK3 _ _ ?_
    | exact trivial
    | omega
    | ((simp; omega))
  all_goals
    clear hK3
    refine awp_keep [0, 1, 2, 18] (by simp only [keepE, List.map_cons, List.map_nil, List.lookup, Nat.reduceBEq, Option.getD_some, Option.getD_none]; exact rfl) ?_
    refine awp_cond (t := 18) rfl (fun hc0 => ?_) (fun hc0 => ?_)
    · first
      | exact absurd hc0 (by decide)
      | (simp at hc0; done)
      | (exfalso; (try simp at hc0); omega)
      | ((try simp at hc0)
         refine awp_seq fun K4 hK4 => ?_
         refine awp_region ftCOk ?_
         simp (maxSteps := 4000000) only [go_sem, Nat.reduceBEq, Nat.reduceLT, Nat.reduceAdd, Nat.reduceLeDiff, Nat.reduceSub, Nat.reduceEqDiff, Int.reduceToNat, reduceCtorEq, ↓reduceIte, l1InG, eqEdgeG, l4BeforeG, isNaNG, cmpIntG, cmpEndsG, toEdgeG, ftC]
         repeat' (first | refine And.intro ?_ ?_ | (intro hg; try simp at hg))
         all_goals first
           | refine hK4 _ _ ?_
           | exact trivial
           | omega
           | ((simp; omega))
         clear hK4
         refine awp_ret ?_
         (try simp only [Thn, InBlk, ↓reduceIte, Nat.reduceEqDiff])
         refine ⟨by simp, _, [0], (by simp only [go_sem, Nat.reduceBEq, Nat.reduceLT, Nat.reduceAdd, Nat.reduceLeDiff, Nat.reduceSub, Nat.reduceEqDiff, Int.reduceToNat, reduceCtorEq, ↓reduceIte]; exact rfl), ?_, ?_, ?_, ?_⟩
         · first | exact trivial | exact ⟨trivial, trivial⟩ | exact ⟨trivial, trivial, trivial⟩ | exact ⟨trivial, trivial, trivial, trivial⟩ | (simp only [allP, and_true, true_and]; done) | (simp only [allP, and_true, true_and]; omega)
         · simp [selOk, pos]
         · simp
         · simp only [go_sem, Nat.reduceBEq, Nat.reduceLT, Nat.reduceAdd, Nat.reduceLeDiff, Nat.reduceSub, Nat.reduceEqDiff, Int.reduceToNat, reduceCtorEq, ↓reduceIte]
           exact gnot (by omega))
    · first
      | exact absurd hc0 (by decide)
      | (simp at hc0; done)
      | (exfalso; (try simp at hc0); omega)
      | ((try simp at hc0)
         refine awp_skip ?_
         refine hK2 _ _ ?_
         clear hK2
         refine awp_seq fun K5 hK5 => ?_
         refine awp_seq fun K6 hK6 => ?_
         refine awp_region ftCOk ?_
         simp (maxSteps := 4000000) only [go_sem, Nat.reduceBEq, Nat.reduceLT, Nat.reduceAdd, Nat.reduceLeDiff, Nat.reduceSub, Nat.reduceEqDiff, Int.reduceToNat, reduceCtorEq, ↓reduceIte, l1InG, eqEdgeG, l4BeforeG, isNaNG, cmpIntG, cmpEndsG, toEdgeG, ftC]
         repeat' (first | refine And.intro ?_ ?_ | (intro hg; try simp at hg))
         all_goals first
           | refine hK6 _ _ ?_
           | exact trivial
           | omega
           | ((simp; omega))
         clear hK6
         refine awp_block ?_
         refine awp_loop (σ := Nat) (fun k => k ≤ es.length ∧ (0 ≤ n ∧ n ≤ 16 ∧ es.length ≤ 40) ∧ ∀ j, j < k → EOk n es j) (fun k => [(1, .pp 1 0), (20, .sl 0), (21, .v (.int .i64 (es.length : Int))), (22, .v (.int .i64 (k : Int)))]) (fun _ => [.row false (.trips es), .rbox [.v (.int .i64 n), .sl 0]]) (fun k => es.length - k) (0) ?_ ?_ ?_
         · exact ⟨by omega, by omega, fun j hj => absurd hj (by omega)⟩
         · refine Red.fin ?_ rfl
           (simp only [Ele, Env.ren, AV.ren, AV.ren2, AV.ren1, AObj.ren, pos, selH, List.map_cons, List.map_nil, List.lookup, Nat.reduceBEq, Nat.reduceAdd, Nat.reduceEqDiff, Option.some.injEq, AV.v.injEq, AV.sl.injEq, AV.pp.injEq, AV.ep.injEq, AV.agg.injEq, List.cons.injEq, Value.int.injEq, Value.bool.injEq, Value.string.injEq, true_and, and_true, true_or, or_true, or_false, false_or, reduceCtorEq, ↓reduceIte, Option.getD_some, Option.getD_none, List.getElem?_cons_zero, List.getElem?_cons_succ, List.getElem?_nil, Nat.zero_add, Nat.one_ne_zero, Nat.zero_ne_one, and_self]) <;> first | done | omega
         · intro k hs
           refine awp_seq fun K7 hK7 => ?_
           refine awp_region ftCOk ?_
           simp (maxSteps := 4000000) only [go_sem, Nat.reduceBEq, Nat.reduceLT, Nat.reduceAdd, Nat.reduceLeDiff, Nat.reduceSub, Nat.reduceEqDiff, Int.reduceToNat, reduceCtorEq, ↓reduceIte, l1InG, eqEdgeG, l4BeforeG, isNaNG, cmpIntG, cmpEndsG, toEdgeG, ftC]
           repeat' (first | refine And.intro ?_ ?_ | (intro hg; try simp at hg))
           all_goals first
             | refine hK7 _ _ ?_
             | exact trivial
             | omega
             | ((simp; omega))
           clear hK7
           refine awp_seq fun K8 hK8 => ?_
           refine awp_cond (t := 23) rfl (fun hc1 => ?_) (fun hc1 => ?_)
           · first
             | exact absurd hc1 (by decide)
             | (simp at hc1; done)
             | (exfalso; (try simp at hc1); omega)
             | ((try simp at hc1)
                refine awp_skip ?_
                refine hK8 _ _ ?_
                clear hK8
                refine awp_seq fun K9 hK9 => ?_
                refine awp_block ?_
                refine awp_seq fun K10 hK10 => ?_
                refine awp_region ftCOk ?_
                simp (maxSteps := 4000000) only [go_sem, Nat.reduceBEq, Nat.reduceLT, Nat.reduceAdd, Nat.reduceLeDiff, Nat.reduceSub, Nat.reduceEqDiff, Int.reduceToNat, reduceCtorEq, ↓reduceIte, l1InG, eqEdgeG, l4BeforeG, isNaNG, cmpIntG, cmpEndsG, toEdgeG, ftC]
                repeat' (first | refine And.intro ?_ ?_ | (intro hg; try simp at hg))
                all_goals first
                  | refine hK10 _ _ ?_
                  | exact trivial
                  | omega
                  | ((simp; omega))
                clear hK10
                refine awp_keep [0, 1, 2, 3, 4, 18, 20, 21, 22, 23] (by simp only [keepE, List.map_cons, List.map_nil, List.lookup, Nat.reduceBEq, Option.getD_some, Option.getD_none]; exact rfl) ?_
                refine awp_seq fun K11 hK11 => ?_
                refine awp_seq fun K12 hK12 => ?_
                refine awp_region ftCOk ?_
                simp (maxSteps := 4000000) only [go_sem, Nat.reduceBEq, Nat.reduceLT, Nat.reduceAdd, Nat.reduceLeDiff, Nat.reduceSub, Nat.reduceEqDiff, Int.reduceToNat, reduceCtorEq, ↓reduceIte, l1InG, eqEdgeG, l4BeforeG, isNaNG, cmpIntG, cmpEndsG, toEdgeG, ftC]
                repeat' (first | refine And.intro ?_ ?_ | (intro hg; try simp at hg))
                all_goals first
                  | refine hK12 _ _ ?_
                  | (refine wpA_call (c_has n es (es[k]?.getD (0, 0, 0)).1) [0] [] (by rfl) ?_ (by rfl) ?_ ?_ ?_ ?_ ?_
                     · first | (simp (maxSteps := 4000000) only [go_sem, Nat.reduceBEq, Nat.reduceLT, Nat.reduceAdd, Nat.reduceLeDiff, Nat.reduceSub, Nat.reduceEqDiff, Int.reduceToNat, reduceCtorEq, ↓reduceIte, l1InG, eqEdgeG, l4BeforeG, isNaNG, cmpIntG, cmpEndsG, toEdgeG, ftC]; done) | (simp (maxSteps := 4000000) only [go_sem, Nat.reduceBEq, Nat.reduceLT, Nat.reduceAdd, Nat.reduceLeDiff, Nat.reduceSub, Nat.reduceEqDiff, Int.reduceToNat, reduceCtorEq, ↓reduceIte, l1InG, eqEdgeG, l4BeforeG, isNaNG, cmpIntG, cmpEndsG, toEdgeG, ftC] <;> simp)
                     · simp [exIds, AObj.excl]
                     · first | (simp (maxSteps := 4000000) only [go_sem, Nat.reduceBEq, Nat.reduceLT, Nat.reduceAdd, Nat.reduceLeDiff, Nat.reduceSub, Nat.reduceEqDiff, Int.reduceToNat, reduceCtorEq, ↓reduceIte, l1InG, eqEdgeG, l4BeforeG, isNaNG, cmpIntG, cmpEndsG, toEdgeG, ftC]; done) | (simp (maxSteps := 4000000) only [go_sem, Nat.reduceBEq, Nat.reduceLT, Nat.reduceAdd, Nat.reduceLeDiff, Nat.reduceSub, Nat.reduceEqDiff, Int.reduceToNat, reduceCtorEq, ↓reduceIte, l1InG, eqEdgeG, l4BeforeG, isNaNG, cmpIntG, cmpEndsG, toEdgeG, ftC] <;> simp)
                     · simp
                     · simp [exIds, AObj.excl]
                     intro x Hc' hR hlen
                     obtain ⟨rfl, rfl⟩ := hR
                     all_goals
                       refine vcOps_sound ftCOk ?_
                       simp (maxSteps := 4000000) only [go_sem, Nat.reduceBEq, Nat.reduceLT, Nat.reduceAdd, Nat.reduceLeDiff, Nat.reduceSub, Nat.reduceEqDiff, Int.reduceToNat, reduceCtorEq, ↓reduceIte, l1InG, eqEdgeG, l4BeforeG, isNaNG, cmpIntG, cmpEndsG, toEdgeG, ftC]
                       repeat' (first | refine And.intro ?_ ?_ | (intro hg; try simp at hg))
                       all_goals first
                         | refine hK12 _ _ ?_
                         | (refine wpA_guard rfl rfl ?_
                            refine wpA_call (c_has n es (es[k]?.getD (0, 0, 0)).2.1) [0] [] (by rfl) ?_ (by rfl) ?_ ?_ ?_ ?_ ?_
                            · first | (simp (maxSteps := 4000000) only [go_sem, Nat.reduceBEq, Nat.reduceLT, Nat.reduceAdd, Nat.reduceLeDiff, Nat.reduceSub, Nat.reduceEqDiff, Int.reduceToNat, reduceCtorEq, ↓reduceIte, l1InG, eqEdgeG, l4BeforeG, isNaNG, cmpIntG, cmpEndsG, toEdgeG, ftC]; done) | (simp (maxSteps := 4000000) only [go_sem, Nat.reduceBEq, Nat.reduceLT, Nat.reduceAdd, Nat.reduceLeDiff, Nat.reduceSub, Nat.reduceEqDiff, Int.reduceToNat, reduceCtorEq, ↓reduceIte, l1InG, eqEdgeG, l4BeforeG, isNaNG, cmpIntG, cmpEndsG, toEdgeG, ftC] <;> simp)
                            · simp [exIds, AObj.excl]
                            · first | (simp (maxSteps := 4000000) only [go_sem, Nat.reduceBEq, Nat.reduceLT, Nat.reduceAdd, Nat.reduceLeDiff, Nat.reduceSub, Nat.reduceEqDiff, Int.reduceToNat, reduceCtorEq, ↓reduceIte, l1InG, eqEdgeG, l4BeforeG, isNaNG, cmpIntG, cmpEndsG, toEdgeG, ftC]; done) | (simp (maxSteps := 4000000) only [go_sem, Nat.reduceBEq, Nat.reduceLT, Nat.reduceAdd, Nat.reduceLeDiff, Nat.reduceSub, Nat.reduceEqDiff, Int.reduceToNat, reduceCtorEq, ↓reduceIte, l1InG, eqEdgeG, l4BeforeG, isNaNG, cmpIntG, cmpEndsG, toEdgeG, ftC] <;> simp)
                            · simp
                            · simp [exIds, AObj.excl]
                            intro x Hc' hR hlen
                            obtain ⟨rfl, rfl⟩ := hR
                            all_goals
                              refine vcOps_sound ftCOk ?_
                              simp (maxSteps := 4000000) only [go_sem, Nat.reduceBEq, Nat.reduceLT, Nat.reduceAdd, Nat.reduceLeDiff, Nat.reduceSub, Nat.reduceEqDiff, Int.reduceToNat, reduceCtorEq, ↓reduceIte, l1InG, eqEdgeG, l4BeforeG, isNaNG, cmpIntG, cmpEndsG, toEdgeG, ftC]
                              repeat' (first | refine And.intro ?_ ?_ | (intro hg; try simp at hg))
                              all_goals first
                                | refine hK12 _ _ ?_
                                | exact trivial
                                | omega
                                | ((simp; omega)))
                         | exact trivial
                         | omega
                         | ((simp; omega)))
                  | exact trivial
                  | omega
                  | ((simp; omega))
                all_goals
                  clear hK12
                  refine awp_keep [0, 1, 2, 3, 4, 18, 20, 21, 22, 23, 45] (by simp only [keepE, List.map_cons, List.map_nil, List.lookup, Nat.reduceBEq, Option.getD_some, Option.getD_none]; exact rfl) ?_
                  refine awp_cond (t := 45) rfl (fun hc2 => ?_) (fun hc2 => ?_)
                  · first
                    | exact absurd hc2 (by decide)
                    | (simp at hc2; done)
                    | (exfalso; (try simp at hc2); omega)
                    | ((try simp at hc2)
                       refine awp_seq fun K13 hK13 => ?_
                       refine awp_region ftCOk ?_
                       simp (maxSteps := 4000000) only [go_sem, Nat.reduceBEq, Nat.reduceLT, Nat.reduceAdd, Nat.reduceLeDiff, Nat.reduceSub, Nat.reduceEqDiff, Int.reduceToNat, reduceCtorEq, ↓reduceIte, l1InG, eqEdgeG, l4BeforeG, isNaNG, cmpIntG, cmpEndsG, toEdgeG, ftC]
                       repeat' (first | refine And.intro ?_ ?_ | (intro hg; try simp at hg))
                       all_goals first
                         | refine hK13 _ _ ?_
                         | exact trivial
                         | omega
                         | ((simp; omega))
                       clear hK13
                       refine awp_ret ?_
                       (try simp only [Thn, InBlk, ↓reduceIte, Nat.reduceEqDiff])
                       refine ⟨by simp, _, [0], (by simp only [go_sem, Nat.reduceBEq, Nat.reduceLT, Nat.reduceAdd, Nat.reduceLeDiff, Nat.reduceSub, Nat.reduceEqDiff, Int.reduceToNat, reduceCtorEq, ↓reduceIte]; exact rfl), ?_, ?_, ?_, ?_⟩
                       · first | exact trivial | exact ⟨trivial, trivial⟩ | exact ⟨trivial, trivial, trivial⟩ | exact ⟨trivial, trivial, trivial, trivial⟩ | (simp only [allP, and_true, true_and]; done) | (simp only [allP, and_true, true_and]; omega)
                       · simp [selOk, pos]
                       · simp
                       · simp only [go_sem, Nat.reduceBEq, Nat.reduceLT, Nat.reduceAdd, Nat.reduceLeDiff, Nat.reduceSub, Nat.reduceEqDiff, Int.reduceToNat, reduceCtorEq, ↓reduceIte]
                         refine gbad hc1 (fun h0 he => ?_); have hq := cmpE_neg (es[k - 1]?.getD (0, 0, 0)).1 (es[k - 1]?.getD (0, 0, 0)).2.1 (es[k]?.getD (0, 0, 0)).1 (es[k]?.getD (0, 0, 0)).2.1; simp only [EOk] at he; omega)
                  · first
                    | exact absurd hc2 (by decide)
                    | (simp at hc2; done)
                    | (exfalso; (try simp at hc2); omega)
                    | ((try simp at hc2)
                       refine awp_skip ?_
                       refine hK11 _ _ ?_
                       clear hK11
                       refine awp_seq fun K14 hK14 => ?_
                       refine awp_seq fun K15 hK15 => ?_
                       refine awp_region ftCOk ?_
                       simp (maxSteps := 4000000) only [go_sem, Nat.reduceBEq, Nat.reduceLT, Nat.reduceAdd, Nat.reduceLeDiff, Nat.reduceSub, Nat.reduceEqDiff, Int.reduceToNat, reduceCtorEq, ↓reduceIte, l1InG, eqEdgeG, l4BeforeG, isNaNG, cmpIntG, cmpEndsG, toEdgeG, ftC]
                       repeat' (first | refine And.intro ?_ ?_ | (intro hg; try simp at hg))
                       all_goals first
                         | refine hK15 _ _ ?_
                         | exact trivial
                         | omega
                         | ((simp; omega))
                       all_goals
                         clear hK15
                         refine awp_keep [0, 1, 2, 3, 4, 18, 20, 21, 22, 23, 45, 53] (by simp only [keepE, List.map_cons, List.map_nil, List.lookup, Nat.reduceBEq, Option.getD_some, Option.getD_none]; exact rfl) ?_
                         refine awp_cond (t := 53) rfl (fun hc3 => ?_) (fun hc3 => ?_)
                         · first
                           | exact absurd hc3 (by decide)
                           | (simp at hc3; done)
                           | (exfalso; (try simp at hc3); omega)
                           | ((try simp at hc3)
                              refine awp_seq fun K16 hK16 => ?_
                              refine awp_region ftCOk ?_
                              simp (maxSteps := 4000000) only [go_sem, Nat.reduceBEq, Nat.reduceLT, Nat.reduceAdd, Nat.reduceLeDiff, Nat.reduceSub, Nat.reduceEqDiff, Int.reduceToNat, reduceCtorEq, ↓reduceIte, l1InG, eqEdgeG, l4BeforeG, isNaNG, cmpIntG, cmpEndsG, toEdgeG, ftC]
                              repeat' (first | refine And.intro ?_ ?_ | (intro hg; try simp at hg))
                              all_goals first
                                | refine hK16 _ _ ?_
                                | exact trivial
                                | omega
                                | ((simp; omega))
                              clear hK16
                              refine awp_ret ?_
                              (try simp only [Thn, InBlk, ↓reduceIte, Nat.reduceEqDiff])
                              refine ⟨by simp, _, [0], (by simp only [go_sem, Nat.reduceBEq, Nat.reduceLT, Nat.reduceAdd, Nat.reduceLeDiff, Nat.reduceSub, Nat.reduceEqDiff, Int.reduceToNat, reduceCtorEq, ↓reduceIte]; exact rfl), ?_, ?_, ?_, ?_⟩
                              · first | exact trivial | exact ⟨trivial, trivial⟩ | exact ⟨trivial, trivial, trivial⟩ | exact ⟨trivial, trivial, trivial, trivial⟩ | (simp only [allP, and_true, true_and]; done) | (simp only [allP, and_true, true_and]; omega)
                              · simp [selOk, pos]
                              · simp
                              · simp only [go_sem, Nat.reduceBEq, Nat.reduceLT, Nat.reduceAdd, Nat.reduceLeDiff, Nat.reduceSub, Nat.reduceEqDiff, Int.reduceToNat, reduceCtorEq, ↓reduceIte]
                                refine gbad hc1 (fun h0 he => ?_); have hq := cmpE_neg (es[k - 1]?.getD (0, 0, 0)).1 (es[k - 1]?.getD (0, 0, 0)).2.1 (es[k]?.getD (0, 0, 0)).1 (es[k]?.getD (0, 0, 0)).2.1; simp only [EOk] at he; omega)
                         · first
                           | exact absurd hc3 (by decide)
                           | (simp at hc3; done)
                           | (exfalso; (try simp at hc3); omega)
                           | ((try simp at hc3)
                              refine awp_skip ?_
                              refine hK14 _ _ ?_
                              clear hK14
                              refine awp_seq fun K17 hK17 => ?_
                              refine awp_quietg mixed ftCOk (by kernel_rfl) ?_
                              simp (maxSteps := 4000000) only [go_sem, Nat.reduceBEq, Nat.reduceLT, Nat.reduceAdd, Nat.reduceLeDiff, Nat.reduceSub, Nat.reduceEqDiff, Int.reduceToNat, reduceCtorEq, ↓reduceIte, l1InG, eqEdgeG, l4BeforeG, isNaNG, cmpIntG, cmpEndsG, toEdgeG, ftC]
                              repeat' (first | refine And.intro ?_ ?_ | (intro hg; try simp at hg))
                              all_goals (try simp (disch := omega) only [wrap_fits])
                              all_goals first
                                | refine hK17 _ _ ?_
                                | exact trivial
                                | omega
                                | ((simp; omega))
                              all_goals
                                clear hK17
                                refine awp_keep [0, 1, 2, 3, 4, 18, 20, 21, 22, 23, 45, 53, 66] (by simp only [keepE, List.map_cons, List.map_nil, List.lookup, Nat.reduceBEq, Option.getD_some, Option.getD_none]; exact rfl) ?_
                                refine awp_cond (t := 66) rfl (fun hc4 => ?_) (fun hc4 => ?_)
                                · first
                                  | exact absurd hc4 (by decide)
                                  | (simp at hc4; done)
                                  | (exfalso; (try simp at hc4); omega)
                                  | ((try simp at hc4)
                                     refine awp_seq fun K18 hK18 => ?_
                                     refine awp_region ftCOk ?_
                                     simp (maxSteps := 4000000) only [go_sem, Nat.reduceBEq, Nat.reduceLT, Nat.reduceAdd, Nat.reduceLeDiff, Nat.reduceSub, Nat.reduceEqDiff, Int.reduceToNat, reduceCtorEq, ↓reduceIte, l1InG, eqEdgeG, l4BeforeG, isNaNG, cmpIntG, cmpEndsG, toEdgeG, ftC]
                                     repeat' (first | refine And.intro ?_ ?_ | (intro hg; try simp at hg))
                                     all_goals first
                                       | refine hK18 _ _ ?_
                                       | exact trivial
                                       | omega
                                       | ((simp; omega))
                                     clear hK18
                                     refine awp_ret ?_
                                     (try simp only [Thn, InBlk, ↓reduceIte, Nat.reduceEqDiff])
                                     refine ⟨by simp, _, [0], (by simp only [go_sem, Nat.reduceBEq, Nat.reduceLT, Nat.reduceAdd, Nat.reduceLeDiff, Nat.reduceSub, Nat.reduceEqDiff, Int.reduceToNat, reduceCtorEq, ↓reduceIte]; exact rfl), ?_, ?_, ?_, ?_⟩
                                     · first | exact trivial | exact ⟨trivial, trivial⟩ | exact ⟨trivial, trivial, trivial⟩ | exact ⟨trivial, trivial, trivial, trivial⟩ | (simp only [allP, and_true, true_and]; done) | (simp only [allP, and_true, true_and]; omega)
                                     · simp [selOk, pos]
                                     · simp
                                     · simp only [go_sem, Nat.reduceBEq, Nat.reduceLT, Nat.reduceAdd, Nat.reduceLeDiff, Nat.reduceSub, Nat.reduceEqDiff, Int.reduceToNat, reduceCtorEq, ↓reduceIte]
                                       refine gbad hc1 (fun h0 he => ?_); have hq := cmpE_neg (es[k - 1]?.getD (0, 0, 0)).1 (es[k - 1]?.getD (0, 0, 0)).2.1 (es[k]?.getD (0, 0, 0)).1 (es[k]?.getD (0, 0, 0)).2.1; simp only [EOk] at he; omega)
                                · first
                                  | exact absurd hc4 (by decide)
                                  | (simp at hc4; done)
                                  | (exfalso; (try simp at hc4); omega)
                                  | ((try simp at hc4)
                                     refine awp_skip ?_
                                     (try simp only [Thn, InBlk, ↓reduceIte, Nat.reduceEqDiff])
                                     refine hK9 _ _ ?_
                                     clear hK9
                                     refine awp_last fun K19 hK19 => ?_
                                     refine awp_region ftCOk ?_
                                     simp (maxSteps := 4000000) only [go_sem, Nat.reduceBEq, Nat.reduceLT, Nat.reduceAdd, Nat.reduceLeDiff, Nat.reduceSub, Nat.reduceEqDiff, Int.reduceToNat, reduceCtorEq, ↓reduceIte, l1InG, eqEdgeG, l4BeforeG, isNaNG, cmpIntG, cmpEndsG, toEdgeG, ftC]
                                     repeat' (first | refine And.intro ?_ ?_ | (intro hg; try simp at hg))
                                     all_goals first
                                       | refine hK19 _ _ ?_
                                       | exact trivial
                                       | omega
                                       | ((simp; omega))
                                     clear hK19
                                     (try simp only [Thn, InBlk, ↓reduceIte, Nat.reduceEqDiff])
                                     refine ⟨k + 1, ?_, ?_, ?_⟩
                                     · exact ⟨by omega, hs.2.1, EOk.more hs.2.2 (by have hq := cmpE_neg (es[k - 1]?.getD (0, 0, 0)).1 (es[k - 1]?.getD (0, 0, 0)).2.1 (es[k]?.getD (0, 0, 0)).1 (es[k]?.getD (0, 0, 0)).2.1; simp only [EOk]; omega)⟩
                                     · first | omega | (simp only []; omega)
                                     · refine Red.trans (Red.sel [0, 1] (by simp [selOk, pos])) (Red.fin ?_ rfl)
                                       (simp only [Ele, Env.ren, AV.ren, AV.ren2, AV.ren1, AObj.ren, pos, selH, List.map_cons, List.map_nil, List.lookup, Nat.reduceBEq, Nat.reduceAdd, Nat.reduceEqDiff, Option.some.injEq, AV.v.injEq, AV.sl.injEq, AV.pp.injEq, AV.ep.injEq, AV.agg.injEq, List.cons.injEq, Value.int.injEq, Value.bool.injEq, Value.string.injEq, true_and, and_true, true_or, or_true, or_false, false_or, reduceCtorEq, ↓reduceIte, Option.getD_some, Option.getD_none, List.getElem?_cons_zero, List.getElem?_cons_succ, List.getElem?_nil, Nat.zero_add, Nat.one_ne_zero, Nat.zero_ne_one, and_self]) <;> first | done | omega | (refine ⟨?_, ?_⟩ <;> omega)))))
           · first
             | exact absurd hc1 (by decide)
             | (simp at hc1; done)
             | (exfalso; (try simp at hc1); omega)
             | ((try simp at hc1)
                refine awp_exit ?_
                (try simp only [Thn, InBlk, ↓reduceIte, Nat.reduceEqDiff])
                refine hK5 _ _ ?_
                clear hK5
                refine awp_seq fun K20 hK20 => ?_
                refine awp_region ftCOk ?_
                simp (maxSteps := 4000000) only [go_sem, Nat.reduceBEq, Nat.reduceLT, Nat.reduceAdd, Nat.reduceLeDiff, Nat.reduceSub, Nat.reduceEqDiff, Int.reduceToNat, reduceCtorEq, ↓reduceIte, l1InG, eqEdgeG, l4BeforeG, isNaNG, cmpIntG, cmpEndsG, toEdgeG, ftC]
                repeat' (first | refine And.intro ?_ ?_ | (intro hg; try simp at hg))
                all_goals first
                  | refine hK20 _ _ ?_
                  | exact trivial
                  | omega
                  | ((simp; omega))
                clear hK20
                refine awp_ret ?_
                (try simp only [Thn, InBlk, ↓reduceIte, Nat.reduceEqDiff])
                refine ⟨by simp, _, [0], (by simp only [go_sem, Nat.reduceBEq, Nat.reduceLT, Nat.reduceAdd, Nat.reduceLeDiff, Nat.reduceSub, Nat.reduceEqDiff, Int.reduceToNat, reduceCtorEq, ↓reduceIte]; exact rfl), ?_, ?_, ?_, ?_⟩
                · first | exact trivial | exact ⟨trivial, trivial⟩ | exact ⟨trivial, trivial, trivial⟩ | exact ⟨trivial, trivial, trivial, trivial⟩ | (simp only [allP, and_true, true_and]; done) | (simp only [allP, and_true, true_and]; omega)
                · simp [selOk, pos]
                · simp
                · simp only [go_sem, Nat.reduceBEq, Nat.reduceLT, Nat.reduceAdd, Nat.reduceLeDiff, Nat.reduceSub, Nat.reduceEqDiff, Int.reduceToNat, reduceCtorEq, ↓reduceIte]
                  rw [gok_true ⟨hs.2.1.1, hs.2.1.2.1, hs.2.1.2.2, fun j hj => hs.2.2 j (by omega)⟩]))
end Go.Proofs.Ytlpkjcmiohppcaa

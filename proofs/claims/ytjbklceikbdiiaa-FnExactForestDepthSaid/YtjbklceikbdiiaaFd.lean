/- ForestDepth. -/
import Derived.Test.YtjbklceikbdiiaaAr
set_option maxRecDepth 100000
set_option linter.unusedSimpArgs false
set_option linter.unusedVariables false
namespace Go.Proofs.Ytjbklceikbdiiaa
open Go Go.Av
attribute [local irreducible] wpA OpK awp
attribute [local go_sem] vcD vcD1 roH roOb ftNone ftAdd oneOrTup AV.detup AV.ren AV.ren2 AV.ren1 pos selH AObj.ren fitAll fit fit1 fit1s matchAll matchOb exIds AObj.excl Env.killp pastH setAll upId AObj.past AObj.back AV.killp AV.killp1 AV.killp2 Nat.sub_self Nat.lt_irrefl Bool.or_self vcOps vcOp vcQs vcQ dstOk quiet eff pcall plain valsOf ev ofConst argEnv List.lookup Nat.add_eq decide_true decide_false Env.put binV wrapTo unV convV loadQ indexQ callQ builtinQ rd partAV isAggD isArrayD addrAdd boxE storeE makeE buildSliceE buildFold appendE sliceE boundAV subObj asCells Value.oneCell' contZero Cont.sets Cont.app Cont.sub Cont.len Cont.esz Cont.cell Cont.cells Cont.flat AV.det AV.det1 guardV AObj.unview AObj.kill Env.kill AV.kill AV.kill1 AV.kill2 fits64 Option.getD_some Option.getD_none Option.map_some Option.map_none Option.bind_some List.map_cons List.map_nil List.getElem?_cons_zero List.getElem?_cons_succ List.getElem?_nil true_and and_true List.getElem?_toArray List.cons_append List.nil_append List.length_cons List.length_nil List.set_cons_zero List.set_cons_succ List.take_succ_cons List.take_zero List.drop_succ_cons List.drop_zero List.drop_nil List.take_nil List.contains_cons List.contains_nil List.elem_cons List.elem_nil Bool.not_true Bool.not_false Bool.false_eq_true Bool.or_false Bool.or_true Bool.and_true Bool.and_false Bool.true_and Bool.false_and List.all_cons List.all_nil List.size_toArray Nat.lt_add_one Nat.zero_lt_succ Nat.one_ne_zero Nat.zero_ne_one and_self List.replicate_succ List.replicate_zero Int.toNat_natCast Int.toNat_zero Value.cells false_implies true_implies forall_const Thn InBlk Nat.zero_add Nat.add_zero Int.zero_add tsz0 tby0 tz0 Try.underlying0 tsz1 tby1 tz1 Try.underlying1 tsz2 tby2 tz2 Try.underlying2 tsz3 tby3 tz3 Try.underlying3 tsz4 tby4 tz4 Try.underlying4 tsz5 tby5 tz5 Try.underlying5 tsz6 tby6 tz6 Try.underlying6 tsz7 tby7 tz7 Try.underlying7 fo7_0 fo7_1 fo7_2 fo7_3 tsz8 tby8 tz8 Try.underlying8 fo8_0 fo8_1 fo8_2 fo8_3 tsz9 tby9 Try.underlying9 tsz10 tby10 Try.underlying10 tsz11 tby11 Try.underlying11 tsz12 tby12 tz12 Try.underlying12 tsz13 tby13 Try.underlying13 fo13_0 fo13_1 tsz14 tby14 Try.underlying14 fo14_0 fo14_1 tsz15 tby15 tz15 Try.underlying15 tsz16 tby16 tz16 Try.underlying16 tsz17 tby17 tz17 Try.underlying17 tsz18 tby18 tz18 Try.underlying18 fo18_0 tsz19 tby19 tz19 Try.underlying19 fo19_0 tsz20 tby20 tz20 Try.underlying20 tsz21 tby21 tz21 Try.underlying21 tsz22 tby22 tz22 Try.underlying22 tsz23 tby23 tz23 Try.underlying23 tsz24 tby24 tz24 Try.underlying24 tsz25 tby25 tz25 Try.underlying25 tsz26 tby26 tz26 Try.underlying26 tsz27 tby27 tz27 Try.underlying27 tsz28 tby28 tz28 Try.underlying28 tsz29 tby29 tz29 Try.underlying29 tsz30 tby30 tz30 Try.underlying30 tsz31 tby31 tz31 Try.underlying31 tsz32 tby32 tz32 Try.underlying32 tsz33 tby33 tz33 Try.underlying33 tsz34 tby34 tz34 Try.underlying34 tsz35 tby35 tz35 Try.underlying35 tsz36 tby36 tz36 Try.underlying36 tsz37 tby37 tz37 Try.underlying37 tsz38 tby38 tz38 Try.underlying38 tsz39 tby39 tz39 Try.underlying39 tsz40 tby40 tz40 Try.underlying40 tsz41 tby41 tz41 Try.underlying41 tsz42 tby42 tz42 Try.underlying42 tsz43 tby43 tz43 Try.underlying43 tsz44 tby44 tz44 Try.underlying44 fo44_0 fo44_1 tsz45 tby45 tz45 Try.underlying45 fo45_0 fo45_1 tsz46 tby46 tz46 Try.underlying46 tsz47 tby47 Try.underlying47 fo47_0 fo47_1 fo47_2 fo47_3 tsz48 tby48 Try.underlying48 fo48_0 fo48_1 fo48_2 fo48_3 tsz49 tby49 tz49 Try.underlying49 tsz50 tby50 tz50 Try.underlying50 tsz51 tby51 tz51 Try.underlying51 tsz52 tby52 tz52 Try.underlying52 tsz53 tby53 tz53 Try.underlying53 tsz54 tby54 tz54 Try.underlying54 tsz55 tby55 tz55 Try.underlying55 tsz56 tby56 tz56 Try.underlying56 tsz57 tby57 tz57 Try.underlying57 tsz58 tby58 tz58 Try.underlying58 tsz59 tby59 tz59 Try.underlying59 tsz60 tby60 tz60 Try.underlying60 fo60_0 fo60_1 fo60_2 fo60_3 fo60_4 fo60_5 fo60_6 fo60_7 fo60_8 fo60_9 fo60_10 tsz61 tby61 tz61 Try.underlying61 fo61_0 fo61_1 fo61_2 fo61_3 fo61_4 fo61_5 fo61_6 fo61_7 fo61_8 fo61_9 fo61_10 tsz62 tby62 tz62 Try.underlying62
/-- The walk to the top: at most f steps on; none where it leaves the list or does not end. -/
def endF (xs : List Int) : Nat → Int → Nat → Option (Int × Nat)
  | 0, _, _ => none
  | f + 1, v, s => if v < 0 ∨ (xs.length : Int) ≤ v then none else if xs.getD v.toNat 0 = v then some (v, s) else endF xs f (xs.getD v.toNat 0) (s + 1)
theorem endF_out {xs : List Int} {f s : Nat} {v : Int} (h : v < 0 ∨ (xs.length : Int) ≤ v) : endF xs f v s = none := by
  cases f with
  | zero => rfl
  | succ f => simp only [endF, if_pos h]
theorem endF_found {xs : List Int} {f s : Nat} {v : Int} (hf : 0 < f) (h0 : 0 ≤ v) (h1 : v < (xs.length : Int)) (he : xs[v.toNat]?.getD 0 = v) : endF xs f v s = some (v, s) := by
  cases f with
  | zero => omega
  | succ f => simp only [endF, List.getD_eq_getElem?_getD]; rw [if_neg (by omega), if_pos he]
theorem endF_step {xs : List Int} {f f' s : Nat} {v : Int} (hf : f = f' + 1) (h0 : 0 ≤ v) (h1 : v < (xs.length : Int)) (he : ¬ xs[v.toNat]?.getD 0 = v) : endF xs f v s = endF xs f' (xs.getD v.toNat 0) (s + 1) := by
  subst hf
  simp only [endF, List.getD_eq_getElem?_getD]; rw [if_neg (by omega), if_neg he]
def depthF (xs : List Int) (v : Int) : Int := if 16 < xs.length then -1 else match endF xs (xs.length + 1) v 0 with | some r => r.2 | none => -1
def endV (r : Option (Int × Nat)) : AV := match r with | some r => .tup [.v (.int .i64 r.1), .v (.int .i64 r.2), .v (.bool true)] | none => .tup [.v (.int .i64 0), .v (.int .i64 0), .v (.bool false)]

theorem c_impl_endOf (xs : List Int) (v : Int) (hx : xs.length ≤ 1000000000) :
    FnA Try.prog 20 [.sl 0, .v (.int .i64 v)] [.row false (.ints .i64 xs)] [] (fun x H => x = endV (endF xs (xs.length + 1) v 0) ∧ H = [.row false (.ints .i64 xs)]) := by
  refine FnA.of (N := 34) (pin := [0]) (rs := [.tmp 4, .tmp 5, .tmp 6]) Try.func20 rfl en20 rfl rfl (by simp) (by simp; try omega) ?_
  refine awp_seq fun K1 hK1 => ?_
  refine awp_region ftNoneOk ?_
  simp only [go_sem, Nat.reduceBEq, Nat.reduceLT, Nat.reduceAdd, Nat.reduceLeDiff, Nat.reduceSub, Nat.reduceEqDiff, Int.reduceToNat, reduceCtorEq, ↓reduceIte, ftNone]
  repeat' (first | refine And.intro ?_ ?_ | (intro hg; try simp at hg))
  all_goals first
    | refine hK1 _ _ ?_
    | omega
    | ((simp; omega))
  clear hK1
  refine awp_seq fun K2 hK2 => ?_
  refine awp_seq fun K3 hK3 => ?_
  refine awp_region ftNoneOk ?_
  simp only [go_sem, Nat.reduceBEq, Nat.reduceLT, Nat.reduceAdd, Nat.reduceLeDiff, Nat.reduceSub, Nat.reduceEqDiff, Int.reduceToNat, reduceCtorEq, ↓reduceIte, ftNone]
  repeat' (first | refine And.intro ?_ ?_ | (intro hg; try simp at hg))
  all_goals first
    | refine hK3 _ _ ?_
    | omega
    | ((simp; omega))
  clear hK3
  refine awp_block ?_
  refine awp_loop (σ := Nat × Int) (fun s => s.1 ≤ xs.length + 1 ∧ endF xs (xs.length + 1 - s.1) s.2 s.1 = endF xs (xs.length + 1) v 0) (fun s => [(0, .sl 0), (1, .v (.int .i64 s.2)), (7, .v (.int .i64 (s.1 : Int)))]) (fun _ => [.row false (.ints .i64 xs)]) (fun s => xs.length + 1 - s.1) ((0, v)) ?_ ?_ ?_
  · exact ⟨by simp, rfl⟩
  · refine Red.fin ?_ rfl
    (simp only [Ele, Env.ren, AV.ren, AV.ren2, AV.ren1, AObj.ren, pos, selH, List.map_cons, List.map_nil, List.lookup, Nat.reduceBEq, Nat.reduceAdd, Nat.reduceEqDiff, Option.some.injEq, AV.v.injEq, AV.sl.injEq, AV.pp.injEq, AV.ep.injEq, AV.agg.injEq, List.cons.injEq, Value.int.injEq, Value.bool.injEq, Value.string.injEq, true_and, and_true, true_or, or_true, or_false, false_or, reduceCtorEq, ↓reduceIte, Option.getD_some, Option.getD_none, List.getElem?_cons_zero, List.getElem?_cons_succ, List.getElem?_nil, Nat.zero_add, Nat.one_ne_zero, Nat.zero_ne_one, and_self]) <;> first | done | omega
  · intro s hs
    refine awp_seq fun K4 hK4 => ?_
    refine awp_seq fun K5 hK5 => ?_
    refine awp_region ftNoneOk ?_
    simp only [go_sem, Nat.reduceBEq, Nat.reduceLT, Nat.reduceAdd, Nat.reduceLeDiff, Nat.reduceSub, Nat.reduceEqDiff, Int.reduceToNat, reduceCtorEq, ↓reduceIte, ftNone]
    repeat' (first | refine And.intro ?_ ?_ | (intro hg; try simp at hg))
    all_goals first
      | refine hK5 _ _ ?_
      | omega
      | ((simp; omega))
    clear hK5
    refine awp_cond (t := 11) rfl (fun hc0 => ?_) (fun hc0 => ?_)
    · first
      | exact absurd hc0 (by decide)
      | (simp at hc0; done)
      | (exfalso; (try simp at hc0); omega)
      | ((try simp at hc0)
         refine awp_skip ?_
         refine hK4 _ _ ?_
         clear hK4
         refine awp_seq fun K6 hK6 => ?_
         refine awp_block ?_
         refine awp_seq fun K7 hK7 => ?_
         refine awp_seq fun K8 hK8 => ?_
         refine awp_region ftNoneOk ?_
         simp only [go_sem, Nat.reduceBEq, Nat.reduceLT, Nat.reduceAdd, Nat.reduceLeDiff, Nat.reduceSub, Nat.reduceEqDiff, Int.reduceToNat, reduceCtorEq, ↓reduceIte, ftNone]
         repeat' (first | refine And.intro ?_ ?_ | (intro hg; try simp at hg))
         all_goals first
           | refine hK8 _ _ ?_
           | omega
           | ((simp; omega))
         all_goals
           clear hK8
           refine awp_cond (t := 21) rfl (fun hc1 => ?_) (fun hc1 => ?_)
           · first
             | exact absurd hc1 (by decide)
             | (simp at hc1; done)
             | (exfalso; (try simp at hc1); omega)
             | ((try simp at hc1)
                refine awp_seq fun K9 hK9 => ?_
                refine awp_region ftNoneOk ?_
                simp only [go_sem, Nat.reduceBEq, Nat.reduceLT, Nat.reduceAdd, Nat.reduceLeDiff, Nat.reduceSub, Nat.reduceEqDiff, Int.reduceToNat, reduceCtorEq, ↓reduceIte, ftNone]
                repeat' (first | refine And.intro ?_ ?_ | (intro hg; try simp at hg))
                all_goals first
                  | refine hK9 _ _ ?_
                  | omega
                  | ((simp; omega))
                clear hK9
                refine awp_ret ?_
                (try simp only [Thn, InBlk, ↓reduceIte, Nat.reduceEqDiff])
                refine ⟨by simp, _, [0], rfl, ?_, ?_, ?_, ?_⟩
                · first | exact trivial | exact ⟨trivial, trivial⟩ | exact ⟨trivial, trivial, trivial⟩ | exact ⟨trivial, trivial, trivial, trivial⟩ | (simp only [allP, and_true, true_and]; done) | (simp only [allP, and_true, true_and]; omega)
                · simp [selOk, pos]
                · simp
                · simp only [go_sem, Nat.reduceBEq, Nat.reduceLT, Nat.reduceAdd, Nat.reduceLeDiff, Nat.reduceSub, Nat.reduceEqDiff, Int.reduceToNat, reduceCtorEq, ↓reduceIte]
                  rw [← hs.2, endF_out (by omega)]; rfl)
           · first
             | exact absurd hc1 (by decide)
             | (simp at hc1; done)
             | (exfalso; (try simp at hc1); omega)
             | ((try simp at hc1)
                refine awp_skip ?_
                refine hK7 _ _ ?_
                clear hK7
                refine awp_seq fun K10 hK10 => ?_
                refine awp_seq fun K11 hK11 => ?_
                refine awp_region ftNoneOk ?_
                simp only [go_sem, Nat.reduceBEq, Nat.reduceLT, Nat.reduceAdd, Nat.reduceLeDiff, Nat.reduceSub, Nat.reduceEqDiff, Int.reduceToNat, reduceCtorEq, ↓reduceIte, ftNone]
                repeat' (first | refine And.intro ?_ ?_ | (intro hg; try simp at hg))
                all_goals first
                  | refine hK11 _ _ ?_
                  | omega
                  | ((simp; omega))
                clear hK11
                refine awp_cond (t := 27) rfl (fun hc2 => ?_) (fun hc2 => ?_)
                · first
                  | exact absurd hc2 (by decide)
                  | (simp at hc2; done)
                  | (exfalso; (try simp at hc2); omega)
                  | ((try simp at hc2)
                     refine awp_seq fun K12 hK12 => ?_
                     refine awp_region ftNoneOk ?_
                     simp only [go_sem, Nat.reduceBEq, Nat.reduceLT, Nat.reduceAdd, Nat.reduceLeDiff, Nat.reduceSub, Nat.reduceEqDiff, Int.reduceToNat, reduceCtorEq, ↓reduceIte, ftNone]
                     repeat' (first | refine And.intro ?_ ?_ | (intro hg; try simp at hg))
                     all_goals first
                       | refine hK12 _ _ ?_
                       | omega
                       | ((simp; omega))
                     clear hK12
                     refine awp_ret ?_
                     (try simp only [Thn, InBlk, ↓reduceIte, Nat.reduceEqDiff])
                     refine ⟨by simp, _, [0], rfl, ?_, ?_, ?_, ?_⟩
                     · first | exact trivial | exact ⟨trivial, trivial⟩ | exact ⟨trivial, trivial, trivial⟩ | exact ⟨trivial, trivial, trivial, trivial⟩ | (simp only [allP, and_true, true_and]; done) | (simp only [allP, and_true, true_and]; omega)
                     · simp [selOk, pos]
                     · simp
                     · simp only [go_sem, Nat.reduceBEq, Nat.reduceLT, Nat.reduceAdd, Nat.reduceLeDiff, Nat.reduceSub, Nat.reduceEqDiff, Int.reduceToNat, reduceCtorEq, ↓reduceIte]
                       rw [← hs.2, endF_found (by omega) hg hc1 hc2]; rfl)
                · first
                  | exact absurd hc2 (by decide)
                  | (simp at hc2; done)
                  | (exfalso; (try simp at hc2); omega)
                  | ((try simp at hc2)
                     refine awp_skip ?_
                     refine hK10 _ _ ?_
                     clear hK10
                     refine awp_last fun K13 hK13 => ?_
                     refine awp_region ftNoneOk ?_
                     simp only [go_sem, Nat.reduceBEq, Nat.reduceLT, Nat.reduceAdd, Nat.reduceLeDiff, Nat.reduceSub, Nat.reduceEqDiff, Int.reduceToNat, reduceCtorEq, ↓reduceIte, ftNone]
                     repeat' (first | refine And.intro ?_ ?_ | (intro hg; try simp at hg))
                     all_goals first
                       | refine hK13 _ _ ?_
                       | omega
                       | ((simp; omega))
                     clear hK13
                     (try simp only [Thn, InBlk, ↓reduceIte, Nat.reduceEqDiff])
                     refine hK6 _ _ ?_
                     clear hK6
                     refine awp_last fun K14 hK14 => ?_
                     refine awp_region ftNoneOk ?_
                     simp only [go_sem, Nat.reduceBEq, Nat.reduceLT, Nat.reduceAdd, Nat.reduceLeDiff, Nat.reduceSub, Nat.reduceEqDiff, Int.reduceToNat, reduceCtorEq, ↓reduceIte, ftNone]
                     repeat' (first | refine And.intro ?_ ?_ | (intro hg; try simp at hg))
                     all_goals first
                       | refine hK14 _ _ ?_
                       | omega
                       | ((simp; omega))
                     clear hK14
                     (try simp only [Thn, InBlk, ↓reduceIte, Nat.reduceEqDiff])
                     refine ⟨(s.1 + 1, xs.getD s.2.toNat 0), ?_, ?_, ?_⟩
                     · exact ⟨by simp only []; omega, by rw [← hs.2]; exact (endF_step (by omega) hg hc1 hc2).symm⟩
                     · (simp only []; omega)
                     · refine Red.fin ?_ rfl
                       (simp only [Ele, Env.ren, AV.ren, AV.ren2, AV.ren1, AObj.ren, pos, selH, List.map_cons, List.map_nil, List.lookup, Nat.reduceBEq, Nat.reduceAdd, Nat.reduceEqDiff, Option.some.injEq, AV.v.injEq, AV.sl.injEq, AV.pp.injEq, AV.ep.injEq, AV.agg.injEq, List.cons.injEq, Value.int.injEq, Value.bool.injEq, Value.string.injEq, true_and, and_true, true_or, or_true, or_false, false_or, reduceCtorEq, ↓reduceIte, Option.getD_some, Option.getD_none, List.getElem?_cons_zero, List.getElem?_cons_succ, List.getElem?_nil, Nat.zero_add, Nat.one_ne_zero, Nat.zero_ne_one, and_self]) <;> first | done | omega | (refine ⟨?_, ?_⟩ <;> omega))))
    · first
      | exact absurd hc0 (by decide)
      | (simp at hc0; done)
      | (exfalso; (try simp at hc0); omega)
      | ((try simp at hc0)
         refine awp_exit ?_
         (try simp only [Thn, InBlk, ↓reduceIte, Nat.reduceEqDiff])
         refine hK2 _ _ ?_
         clear hK2
         refine awp_seq fun K15 hK15 => ?_
         refine awp_region ftNoneOk ?_
         simp only [go_sem, Nat.reduceBEq, Nat.reduceLT, Nat.reduceAdd, Nat.reduceLeDiff, Nat.reduceSub, Nat.reduceEqDiff, Int.reduceToNat, reduceCtorEq, ↓reduceIte, ftNone]
         repeat' (first | refine And.intro ?_ ?_ | (intro hg; try simp at hg))
         all_goals first
           | refine hK15 _ _ ?_
           | omega
           | ((simp; omega))
         clear hK15
         refine awp_ret ?_
         (try simp only [Thn, InBlk, ↓reduceIte, Nat.reduceEqDiff])
         refine ⟨by simp, _, [0], rfl, ?_, ?_, ?_, ?_⟩
         · first | exact trivial | exact ⟨trivial, trivial⟩ | exact ⟨trivial, trivial, trivial⟩ | exact ⟨trivial, trivial, trivial, trivial⟩ | (simp only [allP, and_true, true_and]; done) | (simp only [allP, and_true, true_and]; omega)
         · simp [selOk, pos]
         · simp
         · simp only [go_sem, Nat.reduceBEq, Nat.reduceLT, Nat.reduceAdd, Nat.reduceLeDiff, Nat.reduceSub, Nat.reduceEqDiff, Int.reduceToNat, reduceCtorEq, ↓reduceIte]
           have hz : xs.length + 1 - s.1 = 0 := (by omega); rw [← hs.2, hz]; rfl)
theorem depthF_big {xs : List Int} {v : Int} (h : (16 : Int) < xs.length) : depthF xs v = -1 := by unfold depthF; rw [if_pos (by omega)]
theorem depthF_none {xs : List Int} {v : Int} (h : (xs.length : Int) ≤ 16) (he : endF xs (xs.length + 1) v 0 = none) : depthF xs v = -1 := by unfold depthF; rw [if_neg (by omega), he]
theorem depthF_some {xs : List Int} {v : Int} {r : Int × Nat} (h : (xs.length : Int) ≤ 16) (he : endF xs (xs.length + 1) v 0 = some r) : depthF xs v = r.2 := by unfold depthF; rw [if_neg (by omega), he]
theorem endF_leaves {xs : List Int} {f s : Nat} {v : Int} (h0 : 0 ≤ v) (h1 : v < (xs.length : Int)) (he : xs[v.toNat]?.getD 0 < 0 ∨ (xs.length : Int) - 1 < xs[v.toNat]?.getD 0) : endF xs f v s = none := by
  cases f with
  | zero => rfl
  | succ f => rw [endF_step rfl h0 h1 (by omega)]; exact endF_out (by simp only [List.getD_eq_getElem?_getD]; omega)

theorem c_impl_ForestDepth (xs : List Int) (v : Int) :
    FnA Try.prog 8 [.sl 0, .v (.int .i64 v)] [.row false (.ints .i64 xs)] [] (fun x H => x = .v (.int .i64 (depthF xs v)) ∧ H = [.row false (.ints .i64 xs)]) := by
  refine FnA.of (N := 21) (pin := [0]) (rs := [.tmp 4]) Try.func8 rfl en8 rfl rfl (by simp) (by simp; try omega) ?_
  refine awp_seq fun K1 hK1 => ?_
  refine awp_region ftNoneOk ?_
  simp only [go_sem, Nat.reduceBEq, Nat.reduceLT, Nat.reduceAdd, Nat.reduceLeDiff, Nat.reduceSub, Nat.reduceEqDiff, Int.reduceToNat, reduceCtorEq, ↓reduceIte, ftNone]
  repeat' (first | refine And.intro ?_ ?_ | (intro hg; try simp at hg))
  all_goals first
    | refine hK1 _ _ ?_
    | omega
    | ((simp; omega))
  clear hK1
  refine awp_seq fun K2 hK2 => ?_
  refine awp_seq fun K3 hK3 => ?_
  refine awp_region ftNoneOk ?_
  simp only [go_sem, Nat.reduceBEq, Nat.reduceLT, Nat.reduceAdd, Nat.reduceLeDiff, Nat.reduceSub, Nat.reduceEqDiff, Int.reduceToNat, reduceCtorEq, ↓reduceIte, ftNone]
  repeat' (first | refine And.intro ?_ ?_ | (intro hg; try simp at hg))
  all_goals first
    | refine hK3 _ _ ?_
    | omega
    | ((simp; omega))
  clear hK3
  refine awp_cond (t := 10) rfl (fun hc0 => ?_) (fun hc0 => ?_)
  · first
    | exact absurd hc0 (by decide)
    | (simp at hc0; done)
    | (exfalso; (try simp at hc0); omega)
    | ((try simp at hc0)
       refine awp_seq fun K4 hK4 => ?_
       refine awp_region ftNoneOk ?_
       simp only [go_sem, Nat.reduceBEq, Nat.reduceLT, Nat.reduceAdd, Nat.reduceLeDiff, Nat.reduceSub, Nat.reduceEqDiff, Int.reduceToNat, reduceCtorEq, ↓reduceIte, ftNone]
       repeat' (first | refine And.intro ?_ ?_ | (intro hg; try simp at hg))
       all_goals first
         | refine hK4 _ _ ?_
         | omega
         | ((simp; omega))
       clear hK4
       refine awp_ret ?_
       (try simp only [Thn, InBlk, ↓reduceIte, Nat.reduceEqDiff])
       refine ⟨by simp, _, [0], rfl, ?_, ?_, ?_, ?_⟩
       · first | exact trivial | exact ⟨trivial, trivial⟩ | exact ⟨trivial, trivial, trivial⟩ | exact ⟨trivial, trivial, trivial, trivial⟩ | (simp only [allP, and_true, true_and]; done) | (simp only [allP, and_true, true_and]; omega)
       · simp [selOk, pos]
       · simp
       · simp only [go_sem, Nat.reduceBEq, Nat.reduceLT, Nat.reduceAdd, Nat.reduceLeDiff, Nat.reduceSub, Nat.reduceEqDiff, Int.reduceToNat, reduceCtorEq, ↓reduceIte]
         rw [depthF_big hc0])
  · first
    | exact absurd hc0 (by decide)
    | (simp at hc0; done)
    | (exfalso; (try simp at hc0); omega)
    | ((try simp at hc0)
       refine awp_skip ?_
       refine hK2 _ _ ?_
       clear hK2
       refine awp_seq fun K5 hK5 => ?_
       refine awp_region ftNoneOk ?_
       simp only [go_sem, Nat.reduceBEq, Nat.reduceLT, Nat.reduceAdd, Nat.reduceLeDiff, Nat.reduceSub, Nat.reduceEqDiff, Int.reduceToNat, reduceCtorEq, ↓reduceIte, ftNone]
       repeat' (first | refine And.intro ?_ ?_ | (intro hg; try simp at hg))
       all_goals first
         | refine hK5 _ _ ?_
         | (refine wpA_call (c_impl_endOf xs v (by omega)) [0] [] (by rfl) ?_ (by rfl) ?_ ?_ ?_ ?_ ?_
            · first | (simp only [go_sem, Nat.reduceBEq, Nat.reduceLT, Nat.reduceAdd, Nat.reduceLeDiff, Nat.reduceSub, Nat.reduceEqDiff, Int.reduceToNat, reduceCtorEq, ↓reduceIte, ftNone]; done) | (simp only [go_sem, Nat.reduceBEq, Nat.reduceLT, Nat.reduceAdd, Nat.reduceLeDiff, Nat.reduceSub, Nat.reduceEqDiff, Int.reduceToNat, reduceCtorEq, ↓reduceIte, ftNone] <;> simp)
            · simp [exIds, AObj.excl]
            · first | (simp only [go_sem, Nat.reduceBEq, Nat.reduceLT, Nat.reduceAdd, Nat.reduceLeDiff, Nat.reduceSub, Nat.reduceEqDiff, Int.reduceToNat, reduceCtorEq, ↓reduceIte, ftNone]; done) | (simp only [go_sem, Nat.reduceBEq, Nat.reduceLT, Nat.reduceAdd, Nat.reduceLeDiff, Nat.reduceSub, Nat.reduceEqDiff, Int.reduceToNat, reduceCtorEq, ↓reduceIte, ftNone] <;> simp)
            · simp
            · simp [exIds, AObj.excl]
            intro x Hc' hR hlen
            obtain ⟨rfl, rfl⟩ := hR
            cases hE : endF xs (xs.length + 1) v 0 <;> simp only [endV]
            all_goals
              refine vcOps_sound ftNoneOk ?_
              simp only [go_sem, Nat.reduceBEq, Nat.reduceLT, Nat.reduceAdd, Nat.reduceLeDiff, Nat.reduceSub, Nat.reduceEqDiff, Int.reduceToNat, reduceCtorEq, ↓reduceIte, ftNone]
              repeat' (first | refine And.intro ?_ ?_ | (intro hg; try simp at hg))
              all_goals first
                | refine hK5 _ _ ?_
                | omega
                | ((simp; omega)))
         | omega
         | ((simp; omega))
       all_goals
         clear hK5
         refine awp_seq fun K6 hK6 => ?_
         refine awp_seq fun K7 hK7 => ?_
         refine awp_region ftNoneOk ?_
         simp only [go_sem, Nat.reduceBEq, Nat.reduceLT, Nat.reduceAdd, Nat.reduceLeDiff, Nat.reduceSub, Nat.reduceEqDiff, Int.reduceToNat, reduceCtorEq, ↓reduceIte, ftNone]
         repeat' (first | refine And.intro ?_ ?_ | (intro hg; try simp at hg))
         all_goals first
           | refine hK7 _ _ ?_
           | omega
           | ((simp; omega))
         clear hK7
         refine awp_cond (t := 19) rfl (fun hc1 => ?_) (fun hc1 => ?_)
         · first
           | exact absurd hc1 (by decide)
           | (simp at hc1; done)
           | (exfalso; (try simp at hc1); omega)
           | ((try simp at hc1)
              refine awp_seq fun K8 hK8 => ?_
              refine awp_region ftNoneOk ?_
              simp only [go_sem, Nat.reduceBEq, Nat.reduceLT, Nat.reduceAdd, Nat.reduceLeDiff, Nat.reduceSub, Nat.reduceEqDiff, Int.reduceToNat, reduceCtorEq, ↓reduceIte, ftNone]
              repeat' (first | refine And.intro ?_ ?_ | (intro hg; try simp at hg))
              all_goals first
                | refine hK8 _ _ ?_
                | omega
                | ((simp; omega))
              clear hK8
              refine awp_ret ?_
              (try simp only [Thn, InBlk, ↓reduceIte, Nat.reduceEqDiff])
              refine ⟨by simp, _, [0], rfl, ?_, ?_, ?_, ?_⟩
              · first | exact trivial | exact ⟨trivial, trivial⟩ | exact ⟨trivial, trivial, trivial⟩ | exact ⟨trivial, trivial, trivial, trivial⟩ | (simp only [allP, and_true, true_and]; done) | (simp only [allP, and_true, true_and]; omega)
              · simp [selOk, pos]
              · simp
              · simp only [go_sem, Nat.reduceBEq, Nat.reduceLT, Nat.reduceAdd, Nat.reduceLeDiff, Nat.reduceSub, Nat.reduceEqDiff, Int.reduceToNat, reduceCtorEq, ↓reduceIte]
                rw [depthF_none hc0 hE])
         · first
           | exact absurd hc1 (by decide)
           | (simp at hc1; done)
           | (exfalso; (try simp at hc1); omega)
           | ((try simp at hc1)
              refine awp_skip ?_
              refine hK6 _ _ ?_
              clear hK6
              refine awp_seq fun K9 hK9 => ?_
              refine awp_region ftNoneOk ?_
              simp only [go_sem, Nat.reduceBEq, Nat.reduceLT, Nat.reduceAdd, Nat.reduceLeDiff, Nat.reduceSub, Nat.reduceEqDiff, Int.reduceToNat, reduceCtorEq, ↓reduceIte, ftNone]
              repeat' (first | refine And.intro ?_ ?_ | (intro hg; try simp at hg))
              all_goals first
                | refine hK9 _ _ ?_
                | omega
                | ((simp; omega))
              clear hK9
              refine awp_ret ?_
              (try simp only [Thn, InBlk, ↓reduceIte, Nat.reduceEqDiff])
              refine ⟨by simp, _, [0], rfl, ?_, ?_, ?_, ?_⟩
              · first | exact trivial | exact ⟨trivial, trivial⟩ | exact ⟨trivial, trivial, trivial⟩ | exact ⟨trivial, trivial, trivial, trivial⟩ | (simp only [allP, and_true, true_and]; done) | (simp only [allP, and_true, true_and]; omega)
              · simp [selOk, pos]
              · simp
              · simp only [go_sem, Nat.reduceBEq, Nat.reduceLT, Nat.reduceAdd, Nat.reduceLeDiff, Nat.reduceSub, Nat.reduceEqDiff, Int.reduceToNat, reduceCtorEq, ↓reduceIte]
                rw [depthF_some hc0 hE]))
theorem c_spec_ForestDepth (xs : List Int) (v : Int) :
    FnA Try.prog 6 [.sl 0, .v (.int .i64 v)] [.row false (.ints .i64 xs)] [] (fun x H => x = .v (.int .i64 (depthF xs v)) ∧ H = [.row false (.ints .i64 xs)]) := by
  refine FnA.of (N := 43) (pin := [0]) (rs := [.tmp 4]) Try.func6 rfl en6 rfl rfl (by simp) (by simp; try omega) ?_
  refine awp_seq fun K1 hK1 => ?_
  refine awp_region ft1Ok ?_
  simp only [go_sem, Nat.reduceBEq, Nat.reduceLT, Nat.reduceAdd, Nat.reduceLeDiff, Nat.reduceSub, Nat.reduceEqDiff, Int.reduceToNat, reduceCtorEq, ↓reduceIte, ft1, l1InG]
  repeat' (first | refine And.intro ?_ ?_ | (intro hg; try simp at hg))
  all_goals first
    | refine hK1 _ _ ?_
    | omega
    | ((simp; omega))
  clear hK1
  refine awp_seq fun K2 hK2 => ?_
  refine awp_seq fun K3 hK3 => ?_
  refine awp_region ft1Ok ?_
  simp only [go_sem, Nat.reduceBEq, Nat.reduceLT, Nat.reduceAdd, Nat.reduceLeDiff, Nat.reduceSub, Nat.reduceEqDiff, Int.reduceToNat, reduceCtorEq, ↓reduceIte, ft1, l1InG]
  repeat' (first | refine And.intro ?_ ?_ | (intro hg; try simp at hg))
  all_goals first
    | refine hK3 _ _ ?_
    | omega
    | ((simp; omega))
  all_goals
    clear hK3
    refine awp_cond (t := 16) rfl (fun hc0 => ?_) (fun hc0 => ?_)
    · first
      | exact absurd hc0 (by decide)
      | (simp at hc0; done)
      | (exfalso; (try simp at hc0); omega)
      | ((try simp at hc0)
         refine awp_seq fun K4 hK4 => ?_
         refine awp_region ft1Ok ?_
         simp only [go_sem, Nat.reduceBEq, Nat.reduceLT, Nat.reduceAdd, Nat.reduceLeDiff, Nat.reduceSub, Nat.reduceEqDiff, Int.reduceToNat, reduceCtorEq, ↓reduceIte, ft1, l1InG]
         repeat' (first | refine And.intro ?_ ?_ | (intro hg; try simp at hg))
         all_goals first
           | refine hK4 _ _ ?_
           | omega
           | ((simp; omega))
         clear hK4
         refine awp_ret ?_
         (try simp only [Thn, InBlk, ↓reduceIte, Nat.reduceEqDiff])
         refine ⟨by simp, _, [0], rfl, ?_, ?_, ?_, ?_⟩
         · first | exact trivial | exact ⟨trivial, trivial⟩ | exact ⟨trivial, trivial, trivial⟩ | exact ⟨trivial, trivial, trivial, trivial⟩ | (simp only [allP, and_true, true_and]; done) | (simp only [allP, and_true, true_and]; omega)
         · simp [selOk, pos]
         · simp
         · simp only [go_sem, Nat.reduceBEq, Nat.reduceLT, Nat.reduceAdd, Nat.reduceLeDiff, Nat.reduceSub, Nat.reduceEqDiff, Int.reduceToNat, reduceCtorEq, ↓reduceIte]
           first | (rw [depthF_big hg]; done) | (rw [depthF_none hg (endF_out (by omega))]))
    · first
      | exact absurd hc0 (by decide)
      | (simp at hc0; done)
      | (exfalso; (try simp at hc0); omega)
      | ((try simp at hc0)
         refine awp_skip ?_
         refine hK2 _ _ ?_
         clear hK2
         refine awp_seq fun K5 hK5 => ?_
         refine awp_seq fun K6 hK6 => ?_
         refine awp_region ft1Ok ?_
         simp only [go_sem, Nat.reduceBEq, Nat.reduceLT, Nat.reduceAdd, Nat.reduceLeDiff, Nat.reduceSub, Nat.reduceEqDiff, Int.reduceToNat, reduceCtorEq, ↓reduceIte, ft1, l1InG]
         repeat' (first | refine And.intro ?_ ?_ | (intro hg; try simp at hg))
         all_goals first
           | refine hK6 _ _ ?_
           | omega
           | ((simp; omega))
         clear hK6
         refine awp_block ?_
         refine awp_loop (σ := Nat × Int) (fun s => s.1 ≤ xs.length + 1 ∧ 0 ≤ s.2 ∧ s.2 < xs.length ∧ endF xs (xs.length + 1 - s.1) s.2 s.1 = endF xs (xs.length + 1) v 0) (fun s => [(0, .sl 0), (1, .v (.int .i64 s.2)), (5, .v (.int .i64 (s.1 : Int)))]) (fun _ => [.row false (.ints .i64 xs)]) (fun s => xs.length + 1 - s.1) ((0, v)) ?_ ?_ ?_
         · exact ⟨by simp, hc0.1, by simp only []; omega, rfl⟩
         · refine Red.fin ?_ rfl
           (simp only [Ele, Env.ren, AV.ren, AV.ren2, AV.ren1, AObj.ren, pos, selH, List.map_cons, List.map_nil, List.lookup, Nat.reduceBEq, Nat.reduceAdd, Nat.reduceEqDiff, Option.some.injEq, AV.v.injEq, AV.sl.injEq, AV.pp.injEq, AV.ep.injEq, AV.agg.injEq, List.cons.injEq, Value.int.injEq, Value.bool.injEq, Value.string.injEq, true_and, and_true, true_or, or_true, or_false, false_or, reduceCtorEq, ↓reduceIte, Option.getD_some, Option.getD_none, List.getElem?_cons_zero, List.getElem?_cons_succ, List.getElem?_nil, Nat.zero_add, Nat.one_ne_zero, Nat.zero_ne_one, and_self]) <;> first | done | omega
         · intro s hs
           refine awp_seq fun K7 hK7 => ?_
           refine awp_seq fun K8 hK8 => ?_
           refine awp_region ft1Ok ?_
           simp only [go_sem, Nat.reduceBEq, Nat.reduceLT, Nat.reduceAdd, Nat.reduceLeDiff, Nat.reduceSub, Nat.reduceEqDiff, Int.reduceToNat, reduceCtorEq, ↓reduceIte, ft1, l1InG]
           repeat' (first | refine And.intro ?_ ?_ | (intro hg; try simp at hg))
           all_goals first
             | refine hK8 _ _ ?_
             | omega
             | ((simp; omega))
           clear hK8
           refine awp_cond (t := 20) rfl (fun hc1 => ?_) (fun hc1 => ?_)
           · first
             | exact absurd hc1 (by decide)
             | (simp at hc1; done)
             | (exfalso; (try simp at hc1); omega)
             | ((try simp at hc1)
                refine awp_skip ?_
                refine hK7 _ _ ?_
                clear hK7
                refine awp_seq fun K9 hK9 => ?_
                refine awp_block ?_
                refine awp_seq fun K10 hK10 => ?_
                refine awp_seq fun K11 hK11 => ?_
                refine awp_region ft1Ok ?_
                simp only [go_sem, Nat.reduceBEq, Nat.reduceLT, Nat.reduceAdd, Nat.reduceLeDiff, Nat.reduceSub, Nat.reduceEqDiff, Int.reduceToNat, reduceCtorEq, ↓reduceIte, ft1, l1InG]
                repeat' (first | refine And.intro ?_ ?_ | (intro hg; try simp at hg))
                all_goals first
                  | refine hK11 _ _ ?_
                  | omega
                  | ((simp; omega))
                clear hK11
                refine awp_cond (t := 31) rfl (fun hc2 => ?_) (fun hc2 => ?_)
                · first
                  | exact absurd hc2 (by decide)
                  | (simp at hc2; done)
                  | (exfalso; (try simp at hc2); omega)
                  | ((try simp at hc2)
                     refine awp_seq fun K12 hK12 => ?_
                     refine awp_region ft1Ok ?_
                     simp only [go_sem, Nat.reduceBEq, Nat.reduceLT, Nat.reduceAdd, Nat.reduceLeDiff, Nat.reduceSub, Nat.reduceEqDiff, Int.reduceToNat, reduceCtorEq, ↓reduceIte, ft1, l1InG]
                     repeat' (first | refine And.intro ?_ ?_ | (intro hg; try simp at hg))
                     all_goals first
                       | refine hK12 _ _ ?_
                       | omega
                       | ((simp; omega))
                     clear hK12
                     refine awp_ret ?_
                     (try simp only [Thn, InBlk, ↓reduceIte, Nat.reduceEqDiff])
                     refine ⟨by simp, _, [0], rfl, ?_, ?_, ?_, ?_⟩
                     · first | exact trivial | exact ⟨trivial, trivial⟩ | exact ⟨trivial, trivial, trivial⟩ | exact ⟨trivial, trivial, trivial, trivial⟩ | (simp only [allP, and_true, true_and]; done) | (simp only [allP, and_true, true_and]; omega)
                     · simp [selOk, pos]
                     · simp
                     · simp only [go_sem, Nat.reduceBEq, Nat.reduceLT, Nat.reduceAdd, Nat.reduceLeDiff, Nat.reduceSub, Nat.reduceEqDiff, Int.reduceToNat, reduceCtorEq, ↓reduceIte]
                       rw [depthF_none hg (by rw [← hs.2.2.2]; exact endF_leaves hs.2.1 hs.2.2.1 hc2)])
                · first
                  | exact absurd hc2 (by decide)
                  | (simp at hc2; done)
                  | (exfalso; (try simp at hc2); omega)
                  | ((try simp at hc2)
                     refine awp_skip ?_
                     refine hK10 _ _ ?_
                     clear hK10
                     refine awp_seq fun K13 hK13 => ?_
                     refine awp_seq fun K14 hK14 => ?_
                     refine awp_region ft1Ok ?_
                     simp only [go_sem, Nat.reduceBEq, Nat.reduceLT, Nat.reduceAdd, Nat.reduceLeDiff, Nat.reduceSub, Nat.reduceEqDiff, Int.reduceToNat, reduceCtorEq, ↓reduceIte, ft1, l1InG]
                     repeat' (first | refine And.intro ?_ ?_ | (intro hg; try simp at hg))
                     all_goals first
                       | refine hK14 _ _ ?_
                       | omega
                       | ((simp; omega))
                     clear hK14
                     refine awp_cond (t := 37) rfl (fun hc3 => ?_) (fun hc3 => ?_)
                     · first
                       | exact absurd hc3 (by decide)
                       | (simp at hc3; done)
                       | (exfalso; (try simp at hc3); omega)
                       | ((try simp at hc3)
                          refine awp_seq fun K15 hK15 => ?_
                          refine awp_region ft1Ok ?_
                          simp only [go_sem, Nat.reduceBEq, Nat.reduceLT, Nat.reduceAdd, Nat.reduceLeDiff, Nat.reduceSub, Nat.reduceEqDiff, Int.reduceToNat, reduceCtorEq, ↓reduceIte, ft1, l1InG]
                          repeat' (first | refine And.intro ?_ ?_ | (intro hg; try simp at hg))
                          all_goals first
                            | refine hK15 _ _ ?_
                            | omega
                            | ((simp; omega))
                          clear hK15
                          refine awp_ret ?_
                          (try simp only [Thn, InBlk, ↓reduceIte, Nat.reduceEqDiff])
                          refine ⟨by simp, _, [0], rfl, ?_, ?_, ?_, ?_⟩
                          · first | exact trivial | exact ⟨trivial, trivial⟩ | exact ⟨trivial, trivial, trivial⟩ | exact ⟨trivial, trivial, trivial, trivial⟩ | (simp only [allP, and_true, true_and]; done) | (simp only [allP, and_true, true_and]; omega)
                          · simp [selOk, pos]
                          · simp
                          · simp only [go_sem, Nat.reduceBEq, Nat.reduceLT, Nat.reduceAdd, Nat.reduceLeDiff, Nat.reduceSub, Nat.reduceEqDiff, Int.reduceToNat, reduceCtorEq, ↓reduceIte]
                            rw [depthF_some hg (by rw [← hs.2.2.2]; exact endF_found (by omega) hs.2.1 hs.2.2.1 hc3)])
                     · first
                       | exact absurd hc3 (by decide)
                       | (simp at hc3; done)
                       | (exfalso; (try simp at hc3); omega)
                       | ((try simp at hc3)
                          refine awp_skip ?_
                          refine hK13 _ _ ?_
                          clear hK13
                          refine awp_last fun K16 hK16 => ?_
                          refine awp_region ft1Ok ?_
                          simp only [go_sem, Nat.reduceBEq, Nat.reduceLT, Nat.reduceAdd, Nat.reduceLeDiff, Nat.reduceSub, Nat.reduceEqDiff, Int.reduceToNat, reduceCtorEq, ↓reduceIte, ft1, l1InG]
                          repeat' (first | refine And.intro ?_ ?_ | (intro hg; try simp at hg))
                          all_goals first
                            | refine hK16 _ _ ?_
                            | omega
                            | ((simp; omega))
                          clear hK16
                          (try simp only [Thn, InBlk, ↓reduceIte, Nat.reduceEqDiff])
                          refine hK9 _ _ ?_
                          clear hK9
                          refine awp_last fun K17 hK17 => ?_
                          refine awp_region ft1Ok ?_
                          simp only [go_sem, Nat.reduceBEq, Nat.reduceLT, Nat.reduceAdd, Nat.reduceLeDiff, Nat.reduceSub, Nat.reduceEqDiff, Int.reduceToNat, reduceCtorEq, ↓reduceIte, ft1, l1InG]
                          repeat' (first | refine And.intro ?_ ?_ | (intro hg; try simp at hg))
                          all_goals first
                            | refine hK17 _ _ ?_
                            | omega
                            | ((simp; omega))
                          clear hK17
                          (try simp only [Thn, InBlk, ↓reduceIte, Nat.reduceEqDiff])
                          refine ⟨(s.1 + 1, xs.getD s.2.toNat 0), ?_, ?_, ?_⟩
                          · exact ⟨by simp only []; omega, by simp only [List.getD_eq_getElem?_getD]; omega, by simp only [List.getD_eq_getElem?_getD]; omega, by rw [← hs.2.2.2]; exact (endF_step (by omega) hs.2.1 hs.2.2.1 hc3).symm⟩
                          · (simp only []; omega)
                          · refine Red.fin ?_ rfl
                            (simp only [Ele, Env.ren, AV.ren, AV.ren2, AV.ren1, AObj.ren, pos, selH, List.map_cons, List.map_nil, List.lookup, Nat.reduceBEq, Nat.reduceAdd, Nat.reduceEqDiff, Option.some.injEq, AV.v.injEq, AV.sl.injEq, AV.pp.injEq, AV.ep.injEq, AV.agg.injEq, List.cons.injEq, Value.int.injEq, Value.bool.injEq, Value.string.injEq, true_and, and_true, true_or, or_true, or_false, false_or, reduceCtorEq, ↓reduceIte, Option.getD_some, Option.getD_none, List.getElem?_cons_zero, List.getElem?_cons_succ, List.getElem?_nil, Nat.zero_add, Nat.one_ne_zero, Nat.zero_ne_one, and_self]) <;> first | done | omega | (refine ⟨?_, ?_⟩ <;> omega))))
           · first
             | exact absurd hc1 (by decide)
             | (simp at hc1; done)
             | (exfalso; (try simp at hc1); omega)
             | ((try simp at hc1)
                refine awp_exit ?_
                (try simp only [Thn, InBlk, ↓reduceIte, Nat.reduceEqDiff])
                refine hK5 _ _ ?_
                clear hK5
                refine awp_seq fun K18 hK18 => ?_
                refine awp_region ft1Ok ?_
                simp only [go_sem, Nat.reduceBEq, Nat.reduceLT, Nat.reduceAdd, Nat.reduceLeDiff, Nat.reduceSub, Nat.reduceEqDiff, Int.reduceToNat, reduceCtorEq, ↓reduceIte, ft1, l1InG]
                repeat' (first | refine And.intro ?_ ?_ | (intro hg; try simp at hg))
                all_goals first
                  | refine hK18 _ _ ?_
                  | omega
                  | ((simp; omega))
                clear hK18
                refine awp_ret ?_
                (try simp only [Thn, InBlk, ↓reduceIte, Nat.reduceEqDiff])
                refine ⟨by simp, _, [0], rfl, ?_, ?_, ?_, ?_⟩
                · first | exact trivial | exact ⟨trivial, trivial⟩ | exact ⟨trivial, trivial, trivial⟩ | exact ⟨trivial, trivial, trivial, trivial⟩ | (simp only [allP, and_true, true_and]; done) | (simp only [allP, and_true, true_and]; omega)
                · simp [selOk, pos]
                · simp
                · simp only [go_sem, Nat.reduceBEq, Nat.reduceLT, Nat.reduceAdd, Nat.reduceLeDiff, Nat.reduceSub, Nat.reduceEqDiff, Int.reduceToNat, reduceCtorEq, ↓reduceIte]
                  have hz : xs.length + 1 - s.1 = 0 := (by omega); rw [depthF_none hg (by rw [← hs.2.2.2, hz]; rfl)]))
theorem c_laws_FnExactForestDepth (xs : List Int) (v : Int) :
    FnA Try.prog 3 [.sl 0, .v (.int .i64 v)] [.row false (.ints .i64 xs)] [] (fun x H => x = .v (.bool true)) := by
  refine FnA.of (N := 28) (pin := [0]) (rs := [.tmp 4]) Try.func3 rfl en3 rfl rfl (by simp) (by simp; try omega) ?_
  refine awp_seq fun K1 hK1 => ?_
  refine awp_region ftNoneOk ?_
  simp only [go_sem, Nat.reduceBEq, Nat.reduceLT, Nat.reduceAdd, Nat.reduceLeDiff, Nat.reduceSub, Nat.reduceEqDiff, Int.reduceToNat, reduceCtorEq, ↓reduceIte, ftNone]
  repeat' (first | refine And.intro ?_ ?_ | (intro hg; try simp at hg))
  all_goals first
    | refine hK1 _ _ ?_
    | omega
    | ((simp; omega))
  clear hK1
  refine awp_seq fun K2 hK2 => ?_
  refine awp_seq fun K3 hK3 => ?_
  refine awp_region ftNoneOk ?_
  simp only [go_sem, Nat.reduceBEq, Nat.reduceLT, Nat.reduceAdd, Nat.reduceLeDiff, Nat.reduceSub, Nat.reduceEqDiff, Int.reduceToNat, reduceCtorEq, ↓reduceIte, ftNone]
  repeat' (first | refine And.intro ?_ ?_ | (intro hg; try simp at hg))
  all_goals first
    | refine hK3 _ _ ?_
    | omega
    | ((simp; omega))
  clear hK3
  refine awp_cond (t := 10) rfl (fun hc0 => ?_) (fun hc0 => ?_)
  · first
    | exact absurd hc0 (by decide)
    | (simp at hc0; done)
    | (exfalso; (try simp at hc0); omega)
    | ((try simp at hc0)
       refine awp_seq fun K4 hK4 => ?_
       refine awp_region ftNoneOk ?_
       simp only [go_sem, Nat.reduceBEq, Nat.reduceLT, Nat.reduceAdd, Nat.reduceLeDiff, Nat.reduceSub, Nat.reduceEqDiff, Int.reduceToNat, reduceCtorEq, ↓reduceIte, ftNone]
       repeat' (first | refine And.intro ?_ ?_ | (intro hg; try simp at hg))
       all_goals first
         | refine hK4 _ _ ?_
         | omega
         | ((simp; omega))
       clear hK4
       refine awp_ret ?_
       (try simp only [Thn, InBlk, ↓reduceIte, Nat.reduceEqDiff])
       refine ⟨by simp, _, [0], rfl, ?_, ?_, ?_, ?_⟩
       · first | exact trivial | exact ⟨trivial, trivial⟩ | exact ⟨trivial, trivial, trivial⟩ | exact ⟨trivial, trivial, trivial, trivial⟩ | (simp only [allP, and_true, true_and]; done) | (simp only [allP, and_true, true_and]; omega)
       · simp [selOk, pos]
       · simp
       · simp only [go_sem, Nat.reduceBEq, Nat.reduceLT, Nat.reduceAdd, Nat.reduceLeDiff, Nat.reduceSub, Nat.reduceEqDiff, Int.reduceToNat, reduceCtorEq, ↓reduceIte])
  · first
    | exact absurd hc0 (by decide)
    | (simp at hc0; done)
    | (exfalso; (try simp at hc0); omega)
    | ((try simp at hc0)
       refine awp_skip ?_
       refine hK2 _ _ ?_
       clear hK2
       refine awp_seq fun K5 hK5 => ?_
       refine awp_region ftNoneOk ?_
       simp only [go_sem, Nat.reduceBEq, Nat.reduceLT, Nat.reduceAdd, Nat.reduceLeDiff, Nat.reduceSub, Nat.reduceEqDiff, Int.reduceToNat, reduceCtorEq, ↓reduceIte, ftNone]
       repeat' (first | refine And.intro ?_ ?_ | (intro hg; try simp at hg))
       all_goals first
         | refine hK5 _ _ ?_
         | (refine wpA_call (c_laws_toIntS xs (by omega)) [0] [] (by rfl) ?_ (by rfl) ?_ ?_ ?_ ?_ ?_
            · first | (simp only [go_sem, Nat.reduceBEq, Nat.reduceLT, Nat.reduceAdd, Nat.reduceLeDiff, Nat.reduceSub, Nat.reduceEqDiff, Int.reduceToNat, reduceCtorEq, ↓reduceIte, ftNone]; done) | (simp only [go_sem, Nat.reduceBEq, Nat.reduceLT, Nat.reduceAdd, Nat.reduceLeDiff, Nat.reduceSub, Nat.reduceEqDiff, Int.reduceToNat, reduceCtorEq, ↓reduceIte, ftNone] <;> simp)
            · simp [exIds, AObj.excl]
            · first | (simp only [go_sem, Nat.reduceBEq, Nat.reduceLT, Nat.reduceAdd, Nat.reduceLeDiff, Nat.reduceSub, Nat.reduceEqDiff, Int.reduceToNat, reduceCtorEq, ↓reduceIte, ftNone]; done) | (simp only [go_sem, Nat.reduceBEq, Nat.reduceLT, Nat.reduceAdd, Nat.reduceLeDiff, Nat.reduceSub, Nat.reduceEqDiff, Int.reduceToNat, reduceCtorEq, ↓reduceIte, ftNone] <;> simp)
            · simp
            · simp [exIds, AObj.excl]
            intro x Hc' hR hlen
            obtain ⟨rfl, rfl⟩ := hR
            all_goals
              refine vcOps_sound ftNoneOk ?_
              simp only [go_sem, Nat.reduceBEq, Nat.reduceLT, Nat.reduceAdd, Nat.reduceLeDiff, Nat.reduceSub, Nat.reduceEqDiff, Int.reduceToNat, reduceCtorEq, ↓reduceIte, ftNone]
              repeat' (first | refine And.intro ?_ ?_ | (intro hg; try simp at hg))
              all_goals first
                | refine hK5 _ _ ?_
                | (refine wpA_call (c_spec_ForestDepth xs v) [1] [] (by rfl) ?_ (by rfl) ?_ ?_ ?_ ?_ ?_
                   · first | (simp only [go_sem, Nat.reduceBEq, Nat.reduceLT, Nat.reduceAdd, Nat.reduceLeDiff, Nat.reduceSub, Nat.reduceEqDiff, Int.reduceToNat, reduceCtorEq, ↓reduceIte, ftNone]; done) | (simp only [go_sem, Nat.reduceBEq, Nat.reduceLT, Nat.reduceAdd, Nat.reduceLeDiff, Nat.reduceSub, Nat.reduceEqDiff, Int.reduceToNat, reduceCtorEq, ↓reduceIte, ftNone] <;> simp)
                   · simp [exIds, AObj.excl]
                   · first | (simp only [go_sem, Nat.reduceBEq, Nat.reduceLT, Nat.reduceAdd, Nat.reduceLeDiff, Nat.reduceSub, Nat.reduceEqDiff, Int.reduceToNat, reduceCtorEq, ↓reduceIte, ftNone]; done) | (simp only [go_sem, Nat.reduceBEq, Nat.reduceLT, Nat.reduceAdd, Nat.reduceLeDiff, Nat.reduceSub, Nat.reduceEqDiff, Int.reduceToNat, reduceCtorEq, ↓reduceIte, ftNone] <;> simp)
                   · simp
                   · simp [exIds, AObj.excl]
                   intro x Hc' hR hlen
                   obtain ⟨rfl, rfl⟩ := hR
                   all_goals
                     refine vcOps_sound ftNoneOk ?_
                     simp only [go_sem, Nat.reduceBEq, Nat.reduceLT, Nat.reduceAdd, Nat.reduceLeDiff, Nat.reduceSub, Nat.reduceEqDiff, Int.reduceToNat, reduceCtorEq, ↓reduceIte, ftNone]
                     repeat' (first | refine And.intro ?_ ?_ | (intro hg; try simp at hg))
                     all_goals first
                       | refine hK5 _ _ ?_
                       | omega
                       | ((simp; omega)))
                | omega
                | ((simp; omega)))
         | omega
         | ((simp; omega))
       all_goals
         clear hK5
         refine awp_seq fun K6 hK6 => ?_
         refine awp_region ftNoneOk ?_
         simp only [go_sem, Nat.reduceBEq, Nat.reduceLT, Nat.reduceAdd, Nat.reduceLeDiff, Nat.reduceSub, Nat.reduceEqDiff, Int.reduceToNat, reduceCtorEq, ↓reduceIte, ftNone]
         repeat' (first | refine And.intro ?_ ?_ | (intro hg; try simp at hg))
         all_goals first
           | refine hK6 _ _ ?_
           | (refine wpA_call (c_laws_toIntS xs (by omega)) [0] [] (by rfl) ?_ (by rfl) ?_ ?_ ?_ ?_ ?_
              · first | (simp only [go_sem, Nat.reduceBEq, Nat.reduceLT, Nat.reduceAdd, Nat.reduceLeDiff, Nat.reduceSub, Nat.reduceEqDiff, Int.reduceToNat, reduceCtorEq, ↓reduceIte, ftNone]; done) | (simp only [go_sem, Nat.reduceBEq, Nat.reduceLT, Nat.reduceAdd, Nat.reduceLeDiff, Nat.reduceSub, Nat.reduceEqDiff, Int.reduceToNat, reduceCtorEq, ↓reduceIte, ftNone] <;> simp)
              · simp [exIds, AObj.excl]
              · first | (simp only [go_sem, Nat.reduceBEq, Nat.reduceLT, Nat.reduceAdd, Nat.reduceLeDiff, Nat.reduceSub, Nat.reduceEqDiff, Int.reduceToNat, reduceCtorEq, ↓reduceIte, ftNone]; done) | (simp only [go_sem, Nat.reduceBEq, Nat.reduceLT, Nat.reduceAdd, Nat.reduceLeDiff, Nat.reduceSub, Nat.reduceEqDiff, Int.reduceToNat, reduceCtorEq, ↓reduceIte, ftNone] <;> simp)
              · simp
              · simp [exIds, AObj.excl]
              intro x Hc' hR hlen
              obtain ⟨rfl, rfl⟩ := hR
              all_goals
                refine vcOps_sound ftNoneOk ?_
                simp only [go_sem, Nat.reduceBEq, Nat.reduceLT, Nat.reduceAdd, Nat.reduceLeDiff, Nat.reduceSub, Nat.reduceEqDiff, Int.reduceToNat, reduceCtorEq, ↓reduceIte, ftNone]
                repeat' (first | refine And.intro ?_ ?_ | (intro hg; try simp at hg))
                all_goals first
                  | refine hK6 _ _ ?_
                  | omega
                  | ((simp; omega)))
           | omega
           | ((simp; omega))
         all_goals
           clear hK6
           refine awp_seq fun K7 hK7 => ?_
           refine awp_region ftNoneOk ?_
           simp only [go_sem, Nat.reduceBEq, Nat.reduceLT, Nat.reduceAdd, Nat.reduceLeDiff, Nat.reduceSub, Nat.reduceEqDiff, Int.reduceToNat, reduceCtorEq, ↓reduceIte, ftNone]
           repeat' (first | refine And.intro ?_ ?_ | (intro hg; try simp at hg))
           all_goals first
             | refine hK7 _ _ ?_
             | (refine wpA_call (c_impl_ForestDepth xs v) [2] [] (by rfl) ?_ (by rfl) ?_ ?_ ?_ ?_ ?_
                · first | (simp only [go_sem, Nat.reduceBEq, Nat.reduceLT, Nat.reduceAdd, Nat.reduceLeDiff, Nat.reduceSub, Nat.reduceEqDiff, Int.reduceToNat, reduceCtorEq, ↓reduceIte, ftNone]; done) | (simp only [go_sem, Nat.reduceBEq, Nat.reduceLT, Nat.reduceAdd, Nat.reduceLeDiff, Nat.reduceSub, Nat.reduceEqDiff, Int.reduceToNat, reduceCtorEq, ↓reduceIte, ftNone] <;> simp)
                · simp [exIds, AObj.excl]
                · first | (simp only [go_sem, Nat.reduceBEq, Nat.reduceLT, Nat.reduceAdd, Nat.reduceLeDiff, Nat.reduceSub, Nat.reduceEqDiff, Int.reduceToNat, reduceCtorEq, ↓reduceIte, ftNone]; done) | (simp only [go_sem, Nat.reduceBEq, Nat.reduceLT, Nat.reduceAdd, Nat.reduceLeDiff, Nat.reduceSub, Nat.reduceEqDiff, Int.reduceToNat, reduceCtorEq, ↓reduceIte, ftNone] <;> simp)
                · simp
                · simp [exIds, AObj.excl]
                intro x Hc' hR hlen
                obtain ⟨rfl, rfl⟩ := hR
                all_goals
                  refine vcOps_sound ftNoneOk ?_
                  simp only [go_sem, Nat.reduceBEq, Nat.reduceLT, Nat.reduceAdd, Nat.reduceLeDiff, Nat.reduceSub, Nat.reduceEqDiff, Int.reduceToNat, reduceCtorEq, ↓reduceIte, ftNone]
                  repeat' (first | refine And.intro ?_ ?_ | (intro hg; try simp at hg))
                  all_goals first
                    | refine hK7 _ _ ?_
                    | omega
                    | ((simp; omega)))
             | omega
             | ((simp; omega))
           all_goals
             clear hK7
             refine awp_seq fun K8 hK8 => ?_
             refine awp_seq fun K9 hK9 => ?_
             refine awp_region ftNoneOk ?_
             simp only [go_sem, Nat.reduceBEq, Nat.reduceLT, Nat.reduceAdd, Nat.reduceLeDiff, Nat.reduceSub, Nat.reduceEqDiff, Int.reduceToNat, reduceCtorEq, ↓reduceIte, ftNone]
             repeat' (first | refine And.intro ?_ ?_ | (intro hg; try simp at hg))
             all_goals first
               | refine hK9 _ _ ?_
               | omega
               | ((simp; omega))
             clear hK9
             refine awp_cond (t := 22) rfl (fun hc1 => ?_) (fun hc1 => ?_)
             · first
               | exact absurd hc1 (by decide)
               | (simp at hc1; done)
               | (exfalso; (try simp at hc1); omega)
               | ((try simp at hc1)
                  refine awp_seq fun K10 hK10 => ?_
                  refine awp_region ftNoneOk ?_
                  simp only [go_sem, Nat.reduceBEq, Nat.reduceLT, Nat.reduceAdd, Nat.reduceLeDiff, Nat.reduceSub, Nat.reduceEqDiff, Int.reduceToNat, reduceCtorEq, ↓reduceIte, ftNone]
                  repeat' (first | refine And.intro ?_ ?_ | (intro hg; try simp at hg))
                  all_goals first
                    | refine hK10 _ _ ?_
                    | omega
                    | ((simp; omega))
                  clear hK10
                  refine awp_ret ?_
                  (try simp only [Thn, InBlk, ↓reduceIte, Nat.reduceEqDiff])
                  refine ⟨by simp, _, [0], rfl, ?_, ?_, ?_, ?_⟩
                  · first | exact trivial | exact ⟨trivial, trivial⟩ | exact ⟨trivial, trivial, trivial⟩ | exact ⟨trivial, trivial, trivial, trivial⟩ | (simp only [allP, and_true, true_and]; done) | (simp only [allP, and_true, true_and]; omega)
                  · simp [selOk, pos]
                  · simp
                  · simp only [go_sem, Nat.reduceBEq, Nat.reduceLT, Nat.reduceAdd, Nat.reduceLeDiff, Nat.reduceSub, Nat.reduceEqDiff, Int.reduceToNat, reduceCtorEq, ↓reduceIte])
             · first
               | exact absurd hc1 (by decide)
               | (simp at hc1; done)
               | (exfalso; (try simp at hc1); omega)
               | ((try simp at hc1)
                  refine awp_skip ?_
                  refine hK8 _ _ ?_
                  clear hK8
                  refine awp_seq fun K11 hK11 => ?_
                  refine awp_seq fun K12 hK12 => ?_
                  refine awp_region ftNoneOk ?_
                  simp only [go_sem, Nat.reduceBEq, Nat.reduceLT, Nat.reduceAdd, Nat.reduceLeDiff, Nat.reduceSub, Nat.reduceEqDiff, Int.reduceToNat, reduceCtorEq, ↓reduceIte, ftNone]
                  repeat' (first | refine And.intro ?_ ?_ | (intro hg; try simp at hg))
                  all_goals first
                    | refine hK12 _ _ ?_
                    | (refine wpA_call (c_laws_toIntS xs (by omega)) [0] [] (by rfl) ?_ (by rfl) ?_ ?_ ?_ ?_ ?_
                       · first | (simp only [go_sem, Nat.reduceBEq, Nat.reduceLT, Nat.reduceAdd, Nat.reduceLeDiff, Nat.reduceSub, Nat.reduceEqDiff, Int.reduceToNat, reduceCtorEq, ↓reduceIte, ftNone]; done) | (simp only [go_sem, Nat.reduceBEq, Nat.reduceLT, Nat.reduceAdd, Nat.reduceLeDiff, Nat.reduceSub, Nat.reduceEqDiff, Int.reduceToNat, reduceCtorEq, ↓reduceIte, ftNone] <;> simp)
                       · simp [exIds, AObj.excl]
                       · first | (simp only [go_sem, Nat.reduceBEq, Nat.reduceLT, Nat.reduceAdd, Nat.reduceLeDiff, Nat.reduceSub, Nat.reduceEqDiff, Int.reduceToNat, reduceCtorEq, ↓reduceIte, ftNone]; done) | (simp only [go_sem, Nat.reduceBEq, Nat.reduceLT, Nat.reduceAdd, Nat.reduceLeDiff, Nat.reduceSub, Nat.reduceEqDiff, Int.reduceToNat, reduceCtorEq, ↓reduceIte, ftNone] <;> simp)
                       · simp
                       · simp [exIds, AObj.excl]
                       intro x Hc' hR hlen
                       obtain ⟨rfl, rfl⟩ := hR
                       all_goals
                         refine vcOps_sound ftNoneOk ?_
                         simp only [go_sem, Nat.reduceBEq, Nat.reduceLT, Nat.reduceAdd, Nat.reduceLeDiff, Nat.reduceSub, Nat.reduceEqDiff, Int.reduceToNat, reduceCtorEq, ↓reduceIte, ftNone]
                         repeat' (first | refine And.intro ?_ ?_ | (intro hg; try simp at hg))
                         all_goals first
                           | refine hK12 _ _ ?_
                           | (refine wpA_call (c_laws_eqIntS xs xs (by omega)) [2, 3] [] (by rfl) ?_ (by rfl) ?_ ?_ ?_ ?_ ?_
                              · first | (simp only [go_sem, Nat.reduceBEq, Nat.reduceLT, Nat.reduceAdd, Nat.reduceLeDiff, Nat.reduceSub, Nat.reduceEqDiff, Int.reduceToNat, reduceCtorEq, ↓reduceIte, ftNone]; done) | (simp only [go_sem, Nat.reduceBEq, Nat.reduceLT, Nat.reduceAdd, Nat.reduceLeDiff, Nat.reduceSub, Nat.reduceEqDiff, Int.reduceToNat, reduceCtorEq, ↓reduceIte, ftNone] <;> simp)
                              · simp [exIds, AObj.excl]
                              · first | (simp only [go_sem, Nat.reduceBEq, Nat.reduceLT, Nat.reduceAdd, Nat.reduceLeDiff, Nat.reduceSub, Nat.reduceEqDiff, Int.reduceToNat, reduceCtorEq, ↓reduceIte, ftNone]; done) | (simp only [go_sem, Nat.reduceBEq, Nat.reduceLT, Nat.reduceAdd, Nat.reduceLeDiff, Nat.reduceSub, Nat.reduceEqDiff, Int.reduceToNat, reduceCtorEq, ↓reduceIte, ftNone] <;> simp)
                              · simp
                              · simp [exIds, AObj.excl]
                              intro x Hc' hR hlen
                              obtain ⟨rfl, rfl⟩ := hR
                              all_goals
                                refine vcOps_sound ftNoneOk ?_
                                simp only [go_sem, Nat.reduceBEq, Nat.reduceLT, Nat.reduceAdd, Nat.reduceLeDiff, Nat.reduceSub, Nat.reduceEqDiff, Int.reduceToNat, reduceCtorEq, ↓reduceIte, ftNone]
                                repeat' (first | refine And.intro ?_ ?_ | (intro hg; try simp at hg))
                                all_goals first
                                  | refine hK12 _ _ ?_
                                  | omega
                                  | ((simp; omega)))
                           | omega
                           | ((simp; omega)))
                    | omega
                    | ((simp; omega))
                  all_goals
                    clear hK12
                    refine awp_cond (t := 27) rfl (fun hc2 => ?_) (fun hc2 => ?_)
                    · first
                      | exact absurd hc2 (by decide)
                      | (simp at hc2; done)
                      | (exfalso; (try simp at hc2); omega)
                      | ((try simp at hc2)
                         refine awp_seq fun K13 hK13 => ?_
                         refine awp_region ftNoneOk ?_
                         simp only [go_sem, Nat.reduceBEq, Nat.reduceLT, Nat.reduceAdd, Nat.reduceLeDiff, Nat.reduceSub, Nat.reduceEqDiff, Int.reduceToNat, reduceCtorEq, ↓reduceIte, ftNone]
                         repeat' (first | refine And.intro ?_ ?_ | (intro hg; try simp at hg))
                         all_goals first
                           | refine hK13 _ _ ?_
                           | omega
                           | ((simp; omega))
                         clear hK13
                         refine awp_ret ?_
                         (try simp only [Thn, InBlk, ↓reduceIte, Nat.reduceEqDiff])
                         refine ⟨by simp, _, [0], rfl, ?_, ?_, ?_, ?_⟩
                         · first | exact trivial | exact ⟨trivial, trivial⟩ | exact ⟨trivial, trivial, trivial⟩ | exact ⟨trivial, trivial, trivial, trivial⟩ | (simp only [allP, and_true, true_and]; done) | (simp only [allP, and_true, true_and]; omega)
                         · simp [selOk, pos]
                         · simp
                         · simp only [go_sem, Nat.reduceBEq, Nat.reduceLT, Nat.reduceAdd, Nat.reduceLeDiff, Nat.reduceSub, Nat.reduceEqDiff, Int.reduceToNat, reduceCtorEq, ↓reduceIte])
                    · first
                      | exact absurd hc2 (by decide)
                      | (simp at hc2; done)
                      | (exfalso; (try simp at hc2); omega)
                      | ((try simp at hc2)
                         refine awp_skip ?_
                         refine hK11 _ _ ?_
                         clear hK11
                         refine awp_seq fun K14 hK14 => ?_
                         refine awp_region ftNoneOk ?_
                         simp only [go_sem, Nat.reduceBEq, Nat.reduceLT, Nat.reduceAdd, Nat.reduceLeDiff, Nat.reduceSub, Nat.reduceEqDiff, Int.reduceToNat, reduceCtorEq, ↓reduceIte, ftNone]
                         repeat' (first | refine And.intro ?_ ?_ | (intro hg; try simp at hg))
                         all_goals first
                           | refine hK14 _ _ ?_
                           | omega
                           | ((simp; omega))
                         clear hK14
                         refine awp_ret ?_
                         (try simp only [Thn, InBlk, ↓reduceIte, Nat.reduceEqDiff])
                         refine ⟨by simp, _, [0], rfl, ?_, ?_, ?_, ?_⟩
                         · first | exact trivial | exact ⟨trivial, trivial⟩ | exact ⟨trivial, trivial, trivial⟩ | exact ⟨trivial, trivial, trivial, trivial⟩ | (simp only [allP, and_true, true_and]; done) | (simp only [allP, and_true, true_and]; omega)
                         · simp [selOk, pos]
                         · simp
                         · simp only [go_sem, Nat.reduceBEq, Nat.reduceLT, Nat.reduceAdd, Nat.reduceLeDiff, Nat.reduceSub, Nat.reduceEqDiff, Int.reduceToNat, reduceCtorEq, ↓reduceIte])))
end Go.Proofs.Ytjbklceikbdiiaa

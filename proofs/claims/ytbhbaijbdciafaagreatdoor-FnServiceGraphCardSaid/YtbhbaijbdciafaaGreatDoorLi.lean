import Derived.Test.YtbhbaijbdciafaaGreatDoorLz1
import Derived.Test.YtbhbaijbdciafaaGreatDoorAvZ
import Derived.Shelf.RegionOpenPlain
import Derived.WalkKit
import Derived.Lib.Walk
import Derived.Lib.SliceRun
import Derived.Lib.JoinLaws
import Derived.Lib.AppendZeros
import Derived.Lib.AppendZerosOnto
import Derived.Lib.Overlaps
import Derived.Laws.Externs
import Derived.Laws.IdiomCopy
import Derived.Laws.CopyRow
import Derived.Laws.NewBlocks
import Derived.Shelf.Spec.SlicesInsert
import Derived.Laws.Append
set_option linter.unusedVariables false
set_option linter.unusedSimpArgs false
namespace Go.Proofs.YtbhbaijbdciafaaGreatDoor
open Go Go.Av Go.Proofs Go.Shelf Go.Lib
theorem run_copy_rowK {P : Program} (w : World) (dT sT ty elem : TypeId) (g o dLen dCap : Nat) (a : Addr) (sLen sCap : Nat) (cur : Array Value) (t : TypeId) (cs : List Value) (k : Nat)
 (hu : P.underlying dT = some (.slice elem)) (hs : (P.info? elem).map (·.size) = some k)
 (hg : w.heap[g]? = some (.cells cur t (0, 0))) (hn : cs.length = Nat.min sLen dLen * k)
 (hsrc : ∀ j v, cs[j]? = some v → w.cell? (a.add j) = some v) (hfit : o + cs.length ≤ cur.size) (h1 : ∀ v ∈ cs, v.oneCell' = true) :
 (Builtin.copy_ #[dT, sT] ty #[.slice (some ⟨g, o, none⟩) dLen dCap, .slice (some a) sLen sCap]).run P w =
  .ok (goInt (Nat.min sLen dLen)) (w.setRow g (cur.toList.take o ++ cs ++ cur.toList.drop (o + cs.length)).toArray) := by
 have hl := run_loadCells_list (P := P) w a cs hsrc
 have hst := run_storeCells_at P g o t cs 0 cur w hg (by simpa using hfit) h1
 cases hq : P.info? elem with
 | none => simp [hq] at hs
 | some i =>
   have hi : i.size = k := by simpa [hq] using hs
   simp [Builtin.copy_, run_underlying hu, Builtin.lenOf, Builtin.firstCells, sizeOf, typeInfo, hq, hi, ← hn, hl, hst]
def putA (arr : Array Value) (o : Nat) (cs : List Value) : Array Value := (arr.toList.take o ++ cs ++ arr.toList.drop (o + cs.length)).toArray
set_option maxHeartbeats 4000000 in
set_option maxRecDepth 100000 in
theorem ins_shift (b off n c i vb voff vc : Nat) (arr varr : Array Value) (te tv : TypeId) (cs vs : List Value) (w : World) (hi : i < n) (hroom : n + 1 ≤ c) (hc63 : c ≤ 9223372036854775807) (hvb : vb ≠ b)
 (hb : w.heap[b]? = some (.cells arr te (0, 0))) (hsz : off + c * 3 ≤ arr.size) (hv : w.heap[vb]? = some (.cells varr tv (0, 0)))
 (hcl : cs.length = (n - i) * 3) (hvl : vs.length = 3)
 (hcs : ∀ j v, cs[j]? = some v → arr[off + i * 3 + j]? = some v) (hvs : ∀ j v, vs[j]? = some v → varr[voff + j]? = some v) (h1c : ∀ v ∈ cs, v.oneCell' = true) (h1v : ∀ v ∈ vs, v.oneCell' = true) :
 Calls Tryz.prog 76 #[.slice (some ⟨b, off, none⟩) n c, .int .i64 i, .slice (some ⟨vb, voff, none⟩) 1 vc] w fun e w' =>
  e = .returned (.slice (some ⟨b, off, none⟩) (n + 1) c) ∧ w' = (w.drew.setRow b (putA arr (off + (i + 1) * 3) cs)).setRow b (putA (putA arr (off + (i + 1) * 3) cs) (off + i * 3) vs) := by
 have uS := run_underlying (P := Tryz.prog) Tryz.underlying23
 have uE := run_underlying (P := Tryz.prog) Tryz.underlying39
 have uI := run_underlying (P := Tryz.prog) Tryz.underlying3
 have hz2 : ¬ ((i : Int) = (n : Int)) := by omega
 have hw0 : IntKind.i64.wrap ((n : Int) + 1) = (n : Int) + 1 := by rw [IntKind.wrap_i64]; omega
 have hw1 : IntKind.i64.wrap ((i : Int) + 1) = (i : Int) + 1 := by rw [IntKind.wrap_i64]; omega
 have hb1 : (0 : Int) ≤ (i : Int) + 1 := by omega
 have hin : i ≤ n := by omega
 have htn : ((i : Int) + 1).toNat = i + 1 := by omega
 have hb2 : ¬ (c = i + 1) := by omega
 have hb3 : (i : Int) ≤ (n : Int) + 1 := by omega
 have hb4 : ¬ (c = i) := by omega
 have hszE : (Tryz.prog.info? 39).map (·.size) = some 3 := by kernel_rfl
 have hzE : ∀ w, (Go.sizeOf 39).run Tryz.prog w = .ok 3 w := fun w => by kernel_rfl
 have hov : ∀ lb cb, (callFunc 99 #[.slice (some ⟨vb, voff, none⟩) 1 vc, .slice (some ⟨b, off + (i + 1) * 3, none⟩) lb cb]).run Tryz.prog w = .ok (.value (.bool false)) w := fun lb cb => by
  rw [run_callFunc_extern Tryz.func99 (by kernel_rfl) (by kernel_rfl) (by kernel_rfl) (e := Extern.SlicesOverlaps.overlaps #[23, 23] #[4]) (by kernel_rfl),
   Lib.run_overlaps_apart w 23 4 39 Tryz.underlying23 3 hzE ⟨vb, voff, none⟩ ⟨b, off + (i + 1) * 3, none⟩ 1 vc lb cb hvb tv te varr.size arr.size (by simp [World.shape?, hv]) (by simp [World.shape?, hb]) (by omega) (by simp [World.frozen?, hv]) (by simp [World.frozen?, hv])]
  rfl
 have hm1 : Nat.min (n + 1 - i) (n - i) = n - i := Nat.min_eq_right (by omega)
 have hm2 : Nat.min 1 (n + 1 - i) = 1 := Nat.min_eq_left (by omega)
 have hcp1 : ∀ ty dc sc, (Builtin.copy_ #[23, 23] ty #[.slice (some ⟨b, off + (i + 1) * 3, none⟩) (n - i) dc, .slice (some ⟨b, off + i * 3, none⟩) (n + 1 - i) sc]).run Tryz.prog w.drew = .ok (goInt (Nat.min (n + 1 - i) (n - i))) (w.drew.setRow b (putA arr (off + (i + 1) * 3) cs)) := fun ty dc sc =>
  run_copy_rowK w.drew 23 23 ty 39 b _ _ dc ⟨b, off + i * 3, none⟩ _ sc arr te cs 3 Tryz.underlying23 hszE hb (by rw [hcl, hm1])
   (fun j v hj => by rw [Addr.add_lit]; simp only [World.cell?, World.drew]; rw [hb]; exact hcs j v hj) (by rw [hcl]; omega) h1c
 obtain ⟨W1, hW1⟩ : ∃ W1, W1 = w.drew.setRow b (putA arr (off + (i + 1) * 3) cs) := ⟨_, rfl⟩
 have hW1b : W1.heap[b]? = some (.cells (putA arr (off + (i + 1) * 3) cs) te (0, 0)) := by rw [hW1]; exact setRow_heap _ _ _ _ _ _ hb
 have hps : (putA arr (off + (i + 1) * 3) cs).size = arr.size := by simp [putA]; omega
 rw [← hW1] at hcp1
 have hcp2 : ∀ ty dc, (Builtin.copy_ #[23, 23] ty #[.slice (some ⟨b, off + i * 3, none⟩) (n + 1 - i) dc, .slice (some ⟨vb, voff, none⟩) 1 vc]).run Tryz.prog W1 = .ok (goInt (Nat.min 1 (n + 1 - i))) (W1.setRow b (putA (putA arr (off + (i + 1) * 3) cs) (off + i * 3) vs)) := fun ty dc =>
  run_copy_rowK W1 23 23 ty 39 b _ _ dc ⟨vb, voff, none⟩ _ vc _ te vs 3 Tryz.underlying23 hszE hW1b (by rw [hvl, hm2])
   (fun j v hj => by
     rw [Addr.add_lit, hW1]
     have e : (w.drew.setRow b (putA arr (off + (i + 1) * 3) cs)).heap[vb]? = w.heap[vb]? := by
      simp only [World.setRow, World.drew]
      rw [Array.getElem?_modify, if_neg (Ne.symm hvb)]
     simp only [World.cell?]
     rw [e, hv]
     exact hvs j v hj) (by rw [hvl, hps]; omega) h1v
 simp only [hm1] at hcp1
 simp only [hm2] at hcp2
 clear hm1 hm2
 subst hW1
 have mixed : Tryz.prog.follows .mixedOrders = true := by kernel_rfl
 go_enter Tryz.func76, Tryz.ntmps76
 go_wp2_with (simp only [hov])
 go_region_law_o (refine step_copy_runI rfl _ _ 23 23 rfl _ _ (by simp [Act.eval, Act.put]) (by simp [Act.eval, Act.put]) (hcp1 _ _ _) ?_)
 go_wp2_with (at_builtin; refine wpList_copy_runI _ rfl _ _ 23 23 rfl _ _ rfl rfl (hcp2 _ _) ?_)
 go_ret
 first | exact ⟨rfl, rfl⟩ | (trace_state; fail)
set_option maxHeartbeats 4000000 in
set_option maxRecDepth 100000 in
theorem ins_grow (b off n c i vb voff vc : Nat) (arr varr : Array Value) (te tv : TypeId) (os cs vs : List Value) (w : World) (hi : i < n) (hnc : n ≤ c) (hroom : c < n + 1) (hbig : (n + 1) * 24 ≤ 140737488355328)
 (hb : w.heap[b]? = some (.cells arr te (0, 0))) (hv : w.heap[vb]? = some (.cells varr tv (0, 0)))
 (hol : os.length = i * 3) (hcl : cs.length = (n - i) * 3) (hvl : vs.length = 3)
 (hos : ∀ j v, os[j]? = some v → arr[off + j]? = some v) (hcs : ∀ j v, cs[j]? = some v → arr[off + i * 3 + j]? = some v) (hvs : ∀ j v, vs[j]? = some v → varr[voff + j]? = some v) (h1c : ∀ v ∈ cs, v.oneCell' = true) (h1v : ∀ v ∈ vs, v.oneCell' = true) :
 Calls Tryz.prog 76 #[.slice (some ⟨b, off, none⟩) n c, .int .i64 i, .slice (some ⟨vb, voff, none⟩) 1 vc] w fun e w' =>
  ∃ (ROW : Array Value) (G : Nat), e = .returned (.slice (some ⟨w.heap.size, 0, none⟩) (n + 1) G) ∧ n + 1 ≤ G ∧ G ≤ maxLen ∧ G * 3 = ROW.size ∧ (∀ (j : Nat) (v : Value), os[j]? = some v → ROW[j]? = some v) ∧
   w' = (((w.alloc (.cells ROW 39)).drew.setRow w.heap.size (putA ROW (i * 3) vs)).drew).setRow w.heap.size (putA (putA ROW (i * 3) vs) ((i + 1) * 3) cs) := by
 have hszE : (Tryz.prog.info? 39).map (·.size) = some 3 := by kernel_rfl
 obtain ⟨i0, hi0, hz0, hzs, hzb⟩ := info_parts (P := Tryz.prog) (e := 39) (z := .agg #[.int .i64 0, .int .i64 0, .int .i64 0]) (size := 3) (bytes := 24) (by kernel_rfl)
 have hbw : b < w.heap.size := (Array.getElem?_eq_some_iff.1 hb).1
 have hvw : vb < w.heap.size := (Array.getElem?_eq_some_iff.1 hv).1
 have hold : (Builtin.firstCells i0.size i (.slice (some ⟨b, off, none⟩) i c)).run Tryz.prog w.drew = .ok os.toArray w.drew := by
  rw [hzs]
  exact run_firstCells_some w.drew 3 i ⟨b, off, none⟩ i c os hol (fun j v hj => by rw [Addr.add_lit]; simp only [World.cell?, World.drew]; rw [hb]; exact hos j v hj)
 have hik : i + (n + 1 - i) = n + 1 := by omega
 have hkk : (n : Int) + 1 - (i : Int) = ((n + 1 - i : Nat) : Int) := by omega
 have hrz : ∀ ty, (Builtin.append_ #[23, 3] ty #[.slice (some ⟨b, off, none⟩) i c, .int .i64 ((n : Int) + 1 - (i : Int))]).run Tryz.prog w =
  .ok (.slice (some ⟨w.heap.size, 0, none⟩) (n + 1) (grownCap w (n + 1) c 39)) (w.drew.alloc (.cells (os.toArray ++ Builtin.zeroCells (Value.agg #[.int .i64 0, .int .i64 0, .int .i64 0]).cells (n + 1 - i) ++ Builtin.zeroCells (Value.agg #[.int .i64 0, .int .i64 0, .int .i64 0]).cells (grownCap w (n + 1) c 39 - (n + 1))) 39)) := fun ty => by
  have h := Lib.run_append_grow_zeros w 23 3 ty 39 i0 _ .i64 .i64 Tryz.underlying23 Tryz.underlying3 hi0 hz0 (some ⟨b, off, none⟩) i c os hold (n + 1 - i) (by omega) (by omega) (by omega) (by omega) (by rw [hzb]; omega) (by rw [hzb, hik]; exact growslice_fits hroom hbig)
  rw [hik] at h
  rw [hkk]
  exact h
 obtain ⟨G, hG⟩ : ∃ G, G = grownCap w (n + 1) c 39 := ⟨_, rfl⟩
 obtain ⟨ROW, hROW⟩ : ∃ ROW : Array Value, ROW = os.toArray ++ Builtin.zeroCells (Value.agg #[.int .i64 0, .int .i64 0, .int .i64 0]).cells (n + 1 - i) ++ Builtin.zeroCells (Value.agg #[.int .i64 0, .int .i64 0, .int .i64 0]).cells (G - (n + 1)) := ⟨_, rfl⟩
 rw [← hG] at hrz
 rw [← hROW] at hrz
 have hGn : n + 1 ≤ G := by rw [hG]; exact grownCap_ge w _ _ _
 have hGm : G ≤ maxLen := by rw [hG]; exact grownCap_le_maxLen w (n + 1) c 39 (by unfold maxLen; omega)
 have hG63 : G ≤ 9223372036854775807 := by unfold maxLen at hGm; omega
 have hRl : ROW.size = G * 3 := by
  rw [hROW]
  simp [Builtin.zeroCells, Value.cells, hol]
  omega
 have hRo : ∀ (j : Nat) (v : Value), os[j]? = some v → ROW[j]? = some v := fun j v hj => by
  have hlt : j < os.length := (List.getElem?_eq_some_iff.1 hj).1
  rw [hROW, Array.append_assoc, Array.getElem?_append_left (by simpa using hlt)]
  simpa using hj
 obtain ⟨N, hN⟩ : ∃ N, N = w.heap.size := ⟨_, rfl⟩
 have hbN : b ≠ N := by omega
 have hvN : vb ≠ N := by omega
 have hh : ∀ (x : Nat), x < w.heap.size → (w.drew.alloc (.cells ROW 39)).heap[x]? = w.heap[x]? := fun x hx => heap_alloc _ _ _ hx
 have hnN : (w.drew.alloc (.cells ROW 39)).heap[N]? = some (.cells ROW 39 (0, 0)) := by
  rw [hN]
  show (w.heap.push (.cells ROW 39))[w.heap.size]? = _
  simp
 have hso : ∀ (W : World) (A : Array Value) (x : Nat), x ≠ N → (W.setRow N A).heap[x]? = W.heap[x]? := fun W A x hx => by
  simp only [World.setRow]; rw [Array.getElem?_modify, if_neg (Ne.symm hx)]
 have hm1 : Nat.min 1 (n + 1 - i) = 1 := Nat.min_eq_left (by omega)
 have hm2 : Nat.min (n - i) (n - i) = n - i := Nat.min_self _
 have hcpA : ∀ (W : World), W.heap = (w.drew.alloc (.cells ROW 39)).heap → ∀ ty dc, (Builtin.copy_ #[23, 23] ty #[.slice (some ⟨N, i * 3, none⟩) (n + 1 - i) dc, .slice (some ⟨vb, voff, none⟩) 1 vc]).run Tryz.prog W = .ok (goInt 1) (W.setRow N (putA ROW (i * 3) vs)) := fun W hW ty dc => by
  have := run_copy_rowK W 23 23 ty 39 N (i * 3) (n + 1 - i) dc ⟨vb, voff, none⟩ 1 vc ROW 39 vs 3 Tryz.underlying23 hszE (by rw [hW]; exact hnN) (by rw [hvl, hm1])
   (fun j v hj => by rw [Addr.add_lit]; simp only [World.cell?]; rw [hW, hh _ hvw, hv]; exact hvs j v hj) (by rw [hvl, hRl]; omega) h1v
  rw [hm1] at this
  exact this
 have hpl : (putA ROW (i * 3) vs).size = ROW.size := by simp [putA]; omega
 have hcpB : ∀ (W : World), W.heap = ((w.drew.alloc (.cells ROW 39)).setRow N (putA ROW (i * 3) vs)).heap → ∀ ty dc sc, (Builtin.copy_ #[23, 23] ty #[.slice (some ⟨N, (i + 1) * 3, none⟩) (n - i) dc, .slice (some ⟨b, off + i * 3, none⟩) (n - i) sc]).run Tryz.prog W = .ok (goInt (n - i : Nat)) (W.setRow N (putA (putA ROW (i * 3) vs) ((i + 1) * 3) cs)) := fun W hW ty dc sc => by
  have := run_copy_rowK W 23 23 ty 39 N ((i + 1) * 3) (n - i) dc ⟨b, off + i * 3, none⟩ (n - i) sc (putA ROW (i * 3) vs) 39 cs 3 Tryz.underlying23 hszE (by rw [hW]; exact setRow_heap _ _ _ _ _ _ hnN) (by rw [hcl, hm2])
   (fun j v hj => by rw [Addr.add_lit]; simp only [World.cell?]; rw [hW, hso _ _ _ hbN, hh _ hbw, hb]; exact hcs j v hj) (by rw [hcl, hpl, hRl]; omega) h1c
  rw [hm2] at this
  exact this
 subst hN
 have hz2 : ¬ ((i : Int) = (n : Int)) := by omega
 have hz3 : (c : Int) < (n : Int) + 1 := by omega
 have hw0 : IntKind.i64.wrap ((n : Int) + 1) = (n : Int) + 1 := by rw [IntKind.wrap_i64]; unfold maxLen at hGm; omega
 have hw1 : IntKind.i64.wrap ((i : Int) + 1) = (i : Int) + 1 := by rw [IntKind.wrap_i64]; unfold maxLen at hGm; omega
 have hw2 : IntKind.i64.wrap ((n : Int) + 1 - (i : Int)) = (n : Int) + 1 - (i : Int) := by rw [IntKind.wrap_i64]; unfold maxLen at hGm; omega
 have hb1 : (0 : Int) ≤ (i : Int) + 1 := by omega
 have hin : i ≤ n := by omega
 have htn : ((i : Int) + 1).toNat = i + 1 := by omega
 have hb3 : (i : Int) ≤ (n : Int) := by omega
 have hb5 : (i : Int) ≤ (c : Int) := by omega
 have hb6 : i ≤ c := by omega
 have hb7 : (i : Int) ≤ (n : Int) + 1 := by omega
 have hb8 : (i : Int) + 1 ≤ (n : Int) + 1 := by omega
 have hci : ¬ (c = i) := by omega
 have hGi : ¬ (G = i) := by omega
 have hGi1 : ¬ (G = i + 1) := by omega
 have mixed : Tryz.prog.follows .mixedOrders = true := by kernel_rfl
 have hres : ∀ (R : Array Value), R = ROW → True := fun _ _ => trivial
 clear hkk hik hold hROW hG hm1 hm2 hres
 have hE : (w.alloc (.cells ROW 39)).drew.heap = (w.drew.alloc (.cells ROW 39)).heap := rfl
 have hF : ((w.alloc (.cells ROW 39)).drew.setRow w.heap.size (putA ROW (i * 3) vs)).drew.heap = ((w.drew.alloc (.cells ROW 39)).setRow w.heap.size (putA ROW (i * 3) vs)).heap := rfl
 go_enter Tryz.func76, Tryz.ntmps76
 go_wp2_with (first
  | (at_builtin; refine Lib.wpList_append_run _ rfl _ _ _ _ rfl _ _ rfl rfl _ _ (hrz _) ?_)
  | (at_builtin; refine wpList_copy_runI _ rfl _ _ 23 23 rfl _ _ rfl rfl (hcpA _ hE _ _) ?_))
 go_region_law_o (refine step_copy_runI rfl _ _ 23 23 rfl (.slice (some ⟨w.heap.size, (i + 1) * 3, none⟩) (n - i) (G - (i + 1))) (.slice (some ⟨b, off + i * 3, none⟩) (n - i) (c - i)) (by simp [Act.eval, Act.put]) (by simp [Act.eval, Act.put]) (hcpB _ hF 3 (G - (i + 1)) (c - i)) ?_)
 go_wp2
 go_ret
 exact ⟨ROW, G, rfl, hGn, hGm, hRl.symm, hRo, rfl⟩
def clE (e : Int × Int × Int) : List Value := [.int .i64 e.1, .int .i64 e.2.1, .int .i64 e.2.2]
def clL : List (Int × Int × Int) → List Value
 | [] => []
 | e :: l => clE e ++ clL l
theorem clL_len : ∀ l, (clL l).length = l.length * 3
 | [] => rfl
 | e :: l => by simp only [clL, clE, List.length_append, List.length_cons, List.length_nil, clL_len l]; omega
theorem clL_app : ∀ a b, clL (a ++ b) = clL a ++ clL b
 | [], b => rfl
 | e :: a, b => by simp only [List.cons_append, clL, clL_app a b, List.append_assoc]
theorem clL_one : ∀ l, ∀ v ∈ clL l, v.oneCell' = true
 | [], v, h => by cases h
 | e :: l, v, h => by
   simp only [clL, clE, List.mem_append, List.mem_cons, List.not_mem_nil, or_false] at h
   rcases h with (rfl | rfl | rfl) | h
   ·rfl
   ·rfl
   ·rfl
   ·exact clL_one l v h
theorem clL_get : ∀ (l : List (Int × Int × Int)) (i f : Nat), i < l.length → f < 3 → (clL l)[i * 3 + f]? = (Cont.trips l).cell i f
 | [], i, f, h, _ => absurd h (Nat.not_lt_zero _)
 | e :: l, 0, f, _, hf => by
   have h3 : f = 0 ∨ f = 1 ∨ f = 2 := by omega
   rcases h3 with rfl | rfl | rfl <;> rfl
 | e :: l, i + 1, f, h, hf => by
   have ih := clL_get l i f (by simpa using h) hf
   have e1 : (clL (e :: l))[(i + 1) * 3 + f]? = (clL l)[i * 3 + f]? := by
    rw [show (i + 1) * 3 + f = i * 3 + f + 3 from by omega]; rfl
   rw [e1, ih]
   simp [Cont.cell]
def HoldsL (arr : Array Value) (off : Nat) (l : List Value) : Prop := ∀ (j : Nat) (v : Value), l[j]? = some v → arr[off + j]? = some v
theorem holds_of {arr : Array Value} {off : Nat} {l : List (Int × Int × Int)} (h : ∀ i f x, i < (Cont.trips l).len → (Cont.trips l).cell i f = some x → arr[off + i * (Cont.trips l).esz + f]? = some x) : HoldsL arr off (clL l) := by
 intro j v hj
 have hlt : j < (clL l).length := (List.getElem?_eq_some_iff.1 hj).1
 rw [clL_len] at hlt
 have hd : j = j / 3 * 3 + j % 3 := by omega
 have hi : j / 3 < l.length := by omega
 rw [hd, clL_get l _ _ hi (Nat.mod_lt _ (by omega))] at hj
 have := h (j / 3) (j % 3) v hi hj
 rw [show off + j = off + j / 3 * (Cont.trips l).esz + j % 3 from by show off + j = off + j / 3 * 3 + j % 3; omega]
 exact this
theorem holds_to {arr : Array Value} {off : Nat} {l : List (Int × Int × Int)} (h : HoldsL arr off (clL l)) : ∀ i f x, i < (Cont.trips l).len → (Cont.trips l).cell i f = some x → arr[off + i * (Cont.trips l).esz + f]? = some x := by
 intro i f x hi hx
 have hf : f < 3 := by
  simp only [Cont.cell] at hx
  by_cases h0 : f = 0
  ·omega
  by_cases h1 : f = 1
  ·omega
  by_cases h2 : f = 2
  ·omega
  ·rw [if_neg h0, if_neg h1, if_neg h2] at hx; cases hx
 have := h (i * 3 + f) x (by rw [clL_get l i f hi hf]; exact hx)
 rw [← Nat.add_assoc] at this
 exact this
theorem HoldsL.left {arr : Array Value} {off : Nat} {a b : List Value} (h : HoldsL arr off (a ++ b)) : HoldsL arr off a := fun j v hj => h j v (by
 rw [List.getElem?_append_left ((List.getElem?_eq_some_iff.1 hj).1)]; exact hj)
theorem HoldsL.right {arr : Array Value} {off : Nat} {a b : List Value} (h : HoldsL arr off (a ++ b)) : HoldsL arr (off + a.length) b := fun j v hj => by
 rw [Nat.add_assoc]
 refine h _ v ?_
 rw [List.getElem?_append_right (by omega), Nat.add_sub_cancel_left]; exact hj
theorem HoldsL.app {arr : Array Value} {off : Nat} {a b : List Value} (h : HoldsL arr off a) (g : HoldsL arr (off + a.length) b) : HoldsL arr off (a ++ b) := fun j v hj => by
 by_cases hlt : j < a.length
 ·rw [List.getElem?_append_left hlt] at hj; exact h j v hj
 ·rw [List.getElem?_append_right (by omega)] at hj
  have := g _ v hj
  rwa [show off + a.length + (j - a.length) = off + j from by omega] at this
theorem putA_size {arr : Array Value} {o : Nat} {cs : List Value} (h : o + cs.length ≤ arr.size) : (putA arr o cs).size = arr.size := by
 simp [putA]; omega
theorem putA_get {arr : Array Value} {o : Nat} {cs : List Value} (h : o + cs.length ≤ arr.size) (k : Nat) : (putA arr o cs)[k]? = if k < o then arr[k]? else if k < o + cs.length then cs[k - o]? else arr[k]? := by
 have hs : o ≤ arr.toList.length := by simp; omega
 simp only [putA, List.getElem?_toArray]
 by_cases h1 : k < o
 ·rw [if_pos h1, List.append_assoc, List.getElem?_append_left (by simp; omega), List.getElem?_take, if_pos h1]; simp
 ·rw [if_neg h1, List.append_assoc, List.getElem?_append_right (by simp; omega), List.length_take, Nat.min_eq_left hs]
  by_cases h2 : k < o + cs.length
  ·rw [if_pos h2, List.getElem?_append_left (by omega)]
  ·rw [if_neg h2, List.getElem?_append_right (by omega), List.getElem?_drop]
   rw [show o + cs.length + (k - o - cs.length) = k from by omega]
   simp
theorem HoldsL.put_in {arr : Array Value} {o : Nat} {cs : List Value} (h : o + cs.length ≤ arr.size) : HoldsL (putA arr o cs) o cs := fun j v hj => by
 have hlt := (List.getElem?_eq_some_iff.1 hj).1
 rw [putA_get h, if_neg (by omega), if_pos (by omega), Nat.add_sub_cancel_left]; exact hj
theorem HoldsL.put_out {arr : Array Value} {o off : Nat} {cs l : List Value} (h : o + cs.length ≤ arr.size) (hl : HoldsL arr off l) (hd : off + l.length ≤ o ∨ o + cs.length ≤ off) : HoldsL (putA arr o cs) off l := fun j v hj => by
 have hlt := (List.getElem?_eq_some_iff.1 hj).1
 have := hl j v hj
 rw [putA_get h]
 split
 ·exact this
 ·split
  ·omega
  ·exact this
theorem flat_trips {own : Bool} {w : World} {S : Nat → Prop} {l : List (Int × Int × Int)} {b off cap n : Nat} {arr : Array Value} {e : TypeId} (hS : S b) (hb : w.heap[b]? = some (.cells arr e (0, 0)))
 (hn : n = l.length) (hcap : n ≤ cap) (hmax : cap ≤ maxLen) (hsz : off + cap * 3 ≤ arr.size) (hv : HoldsL arr off (clL l)) : CRep own w S (.sl 3 (Cont.trips l).rows) (.slice (some ⟨b, off, none⟩) n cap) := by
 subst hn
 exact flat_rep (c := .trips l) rfl hS hb hcap hmax hsz (holds_to hv)
theorem k_insF (a0 : List (Int × Int × Int)) (a1 : Int) (a2 : List (Int × Int × Int)) {r : List (Int × Int × Int)} (h : insF a0 a1 a2 = some r) :
 FnA Tryz.prog 76 [.sl 0, .v (.int .i64 a1), .sl 1] [.row true (.trips a0), .row true (.trips a2)] [] (fun x H => x = .sl 2 ∧ H = [.dead, .row true (.trips a2), .row true (.trips r)]) := by
 unfold insF at h
 obtain ⟨h1, h⟩ := chk_some h
 obtain ⟨⟨h2, h3⟩, h⟩ := chk_some h
 obtain ⟨h4, h⟩ := chk_some h
 obtain rfl := Option.some.inj h
 clear h
 by_cases hi : a1 = (a0.length : Int)
 ·have e : insA a0 a1 a2 = some (a0.take a1.toNat ++ a2 ++ a0.drop a1.toNat, a2) := by
   unfold insA
   rw [chk_pos (by omega), if_neg (by rw [beq_iff_eq]; omega), if_pos (by simpa using hi), chk_pos (by omega), hi, Int.toNat_natCast, List.take_length, List.drop_length, List.append_nil]
  exact k_insA a0 a1 a2 e
 refine ⟨en76, fun γ ρ us w hh hu => ?_⟩
 obtain ⟨u0, u1, u2, rfl⟩ : ∃ u0 u1 u2, us = [u0, u1, u2] := by
  have := hu.1
  match us, this with
  | [a, b, c], _ => exact ⟨a, b, c, rfl⟩
 have r0 : rel ρ (.sl 0) u0 := hu.2 0 _ _ rfl rfl
 have r1 : rel ρ (.v (.int .i64 a1)) u1 := hu.2 1 _ _ rfl rfl
 have r2 : rel ρ (.sl 1) u2 := hu.2 2 _ _ rfl rfl
 have r1' : u1 = .int .i64 a1 := r1
 subst r1'
 have r0' : ρ[0]? = some u0 := r0.1
 have r2' : ρ[1]? = some u2 := r2.1
 have hlen : ρ.length = 2 := hh.len
 obtain ⟨u, hρ, hrep⟩ := hh.obj 0 _ rfl
 have hu0 : u = u0 := by rw [hρ] at r0'; simpa using r0'
 subst hu0
 obtain ⟨v, hρv, hrepv⟩ := hh.obj 1 _ rfl
 have hv0 : v = u2 := by rw [hρv] at r2'; simpa using r2'
 subst hv0
 rcases flat_inv rfl hrep rfl with ⟨a, hu', h0⟩ | ⟨b, off, cap, arr, te, hu', hS, hb, hcap, hmax, hsz, hv⟩
 ·have : a0.length = 0 := h0
  omega
 rcases flat_inv rfl hrepv rfl with ⟨a, hu'', h0⟩ | ⟨vb, voff, vcap, varr, tv, hu'', hSv, hbv, hcapv, hmaxv, hszv, hvv⟩
 ·have : a2.length = 0 := h0
  omega
 subst hu' hu''
 simp only [if_true] at hS hSv
 have hvb : vb ≠ b := fun e => by rw [e, hS] at hSv; cases hSv
 have hln : (Cont.trips a0).len = a0.length := rfl
 have hlv : (Cont.trips a2).len = 1 := h1
 have hes : (Cont.trips a0).esz = 3 := rfl
 rw [hes] at hsz
 obtain ⟨i, rfl⟩ : ∃ i : Nat, a1 = (i : Int) := ⟨a1.toNat, by omega⟩
 rw [Int.toNat_natCast]
 have hin : i < a0.length := by omega
 have H0 := holds_of hv
 have HV := holds_of hvv
 have hsplit : clL a0 = clL (a0.take i) ++ clL (a0.drop i) := by rw [← clL_app, List.take_append_drop]
 rw [hsplit] at H0
 have htl : (clL (a0.take i)).length = i * 3 := by rw [clL_len, List.length_take, Nat.min_eq_left (by omega)]
 have hdl : (clL (a0.drop i)).length = (a0.length - i) * 3 := by rw [clL_len, List.length_drop]
 have hal : (clL a2).length = 3 := by rw [clL_len, h1]
 have HL := H0.left
 have HR := H0.right
 rw [htl] at HR
 have hrl : (a0.take i ++ a2 ++ a0.drop i).length = a0.length + 1 := by simp [h1]; omega
 have hblk : b < w.heap.size := (Array.getElem?_eq_some_iff.1 hb).1
 have hvblk : vb < w.heap.size := (Array.getElem?_eq_some_iff.1 hbv).1
 have hcat : clL (a0.take i ++ a2 ++ a0.drop i) = clL (a0.take i) ++ (clL a2 ++ clL (a0.drop i)) := by rw [clL_app, clL_app, List.append_assoc]
 have hm63 : cap ≤ 9223372036854775807 := by unfold maxLen at hmax; omega
 rw [hln, hlv] at *
 by_cases hroom : a0.length + 1 ≤ cap
 ·refine (ins_shift b off a0.length cap i vb voff vcap arr varr te tv (clL (a0.drop i)) (clL a2) w hin hroom hm63 hvb hb hsz hbv hdl hal HR HV (clL_one _) (clL_one _)).mono ?_
  rintro e' w' ⟨rfl, rfl⟩
  have hp1 : off + (i + 1) * 3 + (clL (a0.drop i)).length ≤ arr.size := by rw [hdl]; omega
  have hs1 := putA_size hp1
  have hp2 : off + i * 3 + (clL a2).length ≤ (putA arr (off + (i + 1) * 3) (clL (a0.drop i))).size := by rw [hal, hs1]; omega
  have HA : HoldsL (putA (putA arr (off + (i + 1) * 3) (clL (a0.drop i))) (off + i * 3) (clL a2)) off (clL (a0.take i ++ a2 ++ a0.drop i)) := by
   rw [hcat]
   refine .app (.put_out hp2 (.put_out hp1 HL (.inl (by rw [htl]; omega))) (.inl (by rw [htl]; omega))) (.app ?_ ?_)
   ·rw [htl]; exact .put_in hp2
   ·rw [htl, hal]
    refine .put_out hp2 ?_ (.inr (by rw [hal]; omega))
    have := HoldsL.put_in hp1
    rwa [show off + (i + 1) * 3 = off + i * 3 + 3 from by omega] at this ⊢
  have hw : ∀ b', b' ≠ b → (((w.drew.setRow b (putA arr (off + (i + 1) * 3) (clL (a0.drop i)))).setRow b (putA (putA arr (off + (i + 1) * 3) (clL (a0.drop i))) (off + i * 3) (clL a2)))).heap[b']? = w.heap[b']? := fun b' hne => by
   simp only [World.setRow]
   rw [Array.getElem?_modify, if_neg (Ne.symm hne), Array.getElem?_modify, if_neg (Ne.symm hne)]
   rfl
  have hwb : (((w.drew.setRow b (putA arr (off + (i + 1) * 3) (clL (a0.drop i)))).setRow b (putA (putA arr (off + (i + 1) * 3) (clL (a0.drop i))) (off + i * 3) (clL a2)))).heap[b]? = some (.cells (putA (putA arr (off + (i + 1) * 3) (clL (a0.drop i))) (off + i * 3) (clL a2)) te (0, 0)) :=
   setRow_heap _ _ _ _ _ _ (setRow_heap _ _ _ _ _ _ hb)
  have hwsz : ((w.drew.setRow b (putA arr (off + (i + 1) * 3) (clL (a0.drop i)))).setRow b (putA (putA arr (off + (i + 1) * 3) (clL (a0.drop i))) (off + i * 3) (clL a2))).heap.size = w.heap.size := by
   simp [World.setRow, Array.size_modify]
  refine ⟨_, .sl 2, fun x => if x = b then some 2 else γ x, ρ ++ [.slice (some ⟨b, off, none⟩) (a0.length + 1) cap], _, rfl, ⟨rfl, rfl⟩, ⟨by rw [List.getElem?_append_right (by omega), hlen]; rfl, rfl⟩, ⟨by simp [hlen], ?_, ?_⟩, ⟨rfl, rfl, rfl, by rw [hwsz]; exact Nat.le_refl _, fun b' hb' hg' => ?_, ?_⟩, by simp, fun o ho _ => ?_⟩
  ·intro o ob ho
   match o, ho with
   | 0, ho => obtain rfl := Option.some.inj ho; trivial
   | 1, ho =>
     obtain rfl := Option.some.inj ho
     refine ⟨_, getElem?_append_of hρv _, hrepv.stay fun b' hb' hlt => ?_⟩
     simp only [if_true] at hb'
     have hne : b' ≠ b := fun e => by rw [e, hS] at hb'; cases hb'
     exact ⟨hw b' hne, by simp only [if_neg hne, if_true]; exact hb'⟩
   | 2, ho =>
     obtain rfl := Option.some.inj ho
     refine ⟨_, by rw [List.getElem?_append_right (by omega), hlen]; rfl, ?_⟩
     exact flat_trips (by simp) hwb hrl.symm hroom hmax (by rw [putA_size hp2, hs1]; exact hsz) HA
   | o + 3, ho => cases ho
  ·intro b' o hb'
   rw [hwsz]
   split at hb'
   ·rename_i e
    obtain rfl := Option.some.inj hb'
    exact ⟨by simp, by rw [e]; exact hblk⟩
   ·have := hh.lab b' o hb'
    exact ⟨by simp only [List.length_cons, List.length_nil] at this ⊢; omega, this.2⟩
  ·have hne : b' ≠ b := fun e => by rw [e, hS] at hg'; cases hg'
   exact ⟨hw b' hne, by simp only [if_neg hne]; exact hg'⟩
  ·show w.drawn ≤ w.drawn + 1
   omega
  ·rw [List.getElem?_append_left (by rw [hlen]; simpa using ho)]
 ·refine (ins_grow b off a0.length cap i vb voff vcap arr varr te tv (clL (a0.take i)) (clL (a0.drop i)) (clL a2) w hin hcap (by omega) h4 hb hbv htl hdl hal HL HR HV (clL_one _) (clL_one _)).mono ?_
  rintro e' w' ⟨ROW, G, rfl, hG1, hG2, hRs, hRo, rfl⟩
  have hp1 : i * 3 + (clL a2).length ≤ ROW.size := by rw [hal]; omega
  have hs1 := putA_size hp1
  have hp2 : (i + 1) * 3 + (clL (a0.drop i)).length ≤ (putA ROW (i * 3) (clL a2)).size := by rw [hdl, hs1]; omega
  have HA : HoldsL (putA (putA ROW (i * 3) (clL a2)) ((i + 1) * 3) (clL (a0.drop i))) 0 (clL (a0.take i ++ a2 ++ a0.drop i)) := by
   have HL0 : HoldsL ROW 0 (clL (a0.take i)) := fun j v hj => by rw [Nat.zero_add]; exact hRo j v hj
   rw [hcat]
   refine .app (.put_out hp2 (.put_out hp1 HL0 (.inl (by rw [htl]; omega))) (.inl (by rw [htl]; omega))) (.app ?_ ?_)
   ·rw [htl, Nat.zero_add]; exact .put_out hp2 (.put_in hp1) (.inl (by rw [hal]; omega))
   ·rw [htl, hal, Nat.zero_add, show i * 3 + 3 = (i + 1) * 3 from by omega]
    exact .put_in hp2
  generalize hA : putA (putA ROW (i * 3) (clL a2)) ((i + 1) * 3) (clL (a0.drop i)) = A at HA
  have hAs : A.size = G * 3 := by rw [← hA, putA_size hp2, hs1, hRs]
  have hnN : (w.alloc (.cells ROW 39)).drew.heap[w.heap.size]? = some (.cells ROW 39 (0, 0)) := by
   show (w.heap.push (.cells ROW 39))[w.heap.size]? = _
   simp
  generalize hR1 : putA ROW (i * 3) (clL a2) = R1
  have hw : ∀ b', b' < w.heap.size → ((((w.alloc (.cells ROW 39)).drew.setRow w.heap.size R1).drew).setRow w.heap.size A).heap[b']? = w.heap[b']? := fun b' hlt => by
   have hne : w.heap.size ≠ b' := by omega
   simp only [World.setRow]
   rw [Array.getElem?_modify, if_neg hne]
   show (Array.modify _ _ _)[b']? = _
   rw [Array.getElem?_modify, if_neg hne]
   exact heap_alloc_old w _ hlt
  have hwb : ((((w.alloc (.cells ROW 39)).drew.setRow w.heap.size R1).drew).setRow w.heap.size A).heap[w.heap.size]? = some (.cells A 39 (0, 0)) :=
   setRow_heap _ _ _ _ _ _ (show ((w.alloc (.cells ROW 39)).drew.setRow w.heap.size R1).heap[w.heap.size]? = _ from setRow_heap _ _ _ _ _ _ hnN)
  have hwsz : ((((w.alloc (.cells ROW 39)).drew.setRow w.heap.size R1).drew).setRow w.heap.size A).heap.size = w.heap.size + 1 := by
   simp only [World.setRow, Array.size_modify]
   show (Array.modify (w.heap.push _) _ _).size = _
   simp
  refine ⟨_, .sl 2, own1 γ w.heap.size 2, ρ ++ [.slice (some ⟨w.heap.size, 0, none⟩) (a0.length + 1) G], _, rfl, ⟨rfl, rfl⟩, ⟨by rw [List.getElem?_append_right (by omega), hlen]; rfl, rfl⟩, ⟨by simp [hlen], ?_, ?_⟩, ⟨rfl, rfl, rfl, by rw [hwsz]; omega, fun b' hb' hg' => ?_, ?_⟩, by simp, fun o ho _ => ?_⟩
  ·intro o ob ho
   match o, ho with
   | 0, ho => obtain rfl := Option.some.inj ho; trivial
   | 1, ho =>
     obtain rfl := Option.some.inj ho
     refine ⟨_, getElem?_append_of hρv _, hrepv.stay fun b' hb' hlt => ?_⟩
     exact ⟨hw b' hlt, by simp only [own1]; rw [if_neg (by omega)]; exact hb'⟩
   | 2, ho =>
     obtain rfl := Option.some.inj ho
     refine ⟨_, by rw [List.getElem?_append_right (by omega), hlen]; rfl, ?_⟩
     exact flat_trips (by simp [own1]) hwb hrl.symm hG1 hG2 (by rw [hAs]; omega) HA
   | o + 3, ho => cases ho
  ·intro b' o hb'
   rw [hwsz]
   simp only [own1] at hb'
   split at hb'
   ·rename_i e
    obtain rfl := Option.some.inj hb'
    exact ⟨by simp, by omega⟩
   ·have := hh.lab b' o hb'
    exact ⟨by simp only [List.length_cons, List.length_nil] at this ⊢; omega, by omega⟩
  ·exact ⟨hw b' hb', by simp only [own1]; rw [if_neg (by omega)]; exact hg'⟩
  ·show w.drawn ≤ w.drawn + 1 + 1
   omega
  ·rw [List.getElem?_append_left (by rw [hlen]; simpa using ho)]
end Go.Proofs.YtbhbaijbdciafaaGreatDoor

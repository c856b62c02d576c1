import Derived.Test.YtbhbaijbdciafaaGreatDoorAvI
set_option linter.unusedSimpArgs false
set_option linter.unusedVariables false
namespace Go.Av
open Go
variable {P : Program} {N : Nat} {pin : List Nat} {γ γ' : Nat → Option Nat} {ρ : List Value} {H : List AObj} {w w' : World}
def contZero (z : Value) (n : Nat) : Option Cont :=
 match z with
 | .int k m => some (.ints k (List.replicate n m))
 | .bool b => some (.bools (List.replicate n b))
 | .string s => some (.strs (List.replicate n s))
 | .agg cs => match cs.toList with
   | [.int .i64 a, .int .i64 b] => some (.pairs (List.replicate n (a, b)))
   | [.int .i64 a, .int .i64 b, .int .i64 d] => some (.trips (List.replicate n (a, b, d)))
   | _ => none
 | _ => none
def ArrOk (c : Cont) (arr : Array Value) : Prop := ∀ i f x, i < c.len → c.cell i f = some x → arr[i * c.esz + f]? = some x
theorem contZero_ok {z : Value} {n : Nat} {c : Cont} (h : contZero z n = some c) :
 c.flat = true ∧ c.len = n ∧ z.cells.size = c.esz ∧ ∀ i f x, i < n → c.cell i f = some x → f < c.esz ∧ z.cells[f]? = some x := by
 cases z <;> simp only [contZero] at h <;> first | (cases h; done) | skip
 case int k m =>
  simp at h; subst h
  refine ⟨rfl, by simp [Cont.len], rfl, fun i f x hi hx => ?_⟩
  simp only [Cont.cell] at hx
  split at hx
  ·rename_i h0; subst h0; simp [hi] at hx; subst hx; simp [Cont.esz, Value.cells]
  ·cases hx
 case bool b =>
  simp at h; subst h
  refine ⟨rfl, by simp [Cont.len], rfl, fun i f x hi hx => ?_⟩
  simp only [Cont.cell] at hx
  split at hx
  ·rename_i h0; subst h0; simp [hi] at hx; subst hx; simp [Cont.esz, Value.cells]
  ·cases hx
 case string s =>
  simp at h; subst h
  refine ⟨rfl, by simp [Cont.len], rfl, fun i f x hi hx => ?_⟩
  simp only [Cont.cell] at hx
  split at hx
  ·rename_i h0; subst h0; simp [hi] at hx; subst hx; simp [Cont.esz, Value.cells]
  ·cases hx
 case agg cs =>
  split at h
  ·rename_i a b hc
   have hc' : cs = #[.int .i64 a, .int .i64 b] := by rw [← Array.toList_inj]; exact hc
   simp at h; subst h hc'
   refine ⟨rfl, by simp [Cont.len], rfl, fun i f x hi hx => ?_⟩
   simp only [Cont.cell] at hx
   split at hx
   ·rename_i h0; subst h0; simp [hi] at hx; subst hx; simp [Cont.esz, Value.cells]
   ·split at hx
    ·rename_i h0; subst h0; simp [hi] at hx; subst hx; simp [Cont.esz, Value.cells]
    ·cases hx
  ·rename_i a b d hc
   have hc' : cs = #[.int .i64 a, .int .i64 b, .int .i64 d] := by rw [← Array.toList_inj]; exact hc
   simp at h; subst h hc'
   refine ⟨rfl, by simp [Cont.len], rfl, fun i f x hi hx => ?_⟩
   simp only [Cont.cell] at hx
   split at hx
   ·rename_i h0; subst h0; simp [hi] at hx; subst hx; simp [Cont.esz, Value.cells]
   ·split at hx
    ·rename_i h0; subst h0; simp [hi] at hx; subst hx; simp [Cont.esz, Value.cells]
    ·split at hx
     ·rename_i h0; subst h0; simp [hi] at hx; subst hx; simp [Cont.esz, Value.cells]
     ·cases hx
  ·cases h
theorem esz_pos {c : Cont} (h : c.flat = true) : 0 < c.esz := by cases c <;> simp [Cont.flat] at h <;> simp [Cont.esz]
theorem madeArr_ok {z : Value} {n cap : Nat} {c : Cont} (h : contZero z n = some c) (hc : n ≤ cap) :
 ArrOk c ((Array.range (cap * c.esz)).map (z.cells[· % z.cells.size]!)) := by
 obtain ⟨hfl, hlen, hsz, hcell⟩ := contZero_ok h
 intro i f x hi hx
 obtain ⟨hf, hz⟩ := hcell i f x (by omega) hx
 have h1 : (i + 1) * c.esz ≤ cap * c.esz := Nat.mul_le_mul_right _ (by omega)
 rw [Nat.add_mul] at h1
 have hlt : i * c.esz + f < cap * c.esz := by omega
 have hmod : (i * c.esz + f) % c.esz = f := by rw [Nat.add_comm, Nat.add_mul_mod_self_right, Nat.mod_eq_of_lt hf]
 have hf' : f < z.cells.size := by omega
 simp only [Array.getElem?_map, hsz]
 rw [Array.getElem?_eq_getElem (by simpa using hlt)]
 simp only [Array.getElem_range, Option.map_some, hmod]
 rw [← hz, Array.getElem?_eq_getElem hf']
 congr 1
 exact getElem!_pos z.cells f hf'
def makeE (P : Program) (H : List AObj) (T : TypeId) (l c : AV) : Option (Prop × List AObj × AV) :=
 match P.underlying T, l, c with
 | some (.slice e), .v (.int _ a), .v (.int _ b) => match tzero P e, tby P e, tsz P e with
   | some z, some by_, some n => match contZero z a.toNat with
     | some d => if 0 < by_ ∧ n = d.esz then some (0 ≤ a ∧ a ≤ b ∧ b * by_ ≤ 281474976710656, H ++ [.row true d], .sl H.length) else none
     | none => none
   | _, _, _ => none
 | _, _, _ => none
theorem makeE_run (hH : HeapOk γ ρ H w) {T : TypeId} {l c y : AV} {q : Prop} {H' : List AObj} {ul uc : Value} (h : makeE P H T l c = some (q, H', y)) (hq : q) (hl : rel ρ l ul) (hc : rel ρ c uc) :
 ∃ v w' γ' p, (Instr.makeSlice T ul uc).run P w = .ok v w' ∧ HeapOk γ' (ρ ++ [p]) H' w' ∧ rel (ρ ++ [p]) y v ∧ Fr γ w γ' w' := by
 unfold makeE at h
 split at h
 ·rename_i e k a k' b hd
  obtain rfl := rel_v hl
  obtain rfl := rel_v hc
  split at h
  ·rename_i z by_ n hz hby hn
   cases hd0 : contZero z a.toNat with
   | none => rw [hd0] at h; cases h
   | some d =>
     rw [hd0] at h
     simp only at h
     split at h
     ·rename_i hcond
      obtain ⟨hby0, rfl⟩ := hcond
      simp only [Option.some.injEq, Prod.mk.injEq] at h
      obtain ⟨rfl, rfl, rfl⟩ := h
      obtain ⟨ha, hab, hfit⟩ := hq
      obtain ⟨hfl, hlen, hzs, _⟩ := contZero_ok hd0
      obtain ⟨i, hi, hib⟩ := run_tby hby
      have hb48 : b ≤ 281474976710656 := by
       have h1 : b * 1 ≤ b * (by_ : Int) := Int.mul_le_mul_of_nonneg_left (by omega) (by omega)
       omega
      have hwa : IntKind.i64.wrap a = a := wrap_i64 ⟨by omega, by omega⟩
      have hwb : IntKind.i64.wrap b = b := wrap_i64 ⟨by omega, by omega⟩
      have hcap : a.toNat ≤ b.toNat := by omega
      have harr := madeArr_ok hd0 hcap
      let arr := (Array.range (b.toNat * d.esz)).map (z.cells[· % z.cells.size]!)
      have hsize : arr.size = b.toNat * d.esz := by simp [arr]
      have hrow := hH.row d arr e b.toNat hfl (by omega) (by unfold maxLen; omega) (by omega) harr
      refine ⟨.slice (some ⟨w.heap.size, 0, none⟩) d.len b.toNat, w.alloc (.cells arr e), _, _, ?_, hrow, ?_, Fr.alloc _ _ _ _⟩
      ·have ht1 : ¬ (b < 0) := by omega
       have ht2 : ¬ (281474976710656 < (by_ : Int) * b) := by rw [Int.mul_comm]; omega
       have ht3 : ¬ (a < 0) := by omega
       have ht4 : ¬ (b < a) := by omega
       have hcells : (b.toNat * d.esz = 0 → (Array.range (b.toNat * d.esz)).map ((#[] : Array Value)[· % (#[] : Array Value).size]!) = arr) := by
        intro h0; simp [arr, h0]
       by_cases h0 : b.toNat * d.esz = 0
       ·have h0' := h0
        simp only [Nat.mul_eq_zero] at h0'
        have hp := esz_pos hfl
        have hb0 : b = 0 := by omega
        subst hb0
        simp [Instr.makeSlice, run_under hd, asInt, asIntOf, typeInfo, hi, hwa, hwb, hib, ht3, ht4, run_tsz hn, newRow, arr, hlen]
        rw [show Array.range 0 = (#[] : Array Nat) from rfl]
        simp
       ·have h1 : ¬ b.toNat = 0 := fun e => h0 (by rw [e]; simp)
        have h2 : ¬ d.esz = 0 := fun e => h0 (by rw [e]; simp)
        have h3 : ¬ b ≤ 0 := by omega
        simp [Instr.makeSlice, run_under hd, asInt, asIntOf, run_typeInfo w hi, hwa, hwb, hib, ht1, ht2, ht3, ht4, run_tsz hn, h1, h2, h3, run_tzero hz, newRow, arr, hlen]
        intro h4; exact absurd h4 h0
      ·exact ⟨by rw [← hH.len]; simp, rfl⟩
     ·cases h
  ·cases h
 ·cases h
def buildFold (c : Cont) : List (Nat × AV) → Option Cont
 | [] => some c
 | (i, x) :: r => match asCells x with
   | some l => match valsOf l with
     | some vs => if i < c.len ∧ vs.length = c.esz then (match c.sets i 0 vs with | some c' => buildFold c' r | none => none) else none
     | none => none
   | none => none
theorem fill_ok : ∀ {parts : List (Nat × AV)} {us : List (Nat × Value)} {c c' : Cont} {arr : Array Value}, buildFold c parts = some c' → c.flat = true → arr.size = c.len * c.esz → ArrOk c arr →
 us.length = parts.length → (∀ (j : Nat) (p : Nat × AV) (u : Nat × Value), parts[j]? = some p → us[j]? = some u → u.1 = p.1 ∧ rel ρ p.2 u.2) →
 ∃ arr', Instr.fill (fun i => some (i * c.esz, c.esz)) arr us = some arr' ∧ c'.flat = true ∧ c'.len = c.len ∧ c'.esz = c.esz ∧ arr'.size = c.len * c.esz ∧ ArrOk c' arr'
 | [], us, c, c', arr, h, hfl, hsz, ha, hl, _ => by
   have : us = [] := List.eq_nil_of_length_eq_zero hl
   subst this
   simp [buildFold] at h
   subst h
   exact ⟨arr, rfl, hfl, rfl, rfl, hsz, ha⟩
 | (i, x) :: r, us, c, c', arr, h, hfl, hsz, ha, hl, hrel => by
   match us, hl with
   | (i', u) :: us, hl =>
     have h0 := hrel 0 _ _ rfl rfl
     simp at h0
     obtain ⟨rfl, hu⟩ := h0
     simp only [buildFold] at h
     cases hc : asCells x with
     | none => rw [hc] at h; cases h
     | some l =>
       cases hv : valsOf l with
       | none => rw [hc] at h; simp only [hv] at h; cases h
       | some vs =>
         rw [hc] at h
         simp only [hv] at h
         split at h
         ·rename_i hcond
          cases hs : c.sets i' 0 vs with
          | none => rw [hs] at h; cases h
          | some c1 =>
            rw [hs] at h
            simp only at h
            obtain ⟨cs, hcs1, hcs2⟩ := asCells_ok hc hu
            obtain rfl := valsOf_ok hv hcs2
            have so := Cont.sets_ok hs hcond.1
            have hfit : i' * c.esz + c.esz ≤ c.len * c.esz := by
             have : (i' + 1) * c.esz ≤ c.len * c.esz := Nat.mul_le_mul_right _ (by omega)
             rw [Nat.add_mul] at this; omega
            obtain ⟨f1, f2⟩ := foldl_sets cs 0 (i' * c.esz) arr (by omega)
            let arr1 := (cs.zipIdx 0).foldl (fun cs (c_1, j) => cs.setIfInBounds (i' * c.esz + j) c_1) arr
            have ha1 : ArrOk c1 arr1 := by
             intro j g y hj hy
             rw [so.len] at hj
             rw [so.esz, f2]
             have hg : g < c.esz := by
              obtain ⟨row, hr1, hr2⟩ := Cont.cell_rows hy (by rw [so.len]; exact hj)
              rw [← so.esz, ← Cont.flat_row so.flat' row (List.mem_of_getElem? hr1)]
              exact (List.getElem?_eq_some_iff.1 hr2).1
             rcases so.cell j g y hj hy with ⟨rfl, h7, h8, h9⟩ | ⟨h7, h8⟩
             ·rw [if_pos ⟨by omega, by omega⟩, ← h9]; congr 1; omega
             ·rw [if_neg ?_]
              ·exact ha j g y hj h8
              ·intro hh
               have hji : j = i' := by
                rcases Nat.lt_trichotomy j i' with hlt | heq | hgt
                ·have : (j + 1) * c.esz ≤ i' * c.esz := Nat.mul_le_mul_right _ hlt
                 rw [Nat.add_mul] at this; omega
                ·exact heq
                ·have : (i' + 1) * c.esz ≤ j * c.esz := Nat.mul_le_mul_right _ hgt
                 rw [Nat.add_mul] at this; omega
               subst hji
               exact h7 ⟨rfl, by omega, by omega⟩
            obtain ⟨arr', g1, g2, g3, g4, g5, g6⟩ := fill_ok (arr := arr1) h so.flat' (by rw [so.len, so.esz]; show arr1.size = _; rw [f1]; exact hsz) ha1 (by simpa using hl)
             (fun j p u hp hu => hrel (j + 1) p u (by simpa using hp) (by simpa using hu))
            refine ⟨arr', ?_, g2, by rw [g3, so.len], by rw [g4, so.esz], by rw [g5, so.len, so.esz], g6⟩
            rw [so.esz] at g1
            rw [← g1]
            have hsz1 : u.cells.size = c.esz := by rw [hcs1]; simpa using hcond.2
            have hz : u.cells.zipIdx.foldl (fun cs (c_1, j) => cs.setIfInBounds (i' * c.esz + j) c_1) arr = arr1 := by
             rw [hcs1]; simp [arr1]
            simp only [Instr.fill, hsz1]
            rw [if_neg (by simp; omega), hz]
         ·cases h
def buildSliceE (P : Program) (H : List AObj) (T : TypeId) (len : Nat) (parts : List (Nat × AV)) : Option (List AObj × AV) :=
 match P.underlying T with
 | some (.slice e) => match tzero P e, tsz P e with
   | some z, some n => match contZero z len with
     | some d => if n = d.esz ∧ len * n ≤ 16777216 then (buildFold d parts).map fun c => (H ++ [.row true c], .sl H.length) else none
     | none => none
   | _, _ => none
 | _ => none
theorem buildSliceE_run (hH : HeapOk γ ρ H w) {T : TypeId} {len : Nat} {parts : List (Nat × AV)} {us : List (Nat × Value)} {y : AV} {H' : List AObj} (h : buildSliceE P H T len parts = some (H', y))
 (hl : us.length = parts.length) (hrel : ∀ (j : Nat) (p : Nat × AV) (u : Nat × Value), parts[j]? = some p → us[j]? = some u → u.1 = p.1 ∧ rel ρ p.2 u.2) :
 ∃ v w' γ' p, (Instr.buildSlice T len us.toArray).run P w = .ok v w' ∧ HeapOk γ' (ρ ++ [p]) H' w' ∧ rel (ρ ++ [p]) y v ∧ Fr γ w γ' w' := by
 unfold buildSliceE at h
 split at h
 ·rename_i e hd
  split at h
  ·rename_i z n hz hn
   cases hd0 : contZero z len with
   | none => rw [hd0] at h; cases h
   | some d =>
     rw [hd0] at h
     simp only at h
     split at h
     ·rename_i hcond
      obtain ⟨rfl, hfit⟩ := hcond
      obtain ⟨hfl, hlen, hzs, _⟩ := contZero_ok hd0
      cases hb : buildFold d parts with
      | none => rw [hb] at h; cases h
      | some c =>
        rw [hb] at h
        simp only [Option.map_some, Option.some.injEq, Prod.mk.injEq] at h
        obtain ⟨rfl, rfl⟩ := h
        have harr := madeArr_ok hd0 (Nat.le_refl len)
        obtain ⟨arr', g1, g2, g3, g4, g5, g6⟩ := fill_ok hb hfl (by simp [hlen]) harr hl hrel
        have hcl : c.len = len := by rw [g3, hlen]
        have hrow := hH.row c arr' e len g2 (by omega) (by unfold maxLen; have := esz_pos hfl; have : len * 1 ≤ len * d.esz := Nat.mul_le_mul_left _ this; omega) (by rw [g5, g4, hlen]; exact Nat.le_refl _) g6
        refine ⟨.slice (some ⟨w.heap.size, 0, none⟩) c.len len, w.alloc (.cells arr' e), _, _, ?_, hrow, ?_, Fr.alloc _ _ _ _⟩
        ·have hp := esz_pos hfl
         have h2 : ¬ 16777216 < len * d.esz := by omega
         by_cases h0 : len = 0
         ·subst h0
          have e1 : (Array.range (0 * d.esz)).map (fun x => (#[] : Array Value)[x % (#[] : Array Value).size]!) = (Array.range (0 * d.esz)).map (z.cells[· % z.cells.size]!) := by simp
          rw [← e1] at g1
          simp [Instr.buildSlice, run_under hd, run_tsz hn, newRow, hcl]
          simp at g1
          rw [g1]
          simp [newRow]
         ·have h1 : ¬ (len = 0 ∨ d.esz = 0) := by omega
          simp [Instr.buildSlice, run_under hd, run_tsz hn, newRow, hcl, h2, h1, run_tzero hz]
          rw [g1]
          simp [newRow]
          intro h4; exact absurd (Nat.mul_eq_zero.1 h4) h1
        ·exact ⟨by rw [← hH.len]; simp, rfl⟩
     ·cases h
  ·cases h
 ·cases h
def nestZero (P : Program) (e : TypeId) (n : Nat) : Option Cont :=
 match P.underlying e with
 | some (.slice e2) => match P.underlying e2 with
   | some (.int k) => some (.intss k (List.replicate n []))
   | some (.struct _) => if tsz P e2 = some 3 then some (.tripss (List.replicate n [])) else none
   | _ => none
 | _ => none
theorem nestZero_ok {e : TypeId} {n : Nat} {c : Cont} (h : nestZero P e n = some c) : c.esz = 1 ∧ c.len = n ∧ ∃ e2, c.rows = List.replicate n [CV.sl e2 []] := by
 unfold nestZero at h
 split at h
 ·split at h
  ·simp at h; subst h; exact ⟨rfl, by simp [Cont.len], 1, by simp [Cont.rows]⟩
  ·split at h
   ·simp at h; subst h; exact ⟨rfl, by simp [Cont.len], 3, by simp [Cont.rows]⟩
   ·cases h
  ·cases h
 ·cases h
theorem HeapOk.rowN (h : HeapOk γ ρ H w) (c : Cont) (arr : Array Value) (e : TypeId) (cap n e2 : Nat) (he : c.esz = 1) (hl : c.len = n) (hr : c.rows = List.replicate n [CV.sl e2 []]) (hcap : n ≤ cap) (hmax : cap ≤ maxLen) (hsz : cap ≤ arr.size)
 (hv : ∀ i, i < n → arr[i]? = some (.slice none 0 0)) :
 HeapOk (own1 γ w.heap.size H.length) (ρ ++ [.slice (some ⟨w.heap.size, 0, none⟩) c.len cap]) (H ++ [.row true c]) (w.alloc (.cells arr e)) := by
 refine h.alloc _ _ _ ⟨.slice (some ⟨w.heap.size, 0, none⟩) c.len cap, ?_, ?_⟩
 ·rw [← h.len]; simp
 ·rw [he, hr, hl]
  refine .row _ 1 _ w.heap.size 0 cap arr e (0, 0) n (fun _ _ => .slice none 0 0) (fun _ => (0, 0)) (by simp [own1]) (heap_alloc_new w _) (fun _ => rfl) (by simp) hcap hmax (by omega) ?_ ?_ ?_
  ·intro r hr'
   rw [List.eq_of_mem_replicate hr']; rfl
  ·intro i f hi hf
   simp only [List.length_replicate] at hi
   rw [show 0 + i * 1 + f = i from by omega]
   exact hv i hi
  ·intro i f row cv h1 h2
   have h3 : row = [CV.sl e2 []] := List.eq_of_mem_replicate (List.mem_of_getElem? h1)
   subst h3
   match f, h2 with
   | 0, h2 => simp at h2; subst h2; exact .nil _ _ _
   | f + 1, h2 => simp at h2
def makeNE (P : Program) (H : List AObj) (T : TypeId) (l c : AV) : Option (Prop × List AObj × AV) :=
 match P.underlying T, l, c with
 | some (.slice e), .v (.int _ a), .v (.int _ b) => match tzero P e, tby P e, nestZero P e a.toNat with
   | some (.slice none 0 0), some by_, some d => if 0 < by_ ∧ tsz P e = some 1 then some (0 ≤ a ∧ a ≤ b ∧ b * by_ ≤ 281474976710656, H ++ [.row true d], .sl H.length) else none
   | _, _, _ => none
 | _, _, _ => none
theorem makeNE_run (hH : HeapOk γ ρ H w) {T : TypeId} {l c y : AV} {q : Prop} {H' : List AObj} {ul uc : Value} (h : makeNE P H T l c = some (q, H', y)) (hq : q) (hl : rel ρ l ul) (hc : rel ρ c uc) :
 ∃ v w' γ' p, (Instr.makeSlice T ul uc).run P w = .ok v w' ∧ HeapOk γ' (ρ ++ [p]) H' w' ∧ rel (ρ ++ [p]) y v ∧ Fr γ w γ' w' := by
 unfold makeNE at h
 split at h
 ·rename_i e k a k' b hd
  obtain rfl := rel_v hl
  obtain rfl := rel_v hc
  split at h
  ·rename_i by_ d hz hby hd0
   split at h
   ·rename_i hcond
    obtain ⟨hby0, hn⟩ := hcond
    simp only [Option.some.injEq, Prod.mk.injEq] at h
    obtain ⟨rfl, rfl, rfl⟩ := h
    obtain ⟨ha, hab, hfit⟩ := hq
    obtain ⟨hesz, hlen, e2, hrows⟩ := nestZero_ok hd0
    obtain ⟨i, hi, hib⟩ := run_tby hby
    have hb48 : b ≤ 281474976710656 := by
     have h1 : b * 1 ≤ b * (by_ : Int) := Int.mul_le_mul_of_nonneg_left (by omega) (by omega)
     omega
    have hwa : IntKind.i64.wrap a = a := wrap_i64 ⟨by omega, by omega⟩
    have hwb : IntKind.i64.wrap b = b := wrap_i64 ⟨by omega, by omega⟩
    let z : Value := .slice none 0 0
    let arr := (Array.range (b.toNat * 1)).map (z.cells[· % z.cells.size]!)
    have hsize : arr.size = b.toNat := by simp [arr]
    have hv : ∀ i, i < a.toNat → arr[i]? = some (.slice none 0 0) := fun i hi => by
     simp only [arr, Array.getElem?_map]
     rw [Array.getElem?_eq_getElem (by simp; omega)]
     simp [z, Value.cells, Nat.mod_one]
    have hrow := hH.rowN d arr e b.toNat a.toNat e2 hesz hlen hrows (by omega) (by unfold maxLen; omega) (by omega) hv
    refine ⟨.slice (some ⟨w.heap.size, 0, none⟩) d.len b.toNat, w.alloc (.cells arr e), _, _, ?_, hrow, ?_, Fr.alloc _ _ _ _⟩
    ·have ht1 : ¬ (b < 0) := by omega
     have ht2 : ¬ (281474976710656 < (by_ : Int) * b) := by rw [Int.mul_comm]; omega
     have ht3 : ¬ (a < 0) := by omega
     have ht4 : ¬ (b < a) := by omega
     by_cases h0 : b.toNat = 0
     ·have hb0 : b = 0 := by omega
      subst hb0
      simp [Instr.makeSlice, run_under hd, asInt, asIntOf, typeInfo, hi, hwa, hwb, hib, ht3, ht4, run_tsz hn, newRow, arr, hlen]
      rw [show Array.range 0 = (#[] : Array Nat) from rfl]
      simp
     ·have h3 : ¬ b ≤ 0 := by omega
      simp [Instr.makeSlice, run_under hd, asInt, asIntOf, run_typeInfo w hi, hwa, hwb, hib, ht1, ht2, ht3, ht4, run_tsz hn, h0, h3, run_tzero hz, newRow, arr, hlen, z]
    ·exact ⟨by rw [← hH.len]; simp, rfl⟩
   ·cases h
  ·cases h
 ·cases h
theorem HeapOk.rowG (h : HeapOk γ ρ H w) (gs : List (Int × List (Int × Int × Int))) (hz : ∀ g ∈ gs, g = (0, [])) (arr : Array Value) (e : TypeId) (cap : Nat) (hcap : gs.length ≤ cap) (hmax : cap ≤ maxLen) (hsz : cap * 2 ≤ arr.size)
 (hv0 : ∀ i, i < gs.length → arr[i * 2]? = some (.int .i64 0)) (hv1 : ∀ i, i < gs.length → arr[i * 2 + 1]? = some (.slice none 0 0)) :
 HeapOk (own1 γ w.heap.size H.length) (ρ ++ [.slice (some ⟨w.heap.size, 0, none⟩) gs.length cap]) (H ++ [.row true (.graphs gs)]) (w.alloc (.cells arr e)) := by
 refine h.alloc _ _ _ ⟨.slice (some ⟨w.heap.size, 0, none⟩) gs.length cap, ?_, ?_⟩
 ·rw [← h.len]; simp
 ·have hrows : ∀ (i : Nat) (row : List CV), (Cont.graphs gs).rows[i]? = some row → i < gs.length ∧ row = [cI .i64 0, CV.sl 3 []] := fun i row h1 => by
   rw [Cont.rows, List.getElem?_map] at h1
   cases hg : gs[i]? with
   | none => rw [hg] at h1; cases h1
   | some g =>
     rw [hg] at h1
     simp only [Option.map_some, Option.some.injEq] at h1
     have := hz g (List.mem_of_getElem? hg)
     subst this
     exact ⟨(List.getElem?_eq_some_iff.1 hg).1, h1.symm⟩
  refine .row _ 2 _ w.heap.size 0 cap arr e (0, 0) gs.length (fun _ f => if f = 0 then .int .i64 0 else .slice none 0 0) (fun _ => (0, 0)) (by simp [own1]) (heap_alloc_new w _) (fun _ => rfl) (by simp [Cont.rows]) hcap hmax (by omega) ?_ ?_ ?_
  ·intro r hr'
   obtain ⟨i, hi⟩ := List.getElem?_of_mem hr'
   rw [(hrows i r hi).2]; rfl
  ·intro i f hi hf
   rw [Cont.len_rows] at hi
   have hi' : i < gs.length := hi
   have hf2 : f = 0 ∨ f = 1 := by omega
   rcases hf2 with rfl | rfl
   ·rw [show 0 + i * 2 + 0 = i * 2 from by omega]; exact hv0 i hi'
   ·rw [show 0 + i * 2 + 1 = i * 2 + 1 from by omega]; exact hv1 i hi'
  ·intro i f row cv h1 h2
   obtain ⟨hi, rfl⟩ := hrows i row h1
   match f, h2 with
   | 0, h2 => obtain rfl := Option.some.inj h2; exact .v _ _ rfl
   | 1, h2 => obtain rfl := Option.some.inj h2; exact .nil _ _ _
   | f + 2, h2 => simp at h2
def makeGE (P : Program) (H : List AObj) (T : TypeId) (l c : AV) : Option (Prop × List AObj × AV) :=
 match P.underlying T, l, c with
 | some (.slice e), .v (.int _ a), .v (.int _ b) => match tzero P e, tby P e with
   | some (.agg zs), some by_ => match zs.toList with
     | [.int .i64 0, .slice none 0 0] => if 0 < by_ ∧ tsz P e = some 2 then some (0 ≤ a ∧ a ≤ b ∧ b * by_ ≤ 281474976710656, H ++ [.row true (.graphs (List.replicate a.toNat (0, [])))], .sl H.length) else none
     | _ => none
   | _, _ => none
 | _, _, _ => none
theorem makeGE_run (hH : HeapOk γ ρ H w) {T : TypeId} {l c y : AV} {q : Prop} {H' : List AObj} {ul uc : Value} (h : makeGE P H T l c = some (q, H', y)) (hq : q) (hl : rel ρ l ul) (hc : rel ρ c uc) :
 ∃ v w' γ' p, (Instr.makeSlice T ul uc).run P w = .ok v w' ∧ HeapOk γ' (ρ ++ [p]) H' w' ∧ rel (ρ ++ [p]) y v ∧ Fr γ w γ' w' := by
 unfold makeGE at h
 split at h
 ·rename_i e k a k' b hd
  obtain rfl := rel_v hl
  obtain rfl := rel_v hc
  split at h
  ·rename_i zs by_ hz hby
   split at h
   rotate_left
   ·cases h
   rename_i hzs
   have hzs' : zs = #[.int .i64 0, .slice none 0 0] := by rw [← hzs]
   subst hzs'
   clear hzs
   split at h
   ·rename_i hcond
    obtain ⟨hby0, hn⟩ := hcond
    simp only [Option.some.injEq, Prod.mk.injEq] at h
    obtain ⟨rfl, rfl, rfl⟩ := h
    obtain ⟨ha, hab, hfit⟩ := hq
    obtain ⟨i, hi, hib⟩ := run_tby hby
    have hb48 : b ≤ 281474976710656 := by
     have h1 : b * 1 ≤ b * (by_ : Int) := Int.mul_le_mul_of_nonneg_left (by omega) (by omega)
     omega
    have hwa : IntKind.i64.wrap a = a := wrap_i64 ⟨by omega, by omega⟩
    have hwb : IntKind.i64.wrap b = b := wrap_i64 ⟨by omega, by omega⟩
    let z : Value := .agg #[.int .i64 0, .slice none 0 0]
    let arr := (Array.range (b.toNat * 2)).map (z.cells[· % z.cells.size]!)
    have hsize : arr.size = b.toNat * 2 := by simp [arr]
    have hget : ∀ k, k < b.toNat * 2 → arr[k]? = some (if k % 2 = 0 then .int .i64 0 else .slice none 0 0) := fun k hk => by
     simp only [arr, Array.getElem?_map]
     rw [Array.getElem?_eq_getElem (by simp; omega)]
     have h2 : k % 2 = 0 ∨ k % 2 = 1 := by omega
     rcases h2 with h2 | h2 <;> simp [z, Value.cells, h2]
    have hrow := hH.rowG (List.replicate a.toNat (0, [])) (fun g hg => List.eq_of_mem_replicate hg) arr e b.toNat (by simp; omega) (by unfold maxLen; omega) (by omega)
     (fun i hi => by simp only [List.length_replicate] at hi; rw [hget _ (by omega), if_pos (by omega)])
     (fun i hi => by simp only [List.length_replicate] at hi; rw [hget _ (by omega), if_neg (by omega)])
    rw [List.length_replicate] at hrow
    refine ⟨.slice (some ⟨w.heap.size, 0, none⟩) a.toNat b.toNat, w.alloc (.cells arr e), _, _, ?_, hrow, ?_, Fr.alloc _ _ _ _⟩
    ·have ht1 : ¬ (b < 0) := by omega
     have ht2 : ¬ (281474976710656 < (by_ : Int) * b) := by rw [Int.mul_comm]; omega
     have ht3 : ¬ (a < 0) := by omega
     have ht4 : ¬ (b < a) := by omega
     by_cases h0 : b.toNat = 0
     ·have hb0 : b = 0 := by omega
      subst hb0
      simp [Instr.makeSlice, run_under hd, asInt, asIntOf, typeInfo, hi, hwa, hwb, hib, ht3, ht4, run_tsz hn, newRow, arr]
      rw [show Array.range 0 = (#[] : Array Nat) from rfl]
      simp
     ·have h3 : ¬ b ≤ 0 := by omega
      simp [Instr.makeSlice, run_under hd, asInt, asIntOf, run_typeInfo w hi, hwa, hwb, hib, ht1, ht2, ht3, ht4, run_tsz hn, h0, h3, run_tzero hz, newRow, arr, z]
      intro h5; omega
    ·exact ⟨by rw [← hH.len]; simp, rfl⟩
   ·cases h
  ·cases h
 ·cases h
def makeXE (P : Program) (H : List AObj) (T : TypeId) (l c : AV) : Option (Prop × List AObj × AV) :=
 match makeNE P H T l c with
 | some r => some r
 | none => makeGE P H T l c
theorem makeXE_run (hH : HeapOk γ ρ H w) {T : TypeId} {l c y : AV} {q : Prop} {H' : List AObj} {ul uc : Value} (h : makeXE P H T l c = some (q, H', y)) (hq : q) (hl : rel ρ l ul) (hc : rel ρ c uc) :
 ∃ v w' γ' p, (Instr.makeSlice T ul uc).run P w = .ok v w' ∧ HeapOk γ' (ρ ++ [p]) H' w' ∧ rel (ρ ++ [p]) y v ∧ Fr γ w γ' w' := by
 unfold makeXE at h
 split at h
 ·rename_i r hr
  cases h
  exact makeNE_run hH hr hq hl hc
 ·exact makeGE_run hH h hq hl hc
def buildNE (P : Program) (H : List AObj) (T : TypeId) (len : Nat) (parts : List (Nat × AV)) : Option (List AObj × AV) :=
 match P.underlying T, parts with
 | some (.slice e), [(0, .sl p)] => match H[p]?, tzero P e, tsz P e, nestZero P e 1 with
   | some (.row true d), some (.slice none 0 0), some 1, some c => if len = 1 ∧ (c.setChild 0 0 d).isSome = true then some (H ++ [.tak true c 0 0 (some p)], .sl H.length) else none
   | _, _, _, _ => none
 | some (.slice e), [] => match tzero P e, tsz P e, nestZero P e 0 with
   | some (.slice none 0 0), some 1, some c => if len = 0 then some (H ++ [.row true c], .sl H.length) else none
   | _, _, _ => none
 | _, _ => none
theorem buildNE_run (hH : HeapOk γ ρ H w) {T : TypeId} {len : Nat} {parts : List (Nat × AV)} {us : List (Nat × Value)} {y : AV} {H' : List AObj} (h : buildNE P H T len parts = some (H', y))
 (hl : us.length = parts.length) (hrel : ∀ (j : Nat) (p : Nat × AV) (u : Nat × Value), parts[j]? = some p → us[j]? = some u → u.1 = p.1 ∧ rel ρ p.2 u.2) :
 ∃ v w' γ' p, (Instr.buildSlice T len us.toArray).run P w = .ok v w' ∧ HeapOk γ' (ρ ++ [p]) H' w' ∧ rel (ρ ++ [p]) y v ∧ Fr γ w γ' w' := by
 unfold buildNE at h
 split at h
 ·rename_i e p hd
  split at h
  ·rename_i d c hp hz hn hc
   split at h
   ·rename_i hcond
    obtain ⟨rfl, _⟩ := hcond
    simp only [Option.some.injEq, Prod.mk.injEq] at h
    obtain ⟨rfl, rfl⟩ := h
    obtain ⟨hesz, hlen, e2, hrows⟩ := nestZero_ok hc
    obtain ⟨⟨i, u⟩, rfl⟩ : ∃ x, us = [x] := List.length_eq_one_iff.1 hl
    obtain ⟨hi, hu⟩ := hrel 0 (0, .sl p) (i, u) rfl rfl
    simp only at hi hu
    subst hi
    have hone : u.oneCell' = true := hu.2
    have hpl : p < ρ.length := (List.getElem?_eq_some_iff.1 hu.1).1
    let arr : Array Value := #[u]
    have hrow : HeapOk (own1 γ w.heap.size H.length) (ρ ++ [.slice (some ⟨w.heap.size, 0, none⟩) c.len 1]) (H ++ [.tak true c 0 0 (some p)]) (w.alloc (.cells arr e)) := by
     refine hH.alloc _ _ _ ⟨w.heap.size, 0, 1, by rw [← hH.len]; simp, by omega, ?_, by simp [own1], fun q hq => ?_⟩
     ·have hh : c.holed 0 0 = [[.hole]] := by simp [Cont.holed, hrows]
      rw [hh, hesz, hlen]
      refine .row _ 1 _ w.heap.size 0 1 arr e (0, 0) 1 (fun _ _ => u) (fun _ => (0, 0)) (by simp [own1]) (heap_alloc_new w _) (fun _ => rfl) (by simp) (by omega) (by unfold maxLen; omega) (by simp [arr]) (by simp) ?_ ?_
      ·intro i f hi hf
       simp only [List.length_cons, List.length_nil] at hi
       rw [show 0 + i * 1 + f = 0 from by omega]; rfl
      ·intro i f row cv h1 h2
       match i, h1 with
       | 0, h1 =>
         simp at h1; subst h1
         match f, h2 with
         | 0, h2 => simp at h2; subst h2; exact .hole _ _ hone
         | f + 1, h2 => simp at h2
       | i + 1, h1 => simp at h1
     ·cases hq
      refine ⟨u, by rw [List.getElem?_append_left hpl]; exact hu.1, hone, ?_⟩
      have h8 : (w.alloc (.cells arr e)).heap[w.heap.size]? = some (.cells arr e (0, 0)) := heap_alloc_new w _
      simp only [World.cell?]
      rw [h8]
      simp [arr]
    refine ⟨.slice (some ⟨w.heap.size, 0, none⟩) c.len 1, w.alloc (.cells arr e), _, _, ?_, hrow, ⟨by rw [← hH.len]; simp, rfl⟩, Fr.alloc _ _ _ _⟩
    have hcs : u.cells = #[u] := by cases u <;> first | rfl | (simp [Value.oneCell'] at hone)
    have hset : ∀ a : Array Value, a.size = 1 → a.setIfInBounds 0 u = #[u] := fun a ha => Array.ext (by simp [ha]) fun i h1 h2 => by
     simp at h2
     subst h2
     simp
    simp [Instr.buildSlice, run_under hd, run_tsz hn, newRow, hlen, run_tzero hz, Instr.fill, arr, hcs]
    rw [hset _ (by simp)]
   ·cases h
  ·cases h
 ·rename_i e hd
  split at h
  ·rename_i c hz hn hc
   split at h
   ·rename_i hlen0
    subst hlen0
    simp only [Option.some.injEq, Prod.mk.injEq] at h
    obtain ⟨rfl, rfl⟩ := h
    obtain ⟨hesz, hlen, e2, hrows⟩ := nestZero_ok hc
    have hus : us = [] := List.eq_nil_of_length_eq_zero hl
    subst hus
    have hg : HeapOk γ ρ H (w.alloc (.cells #[] e)) := hH.grow (fun b hb => heap_alloc_old w _ hb) (by simp)
    refine ⟨.slice (some ⟨w.heap.size, 0, none⟩) 0 0, w.alloc (.cells #[] e), γ, _, ?_, hg.nilrow c (by simpa using hrows) (some ⟨w.heap.size, 0, none⟩), ⟨by rw [← hH.len]; simp, rfl⟩, ⟨rfl, rfl, rfl, by simp, fun b hb hgb => ⟨heap_alloc_old w _ hb, hgb⟩, Nat.le_refl _⟩⟩
    simp [Instr.buildSlice, run_under hd, run_tsz hn, newRow, run_tzero hz, Instr.fill]
    congr 1
    congr 1
    exact Array.ext (by simp) (fun i h1 h2 => by simp at h2)
   ·cases h
  ·cases h
 ·cases h
def buildGE (P : Program) (H : List AObj) (T : TypeId) (len : Nat) (parts : List (Nat × AV)) : Option (List AObj × AV) :=
 match P.underlying T, parts with
 | some (.slice e), [(0, .agg [.v (.int .i64 n), .sl p])] => match H[p]?, tzero P e, tsz P e with
   | some (.row true (.trips _)), some (.agg zs), some 2 => match zs.toList with
     | [.int .i64 0, .slice none 0 0] => if len = 1 then some (H ++ [.tak true (.graphs [(n, [])]) 0 1 (some p)], .sl H.length) else none
     | _ => none
   | _, _, _ => none
 | some (.slice e), [] => match tzero P e, tsz P e with
   | some (.agg zs), some 2 => match zs.toList with
     | [.int .i64 0, .slice none 0 0] => if len = 0 then some (H ++ [.row true (.graphs [])], .sl H.length) else none
     | _ => none
   | _, _ => none
 | _, _ => none
theorem buildGE_run (hH : HeapOk γ ρ H w) {T : TypeId} {len : Nat} {parts : List (Nat × AV)} {us : List (Nat × Value)} {y : AV} {H' : List AObj} (h : buildGE P H T len parts = some (H', y))
 (hl : us.length = parts.length) (hrel : ∀ (j : Nat) (p : Nat × AV) (u : Nat × Value), parts[j]? = some p → us[j]? = some u → u.1 = p.1 ∧ rel ρ p.2 u.2) :
 ∃ v w' γ' p, (Instr.buildSlice T len us.toArray).run P w = .ok v w' ∧ HeapOk γ' (ρ ++ [p]) H' w' ∧ rel (ρ ++ [p]) y v ∧ Fr γ w γ' w' := by
 unfold buildGE at h
 split at h
 ·rename_i e n p hd
  split at h
  ·rename_i ys zs hp hz hn
   split at h
   rotate_left
   ·cases h
   rename_i hzs
   have hzs' : zs = #[.int .i64 0, .slice none 0 0] := by rw [← hzs]
   subst hzs'
   clear hzs
   split at h
   ·rename_i hlen1
    subst hlen1
    simp only [Option.some.injEq, Prod.mk.injEq] at h
    obtain ⟨rfl, rfl⟩ := h
    obtain ⟨⟨i, u⟩, rfl⟩ : ∃ x, us = [x] := List.length_eq_one_iff.1 hl
    obtain ⟨hi, hu⟩ := hrel 0 (0, .agg [.v (.int .i64 n), .sl p]) (i, u) rfl rfl
    simp only at hi hu
    subst hi
    obtain ⟨cs, rfl, hcl, hcs⟩ := hu
    match cs, hcl, hcs with
    | [x0, x1], _, hcs =>
    have k0 : rel1 ρ (.v (.int .i64 n)) x0 := hcs 0 _ _ rfl rfl
    have k1 : rel1 ρ (.sl p) x1 := hcs 1 _ _ rfl rfl
    obtain ⟨rfl, -⟩ := k0
    have hone : x1.oneCell' = true := k1.2
    have hpl : p < ρ.length := (List.getElem?_eq_some_iff.1 k1.1).1
    let arr : Array Value := #[.int .i64 n, x1]
    have hrow : HeapOk (own1 γ w.heap.size H.length) (ρ ++ [.slice (some ⟨w.heap.size, 0, none⟩) 1 1]) (H ++ [.tak true (.graphs [(n, [])]) 0 1 (some p)]) (w.alloc (.cells arr e)) := by
     refine hH.alloc _ _ _ ⟨w.heap.size, 0, 1, by rw [← hH.len]; simp [Cont.len], by simp [Cont.len], ?_, by simp [own1], fun q hq => ?_⟩
     ·have hh : (Cont.graphs [(n, [])]).holed 0 1 = [[cI .i64 n, .hole]] := by simp [Cont.holed, Cont.rows]
      rw [hh]
      refine .row _ 2 _ w.heap.size 0 1 arr e (0, 0) 1 (fun _ f => if f = 0 then .int .i64 n else x1) (fun _ => (0, 0)) (by simp [own1]) (heap_alloc_new w _) (fun _ => rfl) (by simp) (by omega) (by unfold maxLen; omega) (by simp [arr]) (by simp) ?_ ?_
      ·intro i f hi hf
       simp only [List.length_cons, List.length_nil] at hi
       have hf2 : f = 0 ∨ f = 1 := by omega
       have hi0 : i = 0 := by omega
       subst hi0
       rcases hf2 with rfl | rfl <;> rfl
      ·intro i f row cv h1 h2
       match i, h1 with
       | 0, h1 =>
         simp at h1; subst h1
         match f, h2 with
         | 0, h2 => obtain rfl := Option.some.inj h2; exact .v _ _ rfl
         | 1, h2 => obtain rfl := Option.some.inj h2; exact .hole _ _ hone
         | f + 2, h2 => simp at h2
       | i + 1, h1 => simp at h1
     ·cases hq
      refine ⟨x1, by rw [List.getElem?_append_left hpl]; exact k1.1, hone, ?_⟩
      have h8 : (w.alloc (.cells arr e)).heap[w.heap.size]? = some (.cells arr e (0, 0)) := heap_alloc_new w _
      simp only [World.cell?]
      rw [h8]
      simp [arr, Cont.esz]
    refine ⟨.slice (some ⟨w.heap.size, 0, none⟩) 1 1, w.alloc (.cells arr e), _, _, ?_, hrow, ⟨by rw [← hH.len]; simp, rfl⟩, Fr.alloc _ _ _ _⟩
    have hset : ∀ a : Array Value, a.size = 2 → (a.setIfInBounds 0 (.int .i64 n)).setIfInBounds 1 x1 = #[.int .i64 n, x1] := fun a ha => Array.ext (by simp [ha]) fun i h1 h2 => by
     have h3 : i = 0 ∨ i = 1 := by simp at h2; omega
     rcases h3 with rfl | rfl
     ·rw [Array.getElem_setIfInBounds_ne (by simp; omega) (by omega)]; simp
     ·simp
    simp [Instr.buildSlice, run_under hd, run_tsz hn, newRow, run_tzero hz, Instr.fill, arr, Value.cells]
    rw [hset _ (by simp)]
   ·cases h
  ·cases h
 ·rename_i e hd
  split at h
  ·rename_i zs hz hn
   split at h
   rotate_left
   ·cases h
   split at h
   ·rename_i hlen0
    subst hlen0
    simp only [Option.some.injEq, Prod.mk.injEq] at h
    obtain ⟨rfl, rfl⟩ := h
    have hus : us = [] := List.eq_nil_of_length_eq_zero hl
    subst hus
    have hg : HeapOk γ ρ H (w.alloc (.cells #[] e)) := hH.grow (fun b hb => heap_alloc_old w _ hb) (by simp)
    refine ⟨.slice (some ⟨w.heap.size, 0, none⟩) 0 0, w.alloc (.cells #[] e), γ, _, ?_, hg.nilrow (.graphs []) rfl (some ⟨w.heap.size, 0, none⟩), ⟨by rw [← hH.len]; simp, rfl⟩, Fr.trans (Fr.refl γ w) ⟨rfl, rfl, rfl, by simp, fun b hb hg' => ⟨heap_alloc_old w _ hb, hg'⟩, Nat.le_refl _⟩⟩
    simp [Instr.buildSlice, run_under hd, run_tsz hn, newRow, run_tzero hz, Instr.fill]
    congr 1
    congr 1
    exact Array.ext (by simp) (fun i h1 h2 => by simp at h2)
   ·cases h
  ·cases h
 ·cases h
def buildME (P : Program) (H : List AObj) (T : TypeId) (len : Nat) (parts : List (Nat × AV)) : Option (List AObj × AV) :=
 match P.underlying T, parts with
 | some (.slice e), [(0, .agg [.v (.int .i64 n), .sl p])] => match H[p]?, tzero P e, tsz P e with
   | some (.row false (.trips xs)), some (.agg zs), some 2 => match zs.toList with
     | [.int .i64 0, .slice none 0 0] => if len = 1 then some (H ++ [.mix [(n, xs)]], .sl H.length) else none
     | _ => none
   | _, _, _ => none
 | some (.slice e), [(0, .agg [.v (.int .i64 n), .v (.slice none 0 0)])] => match tzero P e, tsz P e with
   | some (.agg zs), some 2 => match zs.toList with
     | [.int .i64 0, .slice none 0 0] => if len = 1 then some (H ++ [.row true (.gen 2 [[.v (.int .i64 n), .v (.slice none 0 0)]])], .sl H.length) else none
     | _ => none
   | _, _ => none
 | _, _ => none
theorem buildME_run (hH : HeapOk γ ρ H w) {T : TypeId} {len : Nat} {parts : List (Nat × AV)} {us : List (Nat × Value)} {y : AV} {H' : List AObj} (h : buildME P H T len parts = some (H', y))
 (hl : us.length = parts.length) (hrel : ∀ (j : Nat) (p : Nat × AV) (u : Nat × Value), parts[j]? = some p → us[j]? = some u → u.1 = p.1 ∧ rel ρ p.2 u.2) :
 ∃ v w' γ' p, (Instr.buildSlice T len us.toArray).run P w = .ok v w' ∧ HeapOk γ' (ρ ++ [p]) H' w' ∧ rel (ρ ++ [p]) y v ∧ Fr γ w γ' w' := by
 have hset : ∀ (n : Int) (x1 : Value) (a : Array Value), a.size = 2 → (a.setIfInBounds 0 (.int .i64 n)).setIfInBounds 1 x1 = #[.int .i64 n, x1] := fun n x1 a ha => Array.ext (by simp [ha]) fun i h1 h2 => by
  have h3 : i = 0 ∨ i = 1 := by simp at h2; omega
  rcases h3 with rfl | rfl
  ·rw [Array.getElem_setIfInBounds_ne (by simp; omega) (by omega)]; simp
  ·simp
 have outer : ∀ (S : Nat → Prop) (e : TypeId) (n : Int) (x1 : Value) (cv : CV), S w.heap.size → CRep true (w.alloc (.cells #[.int .i64 n, x1] e)) (fun _ => False) cv x1 → CRep true (w.alloc (.cells #[.int .i64 n, x1] e)) S (.sl 2 [[cI .i64 n, cv]]) (.slice (some ⟨w.heap.size, 0, none⟩) 1 1) := by
  intro S e n x1 cv hS hcv
  refine .row _ 2 _ w.heap.size 0 1 #[.int .i64 n, x1] e (0, 0) 1 (fun _ f => if f = 0 then .int .i64 n else x1) (fun _ => (0, 0)) hS (heap_alloc_new w _) (fun _ => rfl) (by simp) (by omega) (by unfold maxLen; omega) (by simp) (by simp) ?_ ?_
  ·intro i f hi hf
   simp only [List.length_cons, List.length_nil] at hi
   have hf2 : f = 0 ∨ f = 1 := by omega
   have hi0 : i = 0 := by omega
   subst hi0
   rcases hf2 with rfl | rfl <;> rfl
  ·intro i f row c h1 h2
   match i, h1 with
   | 0, h1 =>
     simp at h1; subst h1
     match f, h2 with
     | 0, h2 => obtain rfl := Option.some.inj h2; exact .v _ _ rfl
     | 1, h2 => obtain rfl := Option.some.inj h2; exact hcv.mono fun b hb => hb.elim
     | f + 2, h2 => simp at h2
   | i + 1, h1 => simp at h1
 unfold buildME at h
 split at h
 ·rename_i e n p hd
  split at h
  ·rename_i xs zs hp hz hn
   split at h
   rotate_left
   ·cases h
   rename_i hzs
   have hzs' : zs = #[.int .i64 0, .slice none 0 0] := by rw [← hzs]
   subst hzs'
   clear hzs
   split at h
   ·rename_i hlen1
    subst hlen1
    simp only [Option.some.injEq, Prod.mk.injEq] at h
    obtain ⟨rfl, rfl⟩ := h
    obtain ⟨⟨i, u⟩, rfl⟩ : ∃ x, us = [x] := List.length_eq_one_iff.1 hl
    obtain ⟨hi, hu⟩ := hrel 0 (0, .agg [.v (.int .i64 n), .sl p]) (i, u) rfl rfl
    simp only at hi hu
    subst hi
    obtain ⟨cs, rfl, hcl, hcs⟩ := hu
    match cs, hcl, hcs with
    | [x0, x1], _, hcs =>
    have k0 : rel1 ρ (.v (.int .i64 n)) x0 := hcs 0 _ _ rfl rfl
    have k1 : rel1 ρ (.sl p) x1 := hcs 1 _ _ rfl rfl
    obtain ⟨rfl, -⟩ := k0
    have hone : x1.oneCell' = true := k1.2
    obtain ⟨ux, hx1, hx2⟩ := hH.obj _ _ hp
    have hux : ux = x1 := by rw [k1.1] at hx1; exact (Option.some.inj hx1).symm
    subst hux
    have hrow : HeapOk (own1 γ w.heap.size H.length) (ρ ++ [.slice (some ⟨w.heap.size, 0, none⟩) 1 1]) (H ++ [.mix [(n, xs)]]) (w.alloc (.cells #[.int .i64 n, ux] e)) := by
     refine hH.alloc _ _ _ ⟨.slice (some ⟨w.heap.size, 0, none⟩) 1 1, by rw [← hH.len]; simp, outer _ e n ux .hole (by simp [own1]) (.hole _ _ hone), fun b ofs n1 cap hu i g hg => ?_⟩
     simp at hu
     obtain ⟨⟨rfl, rfl⟩, rfl, rfl⟩ := hu
     match i, hg with
     | 0, hg =>
       obtain rfl := Option.some.inj hg
       have h8 : (w.alloc (.cells #[.int .i64 n, ux] e)).heap[w.heap.size]? = some (.cells #[.int .i64 n, ux] e (0, 0)) := heap_alloc_new w _
       refine ⟨ux, by simp only [World.cell?]; rw [h8]; simp, ?_⟩
       have hc := hx2
       simp only [Bool.false_eq_true, ↓reduceIte] at hc
       exact hc.stay fun b hb hlt => ⟨heap_alloc_old w _ hlt, by simp only [own1]; rw [if_neg (by omega)]; exact hb⟩
     | i + 1, hg => simp at hg
    refine ⟨.slice (some ⟨w.heap.size, 0, none⟩) 1 1, w.alloc (.cells #[.int .i64 n, ux] e), _, _, ?_, hrow, ⟨by rw [← hH.len]; simp, rfl⟩, Fr.alloc _ _ _ _⟩
    simp [Instr.buildSlice, run_under hd, run_tsz hn, newRow, run_tzero hz, Instr.fill, Value.cells]
    rw [hset _ _ _ (by simp)]
   ·cases h
  ·cases h
 ·rename_i e n hd
  split at h
  ·rename_i zs hz hn
   split at h
   rotate_left
   ·cases h
   rename_i hzs
   have hzs' : zs = #[.int .i64 0, .slice none 0 0] := by rw [← hzs]
   subst hzs'
   clear hzs
   split at h
   ·rename_i hlen1
    subst hlen1
    simp only [Option.some.injEq, Prod.mk.injEq] at h
    obtain ⟨rfl, rfl⟩ := h
    obtain ⟨⟨i, u⟩, rfl⟩ : ∃ x, us = [x] := List.length_eq_one_iff.1 hl
    obtain ⟨hi, hu⟩ := hrel 0 (0, .agg [.v (.int .i64 n), .v (.slice none 0 0)]) (i, u) rfl rfl
    simp only at hi hu
    subst hi
    obtain ⟨cs, rfl, hcl, hcs⟩ := hu
    match cs, hcl, hcs with
    | [x0, x1], _, hcs =>
    have k0 : rel1 ρ (.v (.int .i64 n)) x0 := hcs 0 _ _ rfl rfl
    have k1 : rel1 ρ (.v (.slice none 0 0)) x1 := hcs 1 _ _ rfl rfl
    obtain ⟨rfl, -⟩ := k0
    obtain ⟨rfl, hone⟩ := k1
    have hrow : HeapOk (own1 γ w.heap.size H.length) (ρ ++ [.slice (some ⟨w.heap.size, 0, none⟩) 1 1]) (H ++ [.row true (.gen 2 [[.v (.int .i64 n), .v (.slice none 0 0)]])]) (w.alloc (.cells #[.int .i64 n, .slice none 0 0] e)) := by
     refine hH.alloc _ _ _ ⟨_, by rw [← hH.len]; simp; rfl, ?_⟩
     exact outer _ e n (.slice none 0 0) (.v (.slice none 0 0)) (by simp [own1]) (.v _ _ hone)
    refine ⟨.slice (some ⟨w.heap.size, 0, none⟩) 1 1, w.alloc (.cells #[.int .i64 n, .slice none 0 0] e), _, _, ?_, hrow, ⟨by rw [← hH.len]; simp, rfl⟩, Fr.alloc _ _ _ _⟩
    simp [Instr.buildSlice, run_under hd, run_tsz hn, newRow, run_tzero hz, Instr.fill, Value.cells]
    rw [hset _ _ _ (by simp)]
   ·cases h
  ·cases h
 ·cases h
def buildRE (P : Program) (H : List AObj) (T : TypeId) (len : Nat) (parts : List (Nat × AV)) : Option (List AObj × AV) :=
 match P.underlying T, parts with
 | some (.slice e), [(0, .sl p), (1, .sl q)] => match H[p]?, H[q]?, tzero P e, tsz P e with
   | some (.row false (.ints .i64 xs)), some (.row false (.ints .i64 ys)), some (.slice none 0 0), some 1 => if len = 2 then some (H ++ [.row false (.intss .i64 [xs, ys])], .sl H.length) else none
   | _, _, _, _ => none
 | _, _ => none
theorem buildRE_run (hH : HeapOk γ ρ H w) {T : TypeId} {len : Nat} {parts : List (Nat × AV)} {us : List (Nat × Value)} {y : AV} {H' : List AObj} (h : buildRE P H T len parts = some (H', y))
 (hl : us.length = parts.length) (hrel : ∀ (j : Nat) (p : Nat × AV) (u : Nat × Value), parts[j]? = some p → us[j]? = some u → u.1 = p.1 ∧ rel ρ p.2 u.2) :
 ∃ v w' γ' p, (Instr.buildSlice T len us.toArray).run P w = .ok v w' ∧ HeapOk γ' (ρ ++ [p]) H' w' ∧ rel (ρ ++ [p]) y v ∧ Fr γ w γ' w' := by
 unfold buildRE at h
 split at h
 ·rename_i e p q hd
  split at h
  ·rename_i xs ys hp hq hz hn
   split at h
   ·rename_i hlen
    subst hlen
    simp only [Option.some.injEq, Prod.mk.injEq] at h
    obtain ⟨rfl, rfl⟩ := h
    obtain ⟨⟨i, u⟩, ⟨i', u'⟩, rfl⟩ : ∃ x x', us = [x, x'] := by
     match us, hl with
     | [a, b], _ => exact ⟨a, b, rfl⟩
    obtain ⟨hi, hu⟩ := hrel 0 (0, .sl p) (i, u) rfl rfl
    obtain ⟨hi', hu'⟩ := hrel 1 (1, .sl q) (i', u') rfl rfl
    simp only at hi hu hi' hu'
    subst hi hi'
    have hone : u.oneCell' = true := hu.2
    have hone' : u'.oneCell' = true := hu'.2
    let arr : Array Value := #[u, u']
    have hnew : ∀ b o, w.heap.size ≤ b → γ b ≠ some o := fun b o hb hg => by have := (hH.lab b o hg).2; omega
    have hold : ∀ b, b < w.heap.size → (w.alloc (.cells arr e)).heap[b]? = w.heap[b]? := fun b hb => heap_alloc_old w _ hb
    have kid : ∀ {o : Nat} {x : List Int} {v : Value}, H[o]? = some (.row false (.ints .i64 x)) → ρ[o]? = some v → CRep false (w.alloc (.cells arr e)) (fun b => γ b = none) (.sl 1 (x.map fun n => [cI .i64 n])) v := fun {o x v} ho hv => by
     obtain ⟨v', g1, g2⟩ := hH.obj o _ ho
     rw [hv] at g1; cases g1
     exact g2.stay fun b hb hlt => ⟨hold b hlt, by simpa using hb⟩
    have hrow : HeapOk γ (ρ ++ [.slice (some ⟨w.heap.size, 0, none⟩) 2 2]) (H ++ [.row false (.intss .i64 [xs, ys])]) (w.alloc (.cells arr e)) := by
     refine hH.push _ _ (fun b hb => ⟨hold b hb, rfl⟩) (by simp) (fun b o hb hg => absurd hg (hnew b o hb)) ⟨.slice (some ⟨w.heap.size, 0, none⟩) 2 2, by rw [← hH.len]; simp, ?_⟩
     refine .row _ 1 _ w.heap.size 0 2 arr e (0, 0) 2 (fun i _ => if i = 0 then u else u') (fun _ => (0, 0)) ?_ (heap_alloc_new w _) (fun _ => rfl) rfl (Nat.le_refl _) (by unfold maxLen; omega) (by simp [arr]) (by simp [Cont.rows]) ?_ ?_
     ·simp only [Bool.false_eq_true, if_false]
      cases hx : γ w.heap.size with
      | none => rfl
      | some o => exact absurd hx (hnew _ o (Nat.le_refl _))
     ·intro i f hi hf
      simp only [Cont.rows, List.map_cons, List.map_nil, List.length_cons, List.length_nil] at hi
      match i, hi with
      | 0, _ => rw [show 0 + 0 * 1 + f = 0 from by omega]; rfl
      | 1, _ => rw [show 0 + 1 * 1 + f = 1 from by omega]; rfl
     ·intro i f row cv h1 h2
      match i, h1 with
      | 0, h1 =>
        simp [Cont.rows] at h1; subst h1
        match f, h2 with
        | 0, h2 => simp at h2; subst h2; exact (kid hp hu.1).mono fun b hb => ⟨by simpa using hb, fun h => by cases h⟩
        | f + 1, h2 => simp at h2
      | 1, h1 =>
        simp [Cont.rows] at h1; subst h1
        match f, h2 with
        | 0, h2 => simp at h2; subst h2; exact (kid hq hu'.1).mono fun b hb => ⟨by simpa using hb, fun h => by cases h⟩
        | f + 1, h2 => simp at h2
      | i + 2, h1 => simp [Cont.rows] at h1
    refine ⟨.slice (some ⟨w.heap.size, 0, none⟩) 2 2, w.alloc (.cells arr e), γ, _, ?_, hrow, ⟨by rw [← hH.len]; simp, rfl⟩, ⟨rfl, rfl, rfl, by simp, fun b hb hg => ⟨hold b hb, hg⟩, Nat.le_refl _⟩⟩
    have hcs : u.cells = #[u] := by cases u <;> first | rfl | (simp [Value.oneCell'] at hone)
    have hcs' : u'.cells = #[u'] := by cases u' <;> first | rfl | (simp [Value.oneCell'] at hone')
    simp [Instr.buildSlice, run_under hd, run_tsz hn, newRow, run_tzero hz, Instr.fill, arr, hcs, hcs']
    congr 1
    congr 1
    apply Array.ext
    ·simp
    ·intro k h1 h2
     simp at h2
     match k, h2 with
     | 0, _ => simp
     | 1, _ => simp
   ·cases h
  ·cases h
 ·cases h
def buildXE (P : Program) (H : List AObj) (T : TypeId) (len : Nat) (parts : List (Nat × AV)) : Option (List AObj × AV) :=
 match buildNE P H T len parts with
 | some r => some r
 | none => match buildGE P H T len parts with
   | some r => some r
   | none => match buildME P H T len parts with
     | some r => some r
     | none => buildRE P H T len parts
theorem buildXE_run (hH : HeapOk γ ρ H w) {T : TypeId} {len : Nat} {parts : List (Nat × AV)} {us : List (Nat × Value)} {y : AV} {H' : List AObj} (h : buildXE P H T len parts = some (H', y))
 (hl : us.length = parts.length) (hrel : ∀ (j : Nat) (p : Nat × AV) (u : Nat × Value), parts[j]? = some p → us[j]? = some u → u.1 = p.1 ∧ rel ρ p.2 u.2) :
 ∃ v w' γ' p, (Instr.buildSlice T len us.toArray).run P w = .ok v w' ∧ HeapOk γ' (ρ ++ [p]) H' w' ∧ rel (ρ ++ [p]) y v ∧ Fr γ w γ' w' := by
 unfold buildXE at h
 split at h
 ·rename_i r hr
  cases h
  exact buildNE_run hH hr hl hrel
 ·split at h
  ·rename_i r hr
   cases h
   exact buildGE_run hH hr hl hrel
  ·split at h
   ·rename_i r hr
    cases h
    exact buildME_run hH hr hl hrel
   ·exact buildRE_run hH h hl hrel
end Go.Av

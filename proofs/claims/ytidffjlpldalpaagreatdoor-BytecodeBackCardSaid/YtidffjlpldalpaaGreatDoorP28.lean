/- Texts of programs: what is written is read, and what is read was so written. The program's read: what is plain. -/
import Derived.Test.YtidffjlpldalpaaGreatDoorP26
import Derived.Test.YtidffjlpldalpaaGreatDoorP22
import Derived.Test.YtidffjlpldalpaaGreatDoorP27
set_option linter.unusedVariables false
set_option linter.unusedSimpArgs false
namespace Go.Proofs.YtidffjlpldalpaaGreatDoor
open Go Go.RowKit

def funT (f : FunS) : List (List UInt8) := lineT wFun [f.c, f.l, f.d] :: f.code.map insT
def bodyT (ts : List ByteArray) (fs : List FunS) : List (List UInt8) := ts.map strT ++ fs.flatMap funT
def linesT (p : ProgS) : List (List UInt8) := lineT wMain [p.main] :: bodyT p.texts p.funs
def textS (p : ProgS) : List UInt8 := (linesT p).flatMap fun x => x ++ [10]
structure InsOk (i : Ins) : Prop where
  lo : 1 ≤ i.op
  hi : i.op ≤ 16
  a : Num52 i.a
  b : Num52 i.b
  tight : tightI i
structure TextsOk (p : ProgS) : Prop where
  main : Num52 p.main
  texts : ∀ s ∈ p.texts, s.size ≤ 16384 ∧ s.data.toList.all visB = true
  heads : ∀ f ∈ p.funs, Num52 f.c ∧ Num52 f.l ∧ Num52 f.d
  codes : ∀ f ∈ p.funs, ∀ i ∈ f.code, InsOk i
theorem join_nl : ∀ (ps : List (List UInt8)) (w : List UInt8), (w ++ ps.flatMap fun x => 10 :: x) ++ [10] = (w :: ps).flatMap fun x => x ++ [10]
  | [], w => by simp
  | p :: ps, w => by
    have := join_nl ps p
    rw [List.flatMap_cons, List.flatMap_cons, ← this]
    simp
theorem drop_nl (ps : List (List UInt8)) (w : List UInt8) : ((w :: ps).flatMap fun x => x ++ [10]).dropLast = w ++ ps.flatMap fun x => 10 :: x := by
  rw [← join_nl, List.dropLast_concat]
theorem last_nl (ps : List (List UInt8)) (w : List UInt8) : ((w :: ps).flatMap fun x => x ++ [10]).getLast? = some 10 := by
  rw [← join_nl, List.getLast?_concat]
theorem fold_texts (m : Int) (rest : List (List UInt8)) : ∀ (ts ts0 : List ByteArray), (∀ s ∈ ts, s.size ≤ 16384 ∧ s.data.toList.all visB = true) → foldT false ⟨[], ts0, m⟩ (ts.map strT ++ rest) = foldT false ⟨[], ts0 ++ ts, m⟩ rest
  | [], ts0, _ => by simp
  | s :: ts, ts0, h => by
    obtain ⟨h1, h2⟩ := h s (by simp)
    rw [List.map_cons, List.cons_append, foldT, lineP_str h1 h2]
    show foldT false ⟨[], ts0 ++ [⟨s.data.toList.toArray⟩], m⟩ (ts.map strT ++ rest) = _
    rw [fold_texts m rest ts _ fun s' h' => h s' (by simp [h'])]
    congr 2
    simp
theorem fold_code (m : Int) (ts : List ByteArray) (fs : List FunS) (c l d : Int) (rest : List (List UInt8)) : ∀ (is is0 : List Ins), (∀ i ∈ is, InsOk i) → foldT false ⟨fs ++ [⟨c, l, d, is0⟩], ts, m⟩ (is.map insT ++ rest) = foldT false ⟨fs ++ [⟨c, l, d, is0 ++ is⟩], ts, m⟩ rest
  | [], is0, _ => by simp
  | i :: is, is0, h => by
    have hi := h i (by simp)
    rw [List.map_cons, List.cons_append, foldT, lineP_ins hi.lo hi.hi (fun n hn => by simp at hn; rcases hn with rfl | rfl; exact hi.a; exact hi.b) hi.tight]
    have e : stepT ⟨fs ++ [⟨c, l, d, is0⟩], ts, m⟩ (.ins i) = some ⟨fs ++ [⟨c, l, d, is0 ++ [i]⟩], ts, m⟩ := by
      unfold stepT
      simp only [List.getLast?_concat, List.dropLast_concat]
    rw [e]
    show foldT false ⟨fs ++ [⟨c, l, d, is0 ++ [i]⟩], ts, m⟩ (is.map insT ++ rest) = _
    rw [fold_code m ts fs c l d rest is _ fun i' h' => h i' (by simp [h'])]
    simp
theorem fold_funs (m : Int) (ts : List ByteArray) : ∀ (fs fs0 : List FunS), (∀ f ∈ fs, Num52 f.c ∧ Num52 f.l ∧ Num52 f.d) → (∀ f ∈ fs, ∀ i ∈ f.code, InsOk i) → foldT false ⟨fs0, ts, m⟩ (fs.flatMap funT) = some ⟨fs0 ++ fs, ts, m⟩
  | [], fs0, _, _ => by simp [foldT]
  | f :: fs, fs0, h, hc => by
    obtain ⟨h1, h2, h3⟩ := h f (by simp)
    rw [List.flatMap_cons]
    show foldT false ⟨fs0, ts, m⟩ (lineT wFun [f.c, f.l, f.d] :: (f.code.map insT ++ fs.flatMap funT)) = _
    rw [foldT, lineP_fun fun n hn => by simp at hn; rcases hn with rfl | rfl | rfl <;> assumption]
    show foldT false ⟨fs0 ++ [⟨f.c, f.l, f.d, []⟩], ts, m⟩ (f.code.map insT ++ fs.flatMap funT) = _
    rw [fold_code m ts fs0 f.c f.l f.d _ f.code [] (hc f (by simp)), List.nil_append, fold_funs m ts fs _ (fun g hg => h g (by simp [hg])) (fun g hg => hc g (by simp [hg]))]
    simp
theorem no_nl {p : ProgS} (h : TextsOk p) : ∀ x ∈ linesT p, (10 : UInt8) ∉ x := fun x hx => by
  unfold linesT bodyT at hx
  rcases List.mem_cons.1 hx with rfl | hx
  · exact lineT_nl (by decide) _
  · rcases List.mem_append.1 hx with hx | hx
    · obtain ⟨s, _, rfl⟩ := List.mem_map.1 hx
      unfold strT quoteU
      intro hm
      have key : ∀ b : UInt8, (10 : UInt8) ∉ escU b := fun b => by
        unfold escU
        by_cases h1 : b = 10
        · subst h1; decide
        · rw [if_neg (by simpa using h1)]
          by_cases h2 : b = 34 ∨ b = 92
          · rw [if_pos (by simpa using h2)]; simp [Ne.symm h1]
          · rw [if_neg (by simpa using h2)]; simp [Ne.symm h1]
      rcases List.mem_append.1 hm with hm | hm
      · exact absurd hm (by decide)
      · rcases List.mem_cons.1 hm with hm | hm
        · exact absurd hm (by decide)
        · rcases List.mem_cons.1 hm with hm | hm
          · exact absurd hm (by decide)
          · rcases List.mem_append.1 hm with hm | hm
            · obtain ⟨b, _, hb⟩ := List.mem_flatMap.1 hm
              exact key b hb
            · exact absurd hm (by decide)
    · obtain ⟨f, hf, hx⟩ := List.mem_flatMap.1 hx
      rcases List.mem_cons.1 hx with rfl | hx
      · exact lineT_nl (by decide) _
      · obtain ⟨i, hi, rfl⟩ := List.mem_map.1 hx
        have ho := h.codes f hf i hi
        exact lineT_nl (opU_word i.op ho.lo ho.hi).2.2.1 _
/-- What is written is read. -/
theorem read_text {p : ProgS} (h : TextsOk p) : readT (textS p) = some p := by
  have hn := no_nl h
  unfold readT textS linesT
  rw [if_pos (last_nl _ _), drop_nl, spl_of 10 _ _ (hn _ (by simp [linesT])) fun x hx => hn x (by unfold linesT; exact List.mem_cons_of_mem _ hx)]
  rw [foldT, lineP_main h.main]
  show foldT false ⟨[], [], p.main⟩ (p.texts.map strT ++ p.funs.flatMap funT) = _
  rw [fold_texts _ _ _ _ h.texts, List.nil_append, fold_funs _ _ _ _ h.heads h.codes, List.nil_append]
theorem bodyT_snoc (ts : List ByteArray) (fs : List FunS) (f : FunS) : bodyT ts (fs ++ [f]) = bodyT ts fs ++ funT f := by simp [bodyT]
theorem fold_inv : ∀ (ls : List (List UInt8)) (p q : ProgS), TextsOk p → foldT false p ls = some q → bodyT q.texts q.funs = bodyT p.texts p.funs ++ ls ∧ q.main = p.main ∧ TextsOk q
  | [], p, q, hp, h => by cases h; exact ⟨by simp, rfl, hp⟩
  | x :: r, p, q, hp, h => by
    rw [foldT] at h
    cases hs : stepT p (lineP false x) with
    | none => rw [hs] at h; cases h
    | some p1 =>
      rw [hs] at h
      simp only at h
      have key : bodyT p1.texts p1.funs = bodyT p.texts p.funs ++ [x] ∧ p1.main = p.main ∧ TextsOk p1 := by
        have hb : lineP false x ≠ .bad := fun e => by rw [e] at hs; cases hs
        have hi := lineP_inv hb
        cases hk : lineP false x with
        | bad => exact absurd hk hb
        | main n => rw [hk] at hi; exact absurd hi.1 (by decide)
        | text t =>
          rw [hk] at hi hs
          obtain ⟨_, i1, i2, i3⟩ := hi
          unfold stepT at hs
          simp only at hs
          by_cases hf : p.funs = []
          · rw [if_pos hf] at hs
            cases hs
            refine ⟨?_, rfl, ⟨hp.main, fun s hs => ?_, hp.heads, hp.codes⟩⟩
            · unfold bodyT; rw [hf, i1]; simp
            · rcases List.mem_append.1 hs with hs | hs
              · exact hp.texts s hs
              · obtain rfl := List.mem_singleton.1 hs
                exact ⟨by show t.toArray.size ≤ 16384; simpa using i3, by simpa using i2⟩
          · rw [if_neg hf] at hs; cases hs
        | fn c l d =>
          rw [hk] at hi hs
          obtain ⟨_, i1, i2, i3, i4⟩ := hi
          cases hs
          refine ⟨?_, rfl, ⟨hp.main, hp.texts, fun f hf => ?_, fun f hf i hi => ?_⟩⟩
          · show bodyT p.texts (p.funs ++ [⟨c, l, d, []⟩]) = _
            rw [bodyT_snoc, i1]; rfl
          · rcases List.mem_append.1 hf with hf | hf
            · exact hp.heads f hf
            · obtain rfl := List.mem_singleton.1 hf; exact ⟨i2, i3, i4⟩
          · rcases List.mem_append.1 hf with hf | hf
            · exact hp.codes f hf i hi
            · obtain rfl := List.mem_singleton.1 hf; cases hi
        | ins i =>
          rw [hk] at hi hs
          obtain ⟨_, i1, i2, i3, i4, i5, i6⟩ := hi
          unfold stepT at hs
          simp only at hs
          rcases List.eq_nil_or_concat p.funs with e | ⟨fs, f, e⟩
          · rw [e] at hs; cases hs
          · rw [List.concat_eq_append] at e
            rw [e] at hs
            simp only [List.getLast?_concat, List.dropLast_concat] at hs
            cases hs
            refine ⟨?_, rfl, ⟨hp.main, hp.texts, fun g hg => ?_, fun g hg j hj => ?_⟩⟩
            · show bodyT p.texts (fs ++ [⟨f.c, f.l, f.d, f.code ++ [i]⟩]) = bodyT p.texts p.funs ++ [x]
              rw [e, bodyT_snoc, bodyT_snoc, i1]
              simp [funT]
            · rcases List.mem_append.1 hg with hg | hg
              · exact hp.heads g (by rw [e]; exact List.mem_append_left _ hg)
              · obtain rfl := List.mem_singleton.1 hg
                exact hp.heads f (by rw [e]; simp)
            · rcases List.mem_append.1 hg with hg | hg
              · exact hp.codes g (by rw [e]; exact List.mem_append_left _ hg) j hj
              · obtain rfl := List.mem_singleton.1 hg
                rcases List.mem_append.1 hj with hj | hj
                · exact hp.codes f (by rw [e]; simp) j hj
                · obtain rfl := List.mem_singleton.1 hj
                  exact ⟨i2, i3, i4, i5, i6⟩
      obtain ⟨k1, k2, k3⟩ := key
      obtain ⟨j1, j2, j3⟩ := fold_inv r p1 q k3 h
      exact ⟨by rw [j1, k1]; simp, j2.trans k2, j3⟩
/-- What is read was so written. -/
theorem text_read {s : List UInt8} {p : ProgS} (h : readT s = some p) : textS p = s ∧ TextsOk p := by
  unfold readT at h
  by_cases hl : s.getLast? = some 10
  · rw [if_pos hl] at h
    have es : s = s.dropLast ++ [10] := by
      rcases List.eq_nil_or_concat s with e | ⟨r, c, e⟩
      · rw [e] at hl; cases hl
      · rw [List.concat_eq_append] at e
        rw [e] at hl ⊢
        rw [List.getLast?_concat] at hl
        cases hl
        rw [List.dropLast_concat]
    have ej := spl_join 10 s.dropLast
    have hne := spl_ne 10 s.dropLast
    cases hsp : spl 10 s.dropLast with
    | nil => exact absurd hsp hne
    | cons x r =>
      rw [hsp] at h ej
      rw [foldT] at h
      have hb : lineP true x ≠ .bad := fun e => by rw [e] at h; cases h
      have hi := lineP_inv hb
      cases hk : lineP true x with
      | bad => exact absurd hk hb
      | text t => rw [hk] at hi; exact absurd hi.1 (by decide)
      | fn c l d => rw [hk] at hi; exact absurd hi.1 (by decide)
      | ins i => rw [hk] at hi; exact absurd hi.1 (by decide)
      | main n =>
        rw [hk] at hi h
        obtain ⟨_, i1, i2⟩ := hi
        obtain ⟨j1, j2, j3⟩ := fold_inv r ⟨[], [], n⟩ p ⟨i2, fun s hs => (by cases hs), fun f hf => (by cases hf), fun f hf => (by cases hf)⟩ h
        refine ⟨?_, j3⟩
        unfold textS linesT
        rw [j1, j2, show bodyT ([] : List ByteArray) [] = [] from rfl, List.nil_append, ← i1, ← join_nl]
        have e3 : x ++ (r.flatMap fun x => 10 :: x) = s.dropLast := ej.symm
        rw [e3, ← es]
  · rw [if_neg hl] at h; cases h

theorem suffix_nl (l : List UInt8) : Lib.hasSuffix l [10] = decide (l.getLast? = some 10) := by
  unfold Lib.hasSuffix
  rcases List.eq_nil_or_concat l with rfl | ⟨r, c, rfl⟩
  · rfl
  · rw [Bool.eq_iff_iff, List.isSuffixOf_iff_suffix, decide_eq_true_iff]
    simp only [List.concat_eq_append, List.getLast?_append, List.getLast?_singleton, Option.some_or, Option.some.injEq]
    constructor
    · rintro ⟨t, ht⟩
      have := congrArg List.getLast? ht
      simp at this
      exact this.symm
    · rintro rfl; exact ⟨r, rfl⟩
theorem trim_nl (l : List UInt8) (h : l.getLast? = some 10) : Lib.trimSuffix l [10] = l.dropLast := by
  unfold Lib.trimSuffix
  rw [if_pos (by rw [suffix_nl, h]; rfl), List.dropLast_eq_take]; rfl
theorem readT_no (l : List UInt8) (h : ¬ l.getLast? = some 10) : readT l = none := by unfold readT; rw [if_neg h]
theorem readT_yes (l : List UInt8) (h : l.getLast? = some 10) : readT l = foldT true ⟨[], [], 0⟩ (spl 10 l.dropLast) := by unfold readT; rw [if_pos h]
theorem foldT_cons (first : Bool) (p : ProgS) (x : List UInt8) (r : List (List UInt8)) : foldT first p (x :: r) = match stepT p (lineP first x) with | none => none | some q => foldT false q r := rfl
theorem foldT_some {A : Option ProgS} {first : Bool} {p q : ProgS} {x : List UInt8} {r : List (List UInt8)} (h : A = foldT first p (x :: r)) (hs : stepT p (lineP first x) = some q) : A = foldT false q r := by rw [h, foldT_cons, hs]
theorem foldT_none {A : Option ProgS} {first : Bool} {p : ProgS} {x : List UInt8} {r : List (List UInt8)} (h : A = foldT first p (x :: r)) (hs : stepT p (lineP first x) = none) : A = none := by rw [h, foldT_cons, hs]
theorem lineP_first (x : List UInt8) : lineP true x = if Lib.hasPrefix x [109, 97, 105, 110, 32] = true then mainU' (numsU (spl 32 x).tail) else .bad := by unfold lineP; rw [if_pos rfl]; rfl
theorem lineP_no (x : List UInt8) : lineP false x = if (wString ++ [32]).isPrefixOf x = true then (match unqU (x.drop 7) with | some t => .text t | none => .bad) else if (wFun ++ [32]).isPrefixOf x = true then funU' (numsU (spl 32 x).tail) else restK x := rfl
theorem lineP_string (x : List UInt8) (h : Lib.hasPrefix x [115, 116, 114, 105, 110, 103, 32] = true) : lineP false x = match unqU (x.drop 7) with | some t => .text t | none => .bad := by
  have h' : (wString ++ [32]).isPrefixOf x = true := h
  rw [lineP_no, if_pos h']
theorem lineP_function (x : List UInt8) (h1 : Lib.hasPrefix x [115, 116, 114, 105, 110, 103, 32] = false) (h : Lib.hasPrefix x [102, 117, 110, 32] = true) : lineP false x = funU' (numsU (spl 32 x).tail) := by
  have h1' : (wString ++ [32]).isPrefixOf x = false := h1
  have h' : (wFun ++ [32]).isPrefixOf x = true := h
  rw [lineP_no, h1', if_neg (by decide), if_pos h']
theorem lineP_other (x : List UInt8) (h1 : Lib.hasPrefix x [115, 116, 114, 105, 110, 103, 32] = false) (h : Lib.hasPrefix x [102, 117, 110, 32] = false) : lineP false x = restK x := by
  have h1' : (wString ++ [32]).isPrefixOf x = false := h1
  have h' : (wFun ++ [32]).isPrefixOf x = false := h
  rw [lineP_no, h1', if_neg (by decide), h', if_neg (by decide)]
def ReadAns (l : List UInt8) (w : World) (e : Ending) (w' : World) : Prop :=
  ∃ fv tv p ok, e = .returned (.tuple #[.agg #[fv, tv, .int .i64 p.main], .bool ok]) ∧ Below w.heap.size w w' ∧ IsProg w' fv tv p ∧ readT l = (if ok = true then some (strip p) else none) ∧ (ok = true → p.funs.length ≤ l.length ∧ p.texts.length ≤ l.length)
end Go.Proofs.YtidffjlpldalpaaGreatDoor

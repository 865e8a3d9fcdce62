/- Literals: a quoted text is read, and what is read was so quoted. Lines: what is written is read, and what is read was so written. -/
import Derived.Test.YtidffjlpldalpaaGreatDoorP23
import Derived.Test.YtidffjlpldalpaaGreatDoorP12
import Derived.Test.YtidffjlpldalpaaGreatDoorP9
set_option linter.unusedVariables false
set_option linter.unusedSimpArgs false
namespace Go.Proofs.YtidffjlpldalpaaGreatDoor
open Go Go.RowKit

theorem lit_step {c d : UInt8} {r : List UInt8} : litU (c :: d :: r) = if c = 34 then some ([], d :: r)
    else if c = 92 then
      (if d = 34 ∨ d = 92 then (litU r).map (fun x => (d :: x.1, x.2)) else if d = 110 then (litU r).map (fun x => (10 :: x.1, x.2)) else none)
    else if 32 ≤ c.toNat ∧ c.toNat ≤ 126 then (litU (d :: r)).map (fun x => (c :: x.1, x.2)) else none := by rw [litU]
theorem lit_end (r : List UInt8) : litU (34 :: r) = some ([], r) := by
  cases r with
  | nil => rfl
  | cons d r => rw [lit_step, if_pos rfl]
theorem lit_esc (b : UInt8) (l : List UInt8) (hv : visB b = true) (hl : l ≠ []) : litU (escU b ++ l) = (litU l).map fun x => (b :: x.1, x.2) := by
  obtain ⟨d, r, rfl⟩ := List.exists_cons_of_ne_nil hl
  unfold escU
  by_cases h10 : b = 10
  · subst h10
    show litU (92 :: 110 :: d :: r) = _
    rw [lit_step, if_neg (by decide), if_pos rfl, if_neg (by decide), if_pos rfl]
  · rw [if_neg (by simpa using h10)]
    by_cases hq : b = 34 ∨ b = 92
    · rw [if_pos (by simpa using hq)]
      show litU (92 :: b :: d :: r) = _
      rw [lit_step, if_neg (by decide), if_pos rfl, if_pos hq]
    · rw [if_neg (by simpa using hq)]
      show litU (b :: d :: r) = _
      have hb : 32 ≤ b.toNat ∧ b.toNat ≤ 126 := by
        unfold visB at hv
        simp [h10] at hv
        exact hv
      rw [lit_step, if_neg (fun e => hq (.inl e)), if_neg (fun e => hq (.inr e)), if_pos hb]
theorem lit_all : ∀ (t r : List UInt8), t.all visB = true → litU (t.flatMap escU ++ 34 :: r) = some (t, r)
  | [], r, _ => lit_end r
  | b :: t, r, h => by
    rw [List.all_cons, Bool.and_eq_true] at h
    rw [List.flatMap_cons, List.append_assoc, lit_esc b _ h.1 (by simp), lit_all t r h.2]
    rfl
theorem lit_inv : ∀ (n : Nat) (l t r : List UInt8), l.length ≤ n → litU l = some (t, r) → l = t.flatMap escU ++ 34 :: r ∧ t.all visB = true
  | 0, l, t, r, hn, h => by
    obtain rfl : l = [] := List.eq_nil_of_length_eq_zero (by omega)
    cases h
  | n + 1, l, t, r, hn, h => by
    match l with
    | [] => cases h
    | [c] =>
      unfold litU at h
      by_cases hc : c = 34
      · rw [if_pos hc] at h; cases h; subst hc; exact ⟨rfl, rfl⟩
      · rw [if_neg hc] at h; cases h
    | c :: d :: q =>
      rw [lit_step] at h
      have map_some : ∀ {x : Option (List UInt8 × List UInt8)} {b : UInt8}, x.map (fun y => (b :: y.1, y.2)) = some (t, r) → ∃ t', x = some (t', r) ∧ t = b :: t' := fun {x b} e => by
        cases x with
        | none => cases e
        | some y => obtain ⟨y1, y2⟩ := y; cases e; exact ⟨y1, rfl, rfl⟩
      by_cases h1 : c = 34
      · rw [if_pos h1] at h; cases h; subst h1; exact ⟨rfl, rfl⟩
      · rw [if_neg h1] at h
        by_cases h2 : c = 92
        · rw [if_pos h2] at h
          subst h2
          by_cases h3 : d = 34 ∨ d = 92
          · rw [if_pos h3] at h
            obtain ⟨t', e, rfl⟩ := map_some h
            obtain ⟨e1, e2⟩ := lit_inv n q t' r (by simp at hn; omega) e
            refine ⟨?_, ?_⟩
            · rw [List.flatMap_cons, List.append_assoc, ← e1]
              rcases h3 with rfl | rfl <;> rfl
            · rw [List.all_cons, e2]
              rcases h3 with rfl | rfl <;> decide
          · rw [if_neg h3] at h
            by_cases h4 : d = 110
            · rw [if_pos h4] at h
              obtain ⟨t', e, rfl⟩ := map_some h
              obtain ⟨e1, e2⟩ := lit_inv n q t' r (by simp at hn; omega) e
              subst h4
              exact ⟨by rw [List.flatMap_cons, List.append_assoc, ← e1]; rfl, by rw [List.all_cons, e2]; decide⟩
            · rw [if_neg h4] at h; cases h
        · rw [if_neg h2] at h
          by_cases h5 : 32 ≤ c.toNat ∧ c.toNat ≤ 126
          · rw [if_pos h5] at h
            obtain ⟨t', e, rfl⟩ := map_some h
            obtain ⟨e1, e2⟩ := lit_inv n (d :: q) t' r (by simp at hn ⊢; omega) e
            have h10 : c ≠ 10 := fun e => by subst e; exact absurd h5.1 (by decide)
            refine ⟨?_, ?_⟩
            · rw [List.flatMap_cons, List.append_assoc, ← e1]
              unfold escU
              rw [if_neg (by simpa using h10), if_neg (by simp [h1, h2])]
              rfl
            · rw [List.all_cons, e2, Bool.and_true]
              unfold visB
              simp [h5]
          · rw [if_neg h5] at h; cases h
theorem unq_quote {s : ByteArray} (h1 : s.size ≤ 16384) (h2 : s.data.toList.all visB = true) : unqU (quoteU s) = some s.data.toList := by
  unfold quoteU
  show (if (34 : UInt8) = 34 then (match litU (s.data.toList.flatMap escU ++ [34]) with
    | some (t, []) => if t.length ≤ 16384 then some t else none
    | _ => none) else none) = _
  rw [if_pos rfl, lit_all _ _ h2]
  exact if_pos (by rw [Array.length_toList]; exact h1)
theorem unq_inv {l t : List UInt8} (h : unqU l = some t) : l = 34 :: (t.flatMap escU ++ [34]) ∧ t.all visB = true ∧ t.length ≤ 16384 := by
  cases l with
  | nil => cases h
  | cons c r =>
    replace h : (if c = 34 then (match litU r with
      | some (t, []) => if t.length ≤ 16384 then some t else none
      | _ => none) else none) = some t := h
    by_cases hc : c = 34
    · rw [if_pos hc] at h
      cases hl : litU r with
      | none => rw [hl] at h; cases h
      | some x =>
        obtain ⟨x1, x2⟩ := x
        rw [hl] at h
        cases x2 with
        | cons _ _ => cases h
        | nil =>
          replace h : (if x1.length ≤ 16384 then some x1 else none) = some t := h
          by_cases hx : x1.length ≤ 16384
          · rw [if_pos hx] at h
            cases h
            obtain ⟨e1, e2⟩ := lit_inv _ r t [] (Nat.le_refl _) hl
            exact ⟨by rw [hc, e1], e2, hx⟩
          · rw [if_neg hx] at h; cases h
    · rw [if_neg hc] at h; cases h

theorem spl_join (c : UInt8) : ∀ l : List UInt8, l = (spl c l).headD [] ++ (spl c l).tail.flatMap (fun x => c :: x)
  | [] => rfl
  | b :: l => by
    have ih := spl_join c l
    have hne := spl_ne c l
    unfold spl
    by_cases h : b = c
    · rw [if_pos h]
      subst h
      show b :: l = [] ++ (spl b l).flatMap (fun x => b :: x)
      cases hs : spl b l with
      | nil => exact absurd hs hne
      | cons x r =>
        rw [hs] at ih
        rw [List.flatMap_cons, List.nil_append]
        show b :: l = b :: (x ++ r.flatMap fun x => b :: x)
        congr 1
    · rw [if_neg h]
      show b :: l = b :: ((spl c l).headD [] ++ (spl c l).tail.flatMap fun x => c :: x)
      congr 1
theorem spl_of (c : UInt8) : ∀ (ps : List (List UInt8)) (w : List UInt8), c ∉ w → (∀ x ∈ ps, c ∉ x) → spl c (w ++ ps.flatMap fun x => c :: x) = w :: ps
  | [], w, hw, _ => by rw [List.flatMap_nil, List.append_nil, spl_none c w hw]
  | p :: ps, w, hw, hp => by
    rw [List.flatMap_cons]
    show spl c (w ++ c :: (p ++ ps.flatMap fun x => c :: x)) = _
    rw [spl_hit c w _ hw, spl_of c ps p (hp p (by simp)) fun x hx => hp x (by simp [hx])]
theorem dig_bytes {u : Nat} {b : UInt8} (h : b ∈ Lib.decDigits u) : 48 ≤ b.toNat ∧ b.toNat ≤ 57 := by
  have := List.all_eq_true.1 (dec_all u) b h
  simpa [digU] using this
theorem itoa_bytes {n : Int} {b : UInt8} (h : b ∈ Lib.itoa n) : b ≠ 32 ∧ b ≠ 10 := by
  unfold Lib.itoa at h
  have key : ∀ u : Nat, b ∈ Lib.decDigits u → b ≠ 32 ∧ b ≠ 10 := fun u hu => by
    have := dig_bytes hu
    constructor <;> (intro e; subst e; revert this; decide)
  by_cases hn : n < 0
  · rw [if_pos hn] at h
    rcases List.mem_cons.1 h with rfl | h
    · decide
    · exact key _ h
  · rw [if_neg hn] at h
    exact key _ h
def Num52 (n : Int) : Prop := -4503599627370496 ≤ n ∧ n ≤ 4503599627370496
theorem num_zero : Num52 0 := by constructor <;> decide
theorem nums_itoa : ∀ (l : List Int), (∀ n ∈ l, Num52 n) → numsU (l.map Lib.itoa) = some l
  | [], _ => rfl
  | n :: l, h => by
    have h1 := h n (by simp)
    rw [List.map_cons, numsU, int_itoa h1.1 h1.2]
    simp only
    rw [nums_itoa l fun m hm => h m (by simp [hm])]
    rfl
theorem nums_inv : ∀ (ps : List (List UInt8)) (l : List Int), numsU ps = some l → ps = l.map Lib.itoa ∧ ∀ n ∈ l, Num52 n
  | [], l, h => by cases h; exact ⟨rfl, fun _ h => by cases h⟩
  | x :: r, l, h => by
    rw [numsU] at h
    cases hx : intU x with
    | none => rw [hx] at h; cases h
    | some n =>
      rw [hx] at h
      simp only at h
      cases hr : numsU r with
      | none => rw [hr] at h; cases h
      | some l' =>
        rw [hr] at h
        cases h
        obtain ⟨e1, e2⟩ := nums_inv r l' hr
        obtain ⟨i1, i2, i3⟩ := itoa_of hx
        refine ⟨by rw [List.map_cons, ← e1, ← i1], fun m hm => ?_⟩
        rcases List.mem_cons.1 hm with rfl | hm
        · exact ⟨i2, i3⟩
        · exact e2 m hm
/-- A line of numbers behind a word. -/
def lineT (w : List UInt8) (l : List Int) : List UInt8 := w ++ l.flatMap fun n => 32 :: Lib.itoa n
theorem lineT_spl {w : List UInt8} (hw : 32 ∉ w) (l : List Int) : spl 32 (lineT w l) = w :: l.map Lib.itoa := by
  have e : (l.flatMap fun n => 32 :: Lib.itoa n) = (l.map Lib.itoa).flatMap fun x => 32 :: x := by rw [List.flatMap_map]
  unfold lineT
  rw [e]
  exact spl_of 32 _ w hw fun x hx => by
    obtain ⟨n, _, rfl⟩ := List.mem_map.1 hx
    exact fun hm => (itoa_bytes hm).1 rfl
theorem lineT_of {x : List UInt8} {l : List Int} (h : numsU (spl 32 x).tail = some l) : x = lineT ((spl 32 x).headD []) l := by
  obtain ⟨e, _⟩ := nums_inv _ l h
  have j := spl_join 32 x
  rw [e] at j
  rw [List.flatMap_map] at j
  exact j
theorem lineT_nl {w : List UInt8} (hw : 10 ∉ w) (l : List Int) : 10 ∉ lineT w l := by
  intro h
  rcases List.mem_append.1 h with h | h
  · exact hw h
  · obtain ⟨n, _, h⟩ := List.mem_flatMap.1 h
    rcases List.mem_cons.1 h with h | h
    · exact absurd h (by decide)
    · exact (itoa_bytes h).2 rfl
def wordU (op : Int) : List UInt8 := (wordS op).data.toList
theorem opU_word : ∀ op : Int, 1 ≤ op → op ≤ 16 → opU (wordU op) = op ∧ 32 ∉ wordU op ∧ 10 ∉ wordU op ∧ wordU op ≠ wMain ∧ wordU op ≠ wString ∧ wordU op ≠ wFun := fun op h1 h2 => by
  rcases (by omega : op = 1 ∨ op = 2 ∨ op = 3 ∨ op = 4 ∨ op = 5 ∨ op = 6 ∨ op = 7 ∨ op = 8 ∨ op = 9 ∨ op = 10 ∨ op = 11 ∨ op = 12 ∨ op = 13 ∨ op = 14 ∨ op = 15 ∨ op = 16) with rfl | rfl | rfl | rfl | rfl | rfl | rfl | rfl | rfl | rfl | rfl | rfl | rfl | rfl | rfl | rfl
  all_goals exact ⟨by kernel_rfl, by decide, by decide, by decide, by decide, by decide⟩
theorem opU_inv {w : List UInt8} (h : opU w ≠ 0) : 1 ≤ opU w ∧ opU w ≤ 16 ∧ wordU (opU w) = w := by
  unfold opU at h ⊢
  cases hf : (List.range 16).find? fun k : Nat => (wordS ((k : Int) + 1)).data.toList == w with
  | none => rw [hf] at h; exact absurd rfl h
  | some k =>
    have h1 := List.find?_some hf
    have h2 := List.mem_range.1 (List.mem_of_find?_eq_some hf)
    simp only at h1 ⊢
    exact ⟨by omega, by omega, by simpa [wordU] using h1⟩
theorem opnds_two (op : Int) : 0 ≤ opnds op ∧ opnds op ≤ 2 := by
  unfold opnds
  split
  · decide
  · split <;> decide
def insT (i : Ins) : List UInt8 := lineT (wordU i.op) ([i.a, i.b].take (opnds i.op).toNat)
def strT (s : ByteArray) : List UInt8 := wString ++ 32 :: quoteU s
/-- What an operation doesn't take is zero. -/
def tightI (i : Ins) : Prop := (opnds i.op < 1 → i.a = 0) ∧ (opnds i.op < 2 → i.b = 0)
theorem lineP_main {n : Int} (h : Num52 n) : lineP true (lineT wMain [n]) = .main n := by
  unfold lineP
  rw [if_pos rfl, lineT_spl (by decide)]
  have hp : (wMain ++ [32]).isPrefixOf (lineT wMain [n]) = true := by
    rw [List.isPrefixOf_iff_prefix]
    exact ⟨Lib.itoa n, by simp [lineT]⟩
  rw [if_pos hp]
  show mainU' (numsU ([n].map Lib.itoa)) = _
  rw [nums_itoa [n] fun m hm => by simp at hm; subst hm; exact h]
  rfl
theorem lineP_fun {c l d : Int} (h : ∀ n ∈ [c, l, d], Num52 n) : lineP false (lineT wFun [c, l, d]) = .fn c l d := by
  unfold lineP
  rw [if_neg Bool.false_ne_true, lineT_spl (by decide)]
  have e : lineT wFun [c, l, d] = wFun ++ 32 :: (Lib.itoa c ++ [l, d].flatMap fun n => 32 :: Lib.itoa n) := by simp [lineT]
  rw [e, prefix_word (by decide) (by decide), prefix_word (by decide) (by decide), if_neg (by decide), if_pos (by decide)]
  show funU' (numsU ([c, l, d].map Lib.itoa)) = _
  rw [nums_itoa _ h]
  rfl
theorem lineP_str {s : ByteArray} (h1 : s.size ≤ 16384) (h2 : s.data.toList.all visB = true) : lineP false (strT s) = .text s.data.toList := by
  unfold lineP strT
  rw [if_neg Bool.false_ne_true, prefix_word (by decide) (by decide), if_pos (by decide)]
  show (match unqU (quoteU s) with | some t => LineK.text t | none => LineK.bad) = _
  rw [unq_quote h1 h2]
theorem lineP_ins {i : Ins} (h1 : 1 ≤ i.op) (h2 : i.op ≤ 16) (h : ∀ n ∈ [i.a, i.b], Num52 n) (ht : tightI i) : lineP false (insT i) = .ins i := by
  obtain ⟨o1, o2, o3, o4, o5, o6⟩ := opU_word i.op h1 h2
  have hp : ∀ k : List UInt8, 32 ∉ k → wordU i.op ≠ k → (k ++ [32]).isPrefixOf (insT i) = false := fun k hk hne => by
    rcases spl_two (insT i) with ⟨h3, _⟩ | ⟨w, r, e, hw, e2⟩
    · exact prefix_none h3
    · have e3 := lineT_spl o2 ([i.a, i.b].take (opnds i.op).toNat)
      have e4 : wordU i.op = w := by
        have : spl 32 (insT i) = w :: spl 32 r := e2
        unfold insT at this
        rw [e3] at this
        exact (List.cons.inj this).1
      rw [e, prefix_word hk hw]
      simp only [decide_eq_false_iff_not]
      rw [← e4]; exact hne
  unfold lineP
  rw [if_neg Bool.false_ne_true, hp _ (by decide) o5, hp _ (by decide) o6, if_neg Bool.false_ne_true, if_neg Bool.false_ne_true]
  have e3 := lineT_spl o2 ([i.a, i.b].take (opnds i.op).toNat)
  show (if opU ((spl 32 (lineT (wordU i.op) _)).headD []) = 0 then LineK.bad else insU' (opU ((spl 32 (lineT (wordU i.op) _)).headD [])) (numsU (spl 32 (lineT (wordU i.op) _)).tail)) = _
  rw [e3]
  show (if opU (wordU i.op) = 0 then LineK.bad else insU' (opU (wordU i.op)) (numsU (([i.a, i.b].take (opnds i.op).toNat).map Lib.itoa))) = _
  rw [o1, if_neg (by omega), nums_itoa _ fun n hn => h n (List.mem_of_mem_take hn)]
  have h0 := opnds_two i.op
  obtain ⟨op, a, b⟩ := i
  simp only at *
  show (if ((([a, b].take (opnds op).toNat).length : Nat) : Int) = opnds op then LineK.ins ⟨op, ([a, b].take (opnds op).toNat).getD 0 0, ([a, b].take (opnds op).toNat).getD 1 0⟩ else LineK.bad) = _
  rcases (by omega : opnds op = 0 ∨ opnds op = 1 ∨ opnds op = 2) with e | e | e
  · rw [e]
    have t1 := ht.1 (by show opnds op < 1; omega); have t2 := ht.2 (by show opnds op < 2; omega)
    simp only at t1 t2
    subst t1 t2; rfl
  · rw [e]
    have t2 := ht.2 (by show opnds op < 2; omega)
    simp only at t2
    subst t2; rfl
  · rw [e]; rfl
/-- The line of what it says. -/
def SaysT (first : Bool) (x : List UInt8) : LineK → Prop
  | .main n => first = true ∧ x = lineT wMain [n] ∧ Num52 n
  | .text t => first = false ∧ x = strT ⟨t.toArray⟩ ∧ t.all visB = true ∧ t.length ≤ 16384
  | .fn c l d => first = false ∧ x = lineT wFun [c, l, d] ∧ Num52 c ∧ Num52 l ∧ Num52 d
  | .ins i => first = false ∧ x = insT i ∧ 1 ≤ i.op ∧ i.op ≤ 16 ∧ Num52 i.a ∧ Num52 i.b ∧ tightI i
  | .bad => True
theorem lineP_inv {first : Bool} {x : List UInt8} (hk : lineP first x ≠ .bad) : SaysT first x (lineP first x) := by
  unfold lineP at hk ⊢
  have head : ∀ w : List UInt8, 32 ∉ w → (w ++ [32]).isPrefixOf x = true → (spl 32 x).headD [] = w ∧ ∃ r, x = w ++ 32 :: r := fun w hw hp => by
    obtain ⟨r, e⟩ := List.isPrefixOf_iff_prefix.1 hp
    have e2 : x = w ++ 32 :: r := by rw [← e]; simp
    exact ⟨by rw [e2, spl_hit 32 w r hw]; rfl, r, e2⟩
  cases first
  · rw [if_neg Bool.false_ne_true] at hk ⊢
    by_cases hs : (wString ++ [32]).isPrefixOf x = true
    · rw [if_pos hs] at hk ⊢
      obtain ⟨_, r, e⟩ := head wString (by decide) hs
      have ed : x.drop 7 = r := by rw [e]; rfl
      rw [ed] at hk ⊢
      cases hu : unqU r with
      | none => rw [hu] at hk; exact absurd rfl hk
      | some t =>
        obtain ⟨u1, u2, u3⟩ := unq_inv hu
        exact ⟨rfl, by rw [e, u1]; rfl, u2, u3⟩
    · rw [if_neg hs] at hk ⊢
      by_cases hf : (wFun ++ [32]).isPrefixOf x = true
      · rw [if_pos hf] at hk ⊢
        obtain ⟨e, _⟩ := head wFun (by decide) hf
        cases hn : numsU (spl 32 x).tail with
        | none => rw [hn] at hk; exact absurd rfl hk
        | some l =>
          rw [hn] at hk
          have e2 := lineT_of hn
          have e3 := (nums_inv _ l hn).2
          rw [e] at e2
          match l with
          | [] => exact absurd rfl hk
          | [_] => exact absurd rfl hk
          | [_, _] => exact absurd rfl hk
          | [c, l, d] => exact ⟨rfl, e2, e3 c (by simp), e3 l (by simp), e3 d (by simp)⟩
          | _ :: _ :: _ :: _ :: _ => exact absurd rfl hk
      · rw [if_neg hf] at hk ⊢
        by_cases ho : opU ((spl 32 x).headD []) = 0
        · rw [if_pos ho] at hk; exact absurd rfl hk
        · rw [if_neg ho] at hk ⊢
          obtain ⟨o1, o2, o3⟩ := opU_inv ho
          cases hn : numsU (spl 32 x).tail with
          | none => rw [hn] at hk; exact absurd rfl hk
          | some l =>
            rw [hn] at hk
            have e2 := lineT_of hn
            have e3 := (nums_inv _ l hn).2
            have h0 := opnds_two (opU ((spl 32 x).headD []))
            rw [← o3] at e2
            generalize opU ((spl 32 x).headD []) = op at *
            by_cases hl : (l.length : Int) = opnds op
            · have ei : insU' op (some l) = .ins ⟨op, l.getD 0 0, l.getD 1 0⟩ := if_pos hl
              rw [ei]
              match l with
              | [] =>
                have eo : opnds op = 0 := by rw [← hl]; rfl
                refine ⟨rfl, ?_, o1, o2, num_zero, num_zero, fun _ => rfl, fun _ => rfl⟩
                rw [e2]; unfold insT; simp only; rw [eo]; rfl
              | [a] =>
                have eo : opnds op = 1 := by rw [← hl]; rfl
                refine ⟨rfl, ?_, o1, o2, e3 a (by simp), num_zero, fun h => by rw [eo] at h; exact absurd h (by decide), fun _ => rfl⟩
                rw [e2]; unfold insT; simp only; rw [eo]; rfl
              | [a, b] =>
                have eo : opnds op = 2 := by rw [← hl]; rfl
                refine ⟨rfl, ?_, o1, o2, e3 a (by simp), e3 b (by simp), fun h => by rw [eo] at h; exact absurd h (by decide), fun h => by rw [eo] at h; exact absurd h (by decide)⟩
                rw [e2]; unfold insT; simp only; rw [eo]; rfl
              | _ :: _ :: _ :: _ => simp at hl; omega
            · exact absurd (if_neg hl) hk
  · rw [if_pos rfl] at hk ⊢
    by_cases hm : (wMain ++ [32]).isPrefixOf x = true
    · rw [if_pos hm] at hk ⊢
      obtain ⟨e, _⟩ := head wMain (by decide) hm
      cases hn : numsU (spl 32 x).tail with
      | none => rw [hn] at hk; exact absurd rfl hk
      | some l =>
        rw [hn] at hk
        have e2 := lineT_of hn
        have e3 := (nums_inv _ l hn).2
        rw [e] at e2
        match l with
        | [] => exact absurd rfl hk
        | [n] => exact ⟨rfl, e2, e3 n (by simp)⟩
        | _ :: _ :: _ => exact absurd rfl hk
    · rw [if_neg hm] at hk; exact absurd rfl hk
end Go.Proofs.YtidffjlpldalpaaGreatDoor

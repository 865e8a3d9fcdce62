/- Encode of the reference. Reading a number: the list, and the reader's number. The reader's count. Get of the reference. The program of a body as a plain parser: it stops at the first fault. The text of a program, read: a plain parser, line by line; the program's look at a line and the reference's are one. Numbers and literals: what is written is read, and what is read was so written. Literals: a quoted text is read, and what is read was so quoted. -/
import Derived.Test.YtidffjlpldalpaaGreatDoorT16
import Derived.Test.YtidffjlpldalpaaGreatDoorT11
import Derived.Test.YtidffjlpldalpaaGreatDoorT10
import Derived.Lib.ConvBytes
import Derived.Deep.AppendLies
import Derived.Lib.ItoaMem
set_option linter.unusedVariables false
set_option linter.unusedSimpArgs false
namespace Go.Proofs.YtidffjlpldalpaaGreatDoor
open Go Go.RowKit

theorem below_bytes {B : Nat} {a w : World} (e : TypeId) (s : ByteArray) (h : Below B a w) (hB : B ≤ w.heap.size) : Below B a (Lib.bytesWorld w e s) :=
  h.trans ⟨rfl, rfl, rfl, by rw [Lib.bytesWorld_size]; omega, fun k hk => Lib.bytesWorld_at_old w e s k (by omega)⟩
theorem ownsRow_mono {w : World} {base base' : Nat} {e : TypeId} {size : Nat} {v : Value} {n : Nat} {xs : List Value} (h : w.ownsRow base e size v n xs) (hb : base' ≤ base) : w.ownsRow base' e size v n xs :=
  ⟨h.1, h.2.imp id fun ⟨g, cap, cur, hv, hg, hr⟩ => ⟨g, cap, cur, hv, Nat.le_trans hb hg, hr⟩⟩

def fitB (n : Int) : Bool := inB n (-4503599627370496) 4503599627370496
/-- Nothing but one block has turned. -/
structure OnlyAt (rb : Nat) (w w' : World) : Prop where
  os : w'.os = w.os
  tape : w'.tape = w.tape
  output : w'.output = w.output
  size : w'.heap.size = w.heap.size
  block : ∀ k, k ≠ rb → w'.heap[k]? = w.heap[k]?
theorem OnlyAt.refl (rb : Nat) (w : World) : OnlyAt rb w w := ⟨rfl, rfl, rfl, rfl, fun _ _ => rfl⟩
theorem OnlyAt.trans {rb : Nat} {a b c : World} (h : OnlyAt rb a b) (k : OnlyAt rb b c) : OnlyAt rb a c :=
  ⟨k.os.trans h.os, k.tape.trans h.tape, k.output.trans h.output, k.size.trans h.size, fun q hq => (k.block q hq).trans (h.block q hq)⟩
theorem OnlyAt.set (w : World) (rb o : Nat) (u : Value) : OnlyAt rb w (w.setCell ⟨rb, o, none⟩ u) :=
  ⟨rfl, rfl, rfl, by simp, fun k hk => Below.heap_setCell _ _ _ _ hk⟩
theorem OnlyAt.below {rb B : Nat} {w w' : World} (h : OnlyAt rb w w') (hB : B ≤ rb) : Below B w w' :=
  ⟨h.os, h.tape, h.output, Nat.le_of_eq h.size.symm, fun k hk => h.block k (by omega)⟩
theorem OnlyAt.cell {rb : Nat} {w w' : World} (h : OnlyAt rb w w') {a : Addr} (ha : a.block ≠ rb) : w'.cell? a = w.cell? a := World.cell?_of_block (w := w) (h.block a.block ha)
/-- The reader at rb has these bytes yet, and its mark. -/
def RdAt (w : World) (rb : Nat) (l : List Int) (bad : Bool) : Prop :=
  ∃ a c, w.heap[rb]? = some (.cells #[.slice a l.length c, .bool bad] 112 (0, 0)) ∧ l.length ≤ c ∧
    (0 < l.length → ∃ b off, a = some ⟨b, off, none⟩ ∧ b < rb ∧ ∀ j, j < l.length → w.cell? ⟨b, off + j, none⟩ = some (.int .u8 (l.getD j 0)))



/-- A function without the value of its code. -/
structure FunS where
  c : Int
  l : Int
  d : Int
  code : List Ins
  deriving DecidableEq, Inhabited
structure ProgS where
  funs : List FunS
  texts : List ByteArray
  main : Int
  deriving Inhabited
def stripF (f : FunD) : FunS := ⟨f.c, f.l, f.d, f.code⟩
def strip (p : ProgD) : ProgS := ⟨p.funs.map stripF, p.texts, p.main⟩

def strOf (l : List Int) : ByteArray := ⟨(l.map fun x => UInt8.ofNat x.toNat).toArray⟩
/-! Each element takes its bytes. -/

/-- What stands behind an opening quote: the text, and what follows the closing quote. -/
def litU : List UInt8 → Option (List UInt8 × List UInt8)
  | [] => none
  | [c] => if c = 34 then some ([], []) else none
  | c :: d :: r =>
    if c = 34 then some ([], d :: r)
    else if c = 92 then
      (if d = 34 ∨ d = 92 then (litU r).map (fun x => (d :: x.1, x.2)) else if d = 110 then (litU r).map (fun x => (10 :: x.1, x.2)) else none)
    else if 32 ≤ c.toNat ∧ c.toNat ≤ 126 then (litU (d :: r)).map (fun x => (c :: x.1, x.2)) else none
/-- The text of a literal. -/
def unqU : List UInt8 → Option (List UInt8)
  | [] => none
  | c :: r => if c = 34 then (match litU r with
    | some (t, []) => if t.length ≤ 16384 then some t else none
    | _ => none) else none
def digU (c : UInt8) : Bool := decide (48 ≤ c.toNat) && decide (c.toNat ≤ 57)
def valU (l : List UInt8) : Nat := l.foldl (fun n c => n * 10 + (c.toNat - 48)) 0
/-- The number that is written with digits alone. -/
def natU (l : List UInt8) : Option Nat :=
  if l = [] then none else if l.all digU = false then none else if 1 < l.length ∧ l.headD 0 = 48 then none else if valU l ≤ 4503599627370496 then some (valU l) else none
def intU : List UInt8 → Option Int
  | [] => none
  | c :: r => if c = 45 then (match natU r with
    | some n => if n = 0 then none else some (-(n : Int))
    | none => none) else (match natU (c :: r) with
    | some n => some (n : Int)
    | none => none)
def numsU : List (List UInt8) → Option (List Int)
  | [] => some []
  | x :: r => match intU x with
    | none => none
    | some n => (numsU r).map (fun l => n :: l)
/-- What a line says. -/
inductive LineK where
  | main (n : Int)
  | text (s : List UInt8)
  | fn (c l d : Int)
  | ins (i : Ins)
  | bad
  deriving DecidableEq
def wMain : List UInt8 := [109, 97, 105, 110]
def wString : List UInt8 := [115, 116, 114, 105, 110, 103]
def wFun : List UInt8 := [102, 117, 110]
/-- The instruction with a word; 0: there is none. -/
def opU (w : List UInt8) : Int := match (List.range 16).find? fun k : Nat => (wordS ((k : Int) + 1)).data.toList == w with
  | some k => (k : Int) + 1
  | none => 0
def insU' (op : Int) (l : Option (List Int)) : LineK := match l with
  | none => .bad
  | some l => if (l.length : Int) = opnds op then .ins ⟨op, l.getD 0 0, l.getD 1 0⟩ else .bad
def mainU' : Option (List Int) → LineK
  | some [n] => .main n
  | _ => .bad
def funU' : Option (List Int) → LineK
  | some [c, l, d] => .fn c l d
  | _ => .bad
/-- The program's look at a line. -/
def lineP (first : Bool) (x : List UInt8) : LineK :=
  if first = true then (if (wMain ++ [32]).isPrefixOf x = true then mainU' (numsU (spl 32 x).tail) else .bad)
  else if (wString ++ [32]).isPrefixOf x = true then (match unqU (x.drop 7) with | some t => .text t | none => .bad)
  else if (wFun ++ [32]).isPrefixOf x = true then funU' (numsU (spl 32 x).tail)
  else if opU ((spl 32 x).headD []) = 0 then .bad else insU' (opU ((spl 32 x).headD [])) (numsU (spl 32 x).tail)
/-- The reference's. -/
def lineR (first : Bool) (x : List UInt8) : LineK :=
  let w := (spl 32 x).headD []
  let r := (spl 32 x).tail
  if ((w == wMain) == first) = false then .bad
  else if w = wString then (if r.isEmpty = true then .bad else match unqU (x.drop (w.length + 1)) with | some t => .text t | none => .bad)
  else match numsU r with
    | none => .bad
    | some l => if w = wMain ∧ l.length = 1 then .main (l.getD 0 0) else if w = wFun ∧ l.length = 3 then .fn (l.getD 0 0) (l.getD 1 0) (l.getD 2 0)
      else if opU w = 0 then .bad else insU' (opU w) (some l)
theorem spl_two (x : List UInt8) : (32 ∉ x ∧ spl 32 x = [x]) ∨ ∃ w r, x = w ++ 32 :: r ∧ 32 ∉ w ∧ spl 32 x = w :: spl 32 r := by
  by_cases h : (32 : UInt8) ∈ x
  · obtain ⟨p, r, e, hp⟩ := split_at 32 x h
    exact .inr ⟨p, r, e, hp, by rw [e]; exact spl_hit 32 p r hp⟩
  · exact .inl ⟨h, spl_none 32 x h⟩
theorem prefix_word {k w r : List UInt8} (hk : 32 ∉ k) (hw : 32 ∉ w) : (k ++ [32]).isPrefixOf (w ++ 32 :: r) = decide (w = k) := by
  induction k generalizing w with
  | nil =>
    cases w with
    | nil => rfl
    | cons b w =>
      have hb : (32 : UInt8) ≠ b := fun e => hw (by simp [e])
      simp [List.isPrefixOf, hb]
  | cons a k ih =>
    have ha : a ≠ 32 := fun e => hk (by simp [e])
    have hk' : 32 ∉ k := fun h => hk (by simp [h])
    cases w with
    | nil => simp [List.isPrefixOf, ha]
    | cons b w =>
      have hw' : 32 ∉ w := fun h => hw (by simp [h])
      have := ih hk' hw'
      simp only [List.cons_append, List.isPrefixOf]
      rw [this]
      by_cases e : a = b
      · subst e; simp
      · have e' : b ≠ a := fun h => e h.symm
        simp [e, e']
theorem prefix_none {k x : List UInt8} (hx : 32 ∉ x) : (k ++ [32]).isPrefixOf x = false := by
  rw [Bool.eq_false_iff]
  intro h
  have := List.isPrefixOf_iff_prefix.1 h
  obtain ⟨t, e⟩ := this
  exact hx (by rw [← e]; simp)
theorem opU_main : opU wMain = 0 := by kernel_rfl
theorem opU_string : opU wString = 0 := by kernel_rfl
theorem opU_fun : opU wFun = 0 := by kernel_rfl
theorem line_same (first : Bool) (x : List UInt8) : lineP first x = lineR first x := by
  unfold lineP lineR
  rcases spl_two x with ⟨h, e⟩ | ⟨w, r, rfl, hw, e⟩
  · rw [e, prefix_none h, prefix_none h, prefix_none h]
    simp only [List.headD_cons, List.tail_cons, if_neg Bool.false_ne_true, numsU]
    cases first
    · simp only [if_neg Bool.false_ne_true]
      by_cases hm : x = wMain
      · subst hm; rw [if_pos opU_main]; simp
      · rw [if_neg (show ¬ ((x == wMain) == false) = false by simp [hm])]
        by_cases hs : x = wString
        · subst hs; rw [if_pos opU_string]; simp
        · rw [if_neg hs]; simp only [hm, false_and, if_false]; simp; rfl
    · simp only [if_pos]
      by_cases hm : x = wMain
      · subst hm; rw [if_neg (by simp), if_neg (by decide)]; simp [opU_main]
      · rw [if_pos (by simp [hm])]
  · rw [e, prefix_word (by decide) hw, prefix_word (by decide) hw, prefix_word (by decide) hw]
    simp only [List.headD_cons, List.tail_cons, decide_eq_true_eq]
    have hr : (spl 32 r).isEmpty = false := by
      have := spl_ne 32 r
      cases h : spl 32 r with
      | nil => exact absurd h this
      | cons _ _ => rfl
    cases first
    · by_cases hs : w = wString
      · subst hs
        simp only [show ((wString == wMain) == false) = true by decide, hr, if_true, Bool.true_eq_false, Bool.false_eq_true, if_false]
        rfl
      · by_cases hm : w = wMain
        · subst hm
          simp only [hs, show ((wMain == wMain) == false) = false by decide, show ¬ wMain = wFun by decide, opU_main, if_true, Bool.false_eq_true, if_false]
        · have e2 : ((w == wMain) == false) = true := by simp [hm]
          by_cases hf : w = wFun
          · subst hf
            simp only [hs, e2, if_true, Bool.true_eq_false, Bool.false_eq_true, if_false]
            cases numsU (spl 32 r) with
            | none => rfl
            | some l =>
              simp only [opU_fun, if_true, hm, false_and, if_false, true_and]
              match l with
              | [] => rfl
              | [_] => rfl
              | [_, _] => rfl
              | [_, _, _] => rfl
              | _ :: _ :: _ :: _ :: _ => simp [funU']
          · simp only [hs, hm, hf, e2, if_true, Bool.true_eq_false, Bool.false_eq_true, if_false, false_and]
            cases hn : numsU (spl 32 r) with
            | none => by_cases ho : opU w = 0 <;> simp [ho, insU']
            | some l => rfl
    · by_cases hm : w = wMain
      · subst hm
        simp only [show ((wMain == wMain) == true) = true by decide, show ¬ wMain = wString by decide, if_true, Bool.true_eq_false, if_false]
        cases numsU (spl 32 r) with
        | none => rfl
        | some l =>
          simp only [opU_main, if_true, true_and, show ¬ wMain = wFun by decide, false_and, if_false]
          match l with
          | [] => rfl
          | [_] => rfl
          | _ :: _ :: _ => simp [mainU']
      · have e2 : ((w == wMain) == true) = false := by simp [hm]
        simp only [hm, e2, if_true, if_false]

/-- One more line. -/
def stepT (p : ProgS) : LineK → Option ProgS
  | .main n => some ⟨p.funs, p.texts, n⟩
  | .text s => if p.funs = [] then some ⟨p.funs, p.texts ++ [⟨s.toArray⟩], p.main⟩ else none
  | .fn c l d => some ⟨p.funs ++ [⟨c, l, d, []⟩], p.texts, p.main⟩
  | .ins i => match p.funs.getLast? with
    | none => none
    | some f => some ⟨p.funs.dropLast ++ [⟨f.c, f.l, f.d, f.code ++ [i]⟩], p.texts, p.main⟩
  | .bad => none
def foldT (first : Bool) (p : ProgS) : List (List UInt8) → Option ProgS
  | [] => some p
  | x :: r => match stepT p (lineP first x) with
    | none => none
    | some q => foldT false q r
/-- The program of a text, valid or not. -/
def readT (s : List UInt8) : Option ProgS :=
  if s.getLast? = some 10 then foldT true ⟨[], [], 0⟩ (spl 10 s.dropLast) else none

theorem valU_snoc (l : List UInt8) (c : UInt8) : valU (l ++ [c]) = valU l * 10 + (c.toNat - 48) := by simp [valU]
theorem dig_nat {d : Nat} (h : d < 10) : (UInt8.ofNat (48 + d)).toNat = 48 + d := by
  rw [UInt8.toNat_ofNat']; omega
theorem head_snoc {l : List UInt8} (h : l ≠ []) (c : UInt8) : (l ++ [c]).headD 0 = l.headD 0 := by
  cases l with
  | nil => exact absurd rfl h
  | cons _ _ => rfl
theorem natU_inv {l : List UInt8} {u : Nat} (h : natU l = some u) : l ≠ [] ∧ l.all digU = true ∧ ¬ (1 < l.length ∧ l.headD 0 = 48) ∧ valU l = u ∧ u ≤ 4503599627370496 := by
  unfold natU at h
  by_cases h1 : l = []
  · rw [if_pos h1] at h; cases h
  · rw [if_neg h1] at h
    by_cases h2 : l.all digU = false
    · rw [if_pos h2] at h; cases h
    · rw [if_neg h2] at h
      by_cases h3 : 1 < l.length ∧ l.headD 0 = 48
      · rw [if_pos h3] at h; cases h
      · rw [if_neg h3] at h
        by_cases h4 : valU l ≤ 4503599627370496
        · rw [if_pos h4] at h
          have e := Option.some.inj h
          exact ⟨h1, by simpa using h2, h3, e, by omega⟩
        · rw [if_neg h4] at h; cases h
theorem val_pos : ∀ (l : List UInt8), l ≠ [] → l.all digU = true → l.headD 0 ≠ 48 → 0 < valU l := fun l => by
  induction hn : l.length using Nat.strongRecOn generalizing l with
  | ind n ih =>
    intro h0 h1 h2
    rcases List.eq_nil_or_concat l with e | ⟨r, c, rfl⟩
    · exact absurd e h0
    · rw [List.concat_eq_append] at *
      rw [valU_snoc]
      by_cases hr : r = []
      · subst hr
        simp only [List.nil_append, List.all_cons, List.all_nil, Bool.and_true, digU, Bool.and_eq_true, decide_eq_true_eq, List.headD_cons] at h1 h2
        have : c.toNat ≠ 48 := fun e => h2 (by apply UInt8.toNat.inj; exact e)
        omega
      · rw [List.all_append, Bool.and_eq_true] at h1
        rw [head_snoc hr] at h2
        have := ih r.length (by rw [← hn]; simp) r rfl hr h1.1 h2
        omega
theorem dec_of : ∀ (l : List UInt8), l ≠ [] → l.all digU = true → ¬ (1 < l.length ∧ l.headD 0 = 48) → l = Lib.decDigits (valU l) := fun l => by
  induction hn : l.length using Nat.strongRecOn generalizing l with
  | ind n ih =>
    intro h0 h1 h2
    rcases List.eq_nil_or_concat l with e | ⟨r, c, rfl⟩
    · exact absurd e h0
    · rw [List.concat_eq_append] at *
      rw [List.all_append, Bool.and_eq_true] at h1
      have hc := h1.2
      simp only [List.all_cons, List.all_nil, Bool.and_true, digU, Bool.and_eq_true, decide_eq_true_eq] at hc
      rw [valU_snoc]
      by_cases hr : r = []
      · subst hr
        have e : valU ([] : List UInt8) * 10 + (c.toNat - 48) = c.toNat - 48 := by simp [valU]
        rw [e, Lib.decDigits_one (by omega), List.nil_append]
        congr 1
        apply UInt8.toNat.inj
        rw [dig_nat (by omega)]; omega
      · have h3 : r.headD 0 ≠ 48 := fun e => h2 ⟨by have := List.length_pos_iff.2 hr; rw [← hn, List.length_append, List.length_singleton]; omega, by rw [head_snoc hr]; exact e⟩
        have hp := val_pos r hr h1.1 h3
        have e := ih r.length (by rw [← hn]; simp) r rfl hr h1.1 (fun h => h3 h.2)
        rw [Lib.decDigits, dif_neg (by omega), show (valU r * 10 + (c.toNat - 48)) / 10 = valU r by omega, ← e]
        congr 2
        apply UInt8.toNat.inj
        rw [dig_nat (Nat.mod_lt _ (by decide : 0 < 10))]; omega

theorem lit_step {c d : UInt8} {r : List UInt8} : litU (c :: d :: r) = if c = 34 then some ([], d :: r)
    else if c = 92 then
      (if d = 34 ∨ d = 92 then (litU r).map (fun x => (d :: x.1, x.2)) else if d = 110 then (litU r).map (fun x => (10 :: x.1, x.2)) else none)
    else if 32 ≤ c.toNat ∧ c.toNat ≤ 126 then (litU (d :: r)).map (fun x => (c :: x.1, x.2)) else none := by rw [litU]
theorem lit_end (r : List UInt8) : litU (34 :: r) = some ([], r) := by
  cases r with
  | nil => rfl
  | cons d r => rw [lit_step, if_pos rfl]
theorem lit_inv : ∀ (n : Nat) (l t r : List UInt8), l.length ≤ n → litU l = some (t, r) → l = t.flatMap escU ++ 34 :: r ∧ t.all visB = true
  | 0, l, t, r, hn, h => by
    obtain rfl : l = [] := List.eq_nil_of_length_eq_zero (by omega)
    cases h
  | n + 1, l, t, r, hn, h => by
    match l with
    | [] => cases h
    | [c] =>
      unfold litU at h
      by_cases hc : c = 34
      · rw [if_pos hc] at h; cases h; subst hc; exact ⟨rfl, rfl⟩
      · rw [if_neg hc] at h; cases h
    | c :: d :: q =>
      rw [lit_step] at h
      have map_some : ∀ {x : Option (List UInt8 × List UInt8)} {b : UInt8}, x.map (fun y => (b :: y.1, y.2)) = some (t, r) → ∃ t', x = some (t', r) ∧ t = b :: t' := fun {x b} e => by
        cases x with
        | none => cases e
        | some y => obtain ⟨y1, y2⟩ := y; cases e; exact ⟨y1, rfl, rfl⟩
      by_cases h1 : c = 34
      · rw [if_pos h1] at h; cases h; subst h1; exact ⟨rfl, rfl⟩
      · rw [if_neg h1] at h
        by_cases h2 : c = 92
        · rw [if_pos h2] at h
          subst h2
          by_cases h3 : d = 34 ∨ d = 92
          · rw [if_pos h3] at h
            obtain ⟨t', e, rfl⟩ := map_some h
            obtain ⟨e1, e2⟩ := lit_inv n q t' r (by simp at hn; omega) e
            refine ⟨?_, ?_⟩
            · rw [List.flatMap_cons, List.append_assoc, ← e1]
              rcases h3 with rfl | rfl <;> rfl
            · rw [List.all_cons, e2]
              rcases h3 with rfl | rfl <;> decide
          · rw [if_neg h3] at h
            by_cases h4 : d = 110
            · rw [if_pos h4] at h
              obtain ⟨t', e, rfl⟩ := map_some h
              obtain ⟨e1, e2⟩ := lit_inv n q t' r (by simp at hn; omega) e
              subst h4
              exact ⟨by rw [List.flatMap_cons, List.append_assoc, ← e1]; rfl, by rw [List.all_cons, e2]; decide⟩
            · rw [if_neg h4] at h; cases h
        · rw [if_neg h2] at h
          by_cases h5 : 32 ≤ c.toNat ∧ c.toNat ≤ 126
          · rw [if_pos h5] at h
            obtain ⟨t', e, rfl⟩ := map_some h
            obtain ⟨e1, e2⟩ := lit_inv n (d :: q) t' r (by simp at hn ⊢; omega) e
            have h10 : c ≠ 10 := fun e => by subst e; exact absurd h5.1 (by decide)
            refine ⟨?_, ?_⟩
            · rw [List.flatMap_cons, List.append_assoc, ← e1]
              unfold escU
              rw [if_neg (by simpa using h10), if_neg (by simp [h1, h2])]
              rfl
            · rw [List.all_cons, e2, Bool.and_true]
              unfold visB
              simp [h5]
          · rw [if_neg h5] at h; cases h
theorem unq_inv {l t : List UInt8} (h : unqU l = some t) : l = 34 :: (t.flatMap escU ++ [34]) ∧ t.all visB = true ∧ t.length ≤ 16384 := by
  cases l with
  | nil => cases h
  | cons c r =>
    replace h : (if c = 34 then (match litU r with
      | some (t, []) => if t.length ≤ 16384 then some t else none
      | _ => none) else none) = some t := h
    by_cases hc : c = 34
    · rw [if_pos hc] at h
      cases hl : litU r with
      | none => rw [hl] at h; cases h
      | some x =>
        obtain ⟨x1, x2⟩ := x
        rw [hl] at h
        cases x2 with
        | cons _ _ => cases h
        | nil =>
          replace h : (if x1.length ≤ 16384 then some x1 else none) = some t := h
          by_cases hx : x1.length ≤ 16384
          · rw [if_pos hx] at h
            cases h
            obtain ⟨e1, e2⟩ := lit_inv _ r t [] (Nat.le_refl _) hl
            exact ⟨by rw [hc, e1], e2, hx⟩
          · rw [if_neg hx] at h; cases h
    · rw [if_neg hc] at h; cases h
end Go.Proofs.YtidffjlpldalpaaGreatDoor

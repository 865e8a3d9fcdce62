/- The state while a text is read: texts, functions and codes are owned; their blocks lie apart. Plain lists: cutting a list of bytes at each instance of one byte, and the library's words for it. The text of a program, read: a plain parser, line by line; the program's look at a line and the reference's are one. -/
import Derived.Test.YtidffjlpldalpaaGreatDoorP21
import Derived.Test.YtidffjlpldalpaaGreatDoorP17
import Derived.Lib.Split
import Derived.Lib.SplitLaws
set_option linter.unusedVariables false
set_option linter.unusedSimpArgs false
namespace Go.Proofs.YtidffjlpldalpaaGreatDoor
open Go Go.RowKit

theorem owns_set {V : World} {B : Nat} {e : TypeId} {s n : Nat} {g c : Nat} {xs : List Value} (h : V.ownsRow B e s (.slice (some ⟨g, 0, none⟩) n c) n xs) (i : Nat) (u : Value) : (V.setCell ⟨g, i, none⟩ u).ownsRow B e s (.slice (some ⟨g, 0, none⟩) n c) n (xs.set i u) := by
  obtain ⟨h1, h2⟩ := h
  refine ⟨by rw [List.length_set]; exact h1, ?_⟩
  rcases h2 with ⟨h2, _⟩ | ⟨g', cap, cur, hv, hb, hh, hn, hc, hs, ht⟩
  · cases h2
  · injection hv with ha _ hcap
    injection ha with ha
    injection ha with hg _ _
    subst hg
    subst hcap
    exact .inr ⟨_, _, _, rfl, hb, heap_set_same hh u, hn, hc, by simp [hs], by rw [Array.toList_setIfInBounds, List.take_set, ht]⟩
theorem owns_type {V : World} {B : Nat} {e : TypeId} {s n : Nat} {v : Value} {xs : List Value} (h : V.ownsRow B e s v n xs) (g : Nat) (hg : v.ownBlock = some g) : ∃ cur, V.heap[g]? = some (.cells cur e (0, 0)) := by
  obtain ⟨_, h2⟩ := h
  rcases h2 with ⟨rfl, _⟩ | ⟨g', cap, cur, rfl, hb, hh, _⟩
  · cases hg
  · cases hg; exact ⟨cur, hh⟩
theorem owns_apart {V : World} {B B' : Nat} {e e' : TypeId} {s s' n n' : Nat} {v v' : Value} {xs xs' : List Value} (h : V.ownsRow B e s v n xs) (h' : V.ownsRow B' e' s' v' n' xs') (hne : e ≠ e') (b : Nat) (hb : v.ownBlock = some b) : v'.ownBlock ≠ some b := fun hb' => by
  obtain ⟨c1, h1⟩ := owns_type h b hb
  obtain ⟨c2, h2⟩ := owns_type h' b hb'
  rw [h1] at h2
  injection h2 with h2
  injection h2 with _ h2 _
  exact hne h2
structure PSt (V : World) (B : Nat) (fv tv : Value) (fs : List FunD) (ts : List ByteArray) : Prop where
  fns : V.ownsRow B 48 4 fv fs.length (funCells fs)
  txt : V.ownsRow B 9 1 tv ts.length (strCells ts)
  code : ∀ f ∈ fs, V.ownsRow B 64 3 f.v f.code.length (insCells f.code)
  apart : fs.Pairwise fun f g => ∀ b, f.v.ownBlock = some b → g.v.ownBlock ≠ some b
theorem owns_low {V V' : World} {B : Nat} {e : TypeId} {s n : Nat} {v : Value} {xs : List Value} {r : Option Nat} (h : V.ownsRow B e s v n xs) (hg : V.grownBy V' r) (hr : ∀ k, r = some k → k < B) : V'.ownsRow B e s v n xs :=
  owns_grown h hg fun k hk e => by have := (owns_lt h k e).1; have := hr k hk; omega
theorem PSt.grown {V V' : World} {B : Nat} {fv tv : Value} {fs : List FunD} {ts : List ByteArray} {r : Option Nat} (h : PSt V B fv tv fs ts) (hg : V.grownBy V' r) (hr : ∀ k, r = some k → k < B) : PSt V' B fv tv fs ts :=
  ⟨owns_low h.fns hg hr, owns_low h.txt hg hr, fun f hf => owns_low (h.code f hf) hg hr, h.apart⟩
theorem PSt.nil (V : World) (B : Nat) : PSt V B (.slice none 0 0) (.slice none 0 0) [] [] :=
  ⟨⟨rfl, .inl ⟨rfl, rfl⟩⟩, ⟨rfl, .inl ⟨rfl, rfl⟩⟩, fun f hf => (by cases hf), .nil⟩
/-- One more text. -/
theorem PSt.text {V V' : World} {B : Nat} {fv tv : Value} {fs : List FunD} {ts : List ByteArray} (h : PSt V B fv tv fs ts) (s : ByteArray) {g cap n : Nat} (hn : ts.length = n)
    (ho : V'.ownsRow B 9 1 (.slice (some ⟨g, 0, none⟩) (n + 1) cap) (n + 1) (strCells ts ++ [.string s])) (hg : V.grownBy V' tv.ownBlock) : PSt V' B fv (.slice (some ⟨g, 0, none⟩) (n + 1) cap) fs (ts ++ [s]) := by
  subst hn
  refine ⟨owns_grown h.fns hg fun k hk e => owns_apart h.txt h.fns (by decide) k hk e, ?_, fun f hf => owns_grown (h.code f hf) hg fun k hk e => owns_apart h.txt (h.code f hf) (by decide) k hk e, h.apart⟩
  rw [show strCells (ts ++ [s]) = strCells ts ++ [.string s] by simp [strCells], List.length_append]
  exact ho
/-- One more function. -/
theorem PSt.fn {V V' : World} {B : Nat} {fv tv : Value} {fs : List FunD} {ts : List ByteArray} (h : PSt V B fv tv fs ts) (c l d : Int) {g cap n : Nat} (hn : fs.length = n)
    (ho : V'.ownsRow B 48 4 (.slice (some ⟨g, 0, none⟩) (n + 1) cap) (n + 1) (funCells fs ++ [.int .i64 c, .int .i64 l, .int .i64 d, .slice none 0 0])) (hg : V.grownBy V' fv.ownBlock) : PSt V' B (.slice (some ⟨g, 0, none⟩) (n + 1) cap) tv (fs ++ [⟨c, l, d, .slice none 0 0, []⟩]) ts := by
  subst hn
  refine ⟨?_, owns_grown h.txt hg fun k hk e => owns_apart h.fns h.txt (by decide) k hk e, fun f hf => ?_, ?_⟩
  · rw [funCells_app, List.length_append]; exact ho
  · rcases List.mem_append.1 hf with hf | hf
    · exact owns_grown (h.code f hf) hg fun k hk e => owns_apart h.fns (h.code f hf) (by decide) k hk e
    · obtain rfl : f = _ := by simpa using hf
      exact ⟨rfl, .inl ⟨rfl, rfl⟩⟩
  · refine List.pairwise_append.2 ⟨h.apart, List.pairwise_singleton _ _, fun f _ g hg b _ => ?_⟩
    obtain rfl : g = _ := by simpa using hg
    nofun
theorem funCells_set (fs : List FunD) (f : FunD) (v : Value) {k : Nat} (hk : fs.length = k) (is : List Ins) : (funCells (fs ++ [f])).set (k * 4 + 3) v = funCells (fs ++ [⟨f.c, f.l, f.d, v, is⟩]) := by
  subst hk
  have hl : ∀ l : List FunD, (funCells l).length = l.length * 4 := fun l => by
    induction l with
    | nil => rfl
    | cons a l ih => simp [funCells] at ih ⊢; omega
  rw [funCells_app, funCells_app, List.set_append_right _ _ (by rw [hl]; omega), hl, show fs.length * 4 + 3 - fs.length * 4 = 3 by omega]
  rfl
/-- One more instruction of the last function: its code has grown, and the function's cell is set. -/
theorem PSt.ins {V V' : World} {B : Nat} {tv : Value} {fs : List FunD} {f : FunD} {ts : List ByteArray} {fb fn fc : Nat} (h : PSt V B (.slice (some ⟨fb, 0, none⟩) fn fc) tv (fs ++ [f]) ts) (i : Ins) {g cap n k H : Nat} (hn : f.code.length = n) (hk : fs.length = k) (hH : V.heap.size = H)
    (ho : V'.ownsRow B 64 3 (.slice (some ⟨g, 0, none⟩) (n + 1) cap) (n + 1) (insCells f.code ++ [.int .i64 i.op, .int .i64 i.a, .int .i64 i.b])) (hg : V.grownBy V' f.v.ownBlock) (hat : f.v.ownBlock = some g ∨ g = H) :
    PSt (V'.setCell ⟨fb, k * 4 + 3, none⟩ (.slice (some ⟨g, 0, none⟩) (n + 1) cap)) B (.slice (some ⟨fb, 0, none⟩) fn fc) tv (fs ++ [⟨f.c, f.l, f.d, .slice (some ⟨g, 0, none⟩) (n + 1) cap, f.code ++ [i]⟩]) ts := by
  subst hn hH
  have hf : f ∈ fs ++ [f] := by simp
  have hfn : fn = (fs ++ [f]).length := by
    obtain ⟨_, h2⟩ := h.fns
    rcases h2 with ⟨h2, _⟩ | ⟨_, _, _, hv, _⟩
    · cases h2
    · injection hv
  have hff : V'.ownsRow B 48 4 (.slice (some ⟨fb, 0, none⟩) fn fc) (fs ++ [f]).length (funCells (fs ++ [f])) := owns_grown h.fns hg fun q hq e => owns_apart (h.code f hf) h.fns (by decide) q hq e
  have hset := grown_set V' fb (k * 4 + 3) (.slice (some ⟨g, 0, none⟩) (f.code.length + 1) cap)
  have hfe : (Value.slice (some ⟨fb, 0, none⟩) fn fc).ownBlock = some fb := rfl
  have hap := List.pairwise_append.1 h.apart
  refine ⟨?_, ?_, fun x hx => ?_, ?_⟩
  · have := owns_set (by rw [← hfn] at hff; exact hff) (k * 4 + 3) (.slice (some ⟨g, 0, none⟩) (f.code.length + 1) cap)
    rw [funCells_set fs f _ hk (f.code ++ [i])] at this
    rw [show (fs ++ [(⟨f.c, f.l, f.d, .slice (some ⟨g, 0, none⟩) (f.code.length + 1) cap, f.code ++ [i]⟩ : FunD)]).length = fn by rw [hfn]; simp]
    exact this
  · have ht : V'.ownsRow B 9 1 tv ts.length (strCells ts) := owns_grown h.txt hg fun q hq e => owns_apart (h.code f hf) h.txt (by decide) q hq e
    exact owns_grown ht hset fun q hq e => by cases hq; exact owns_apart hff ht (by decide) fb hfe e
  · rcases List.mem_append.1 hx with hx | hx
    · have hc := h.code x (List.mem_append_left _ hx)
      have hxx : V'.ownsRow B 64 3 x.v x.code.length (insCells x.code) := owns_grown hc hg fun q hq e => hap.2.2 x hx f (by simp) q e hq
      exact owns_grown hxx hset fun q hq e => by cases hq; exact owns_apart hff hxx (by decide) fb hfe e
    · obtain rfl : x = _ := by simpa using hx
      refine owns_grown (r := some fb) ?_ hset fun q hq e => by cases hq; exact owns_apart hff ho (by decide) fb hfe e
      show World.ownsRow _ _ _ _ _ (f.code ++ [i]).length (insCells (f.code ++ [i]))
      rw [insCells_app, List.length_append]; exact ho
  · refine List.pairwise_append.2 ⟨hap.1, List.pairwise_singleton _ _, fun x hx y hy b hb e => ?_⟩
    obtain rfl : y = _ := by simpa using hy
    cases e
    have hlt := (owns_lt (h.code x (List.mem_append_left _ hx)) g hb).2
    rcases hat with h1 | h1
    · exact hap.2.2 x hx f (by simp) g hb h1
    · omega
/-- What was read is a program. -/
theorem PSt.prog {V : World} {B : Nat} {fv tv : Value} {fs : List FunD} {ts : List ByteArray} (h : PSt V B fv tv fs ts) (main : Int) : IsProg V fv tv ⟨fs, ts, main⟩ :=
  ⟨⟨isRow_owns h.fns, fun f hf => isRow_owns (h.code f hf)⟩, isRow_owns h.txt⟩
end Go.Proofs.YtidffjlpldalpaaGreatDoor
namespace Go.Proofs.YtidffjlpldalpaaGreatDoor
open Go

/-- A list cut at each instance of c. -/
def spl (c : UInt8) : List UInt8 → List (List UInt8)
  | [] => [[]]
  | b :: l => if b = c then [] :: spl c l else (b :: (spl c l).headD []) :: (spl c l).tail

theorem spl_ne (c : UInt8) (l : List UInt8) : spl c l ≠ [] := by
  cases l with
  | nil => simp [spl]
  | cons b l => unfold spl; split <;> simp
theorem spl_none (c : UInt8) : ∀ l : List UInt8, c ∉ l → spl c l = [l]
  | [], _ => rfl
  | b :: l, h => by
    have h1 : b ≠ c := fun e => h (by simp [e])
    have h2 : c ∉ l := fun e => h (by simp [e])
    unfold spl
    rw [if_neg h1, spl_none c l h2]; rfl
theorem spl_hit (c : UInt8) : ∀ (p r : List UInt8), c ∉ p → spl c (p ++ c :: r) = p :: spl c r
  | [], r, _ => by simp [spl]
  | b :: p, r, h => by
    have h1 : b ≠ c := fun e => h (by simp [e])
    have h2 : c ∉ p := fun e => h (by simp [e])
    rw [List.cons_append, spl, if_neg h1, spl_hit c p r h2]; rfl
theorem indexByte_hit (c : UInt8) : ∀ (p r : List UInt8), c ∉ p → Lib.indexByte (p ++ c :: r) c = p.length
  | [], r, _ => by simp [Lib.indexByte]
  | b :: p, r, h => by
    have h1 : b ≠ c := fun e => h (by simp [e])
    have h2 : c ∉ p := fun e => h (by simp [e])
    rw [List.cons_append]; unfold Lib.indexByte
    rw [indexByte_hit c p r h2]
    simp [h1]
theorem split_at (c : UInt8) : ∀ l : List UInt8, c ∈ l → ∃ p r, l = p ++ c :: r ∧ c ∉ p
  | [], h => by simp at h
  | b :: l, h => by
    by_cases e : b = c
    · exact ⟨[], l, by simp [e], by simp⟩
    · obtain ⟨p, r, h1, h2⟩ := split_at c l (by simpa [Ne.symm e] using h)
      exact ⟨b :: p, r, by simp [h1], by simp [Ne.symm e, h2]⟩

theorem splitK_spl (c : UInt8) : ∀ (n : Nat) (l : List UInt8), l.count c = n → Lib.splitK [c] 0 n l = spl c l
  | 0, l, h => by
    have : c ∉ l := List.count_eq_zero.1 h
    rw [spl_none c l this]; rfl
  | n + 1, l, h => by
    have hm : c ∈ l := List.count_pos_iff.1 (by omega)
    obtain ⟨p, r, rfl, hp⟩ := split_at c l hm
    unfold Lib.splitK
    have hi : Lib.index (p ++ c :: r) [c] = p.length := by rw [Lib.index_one, indexByte_hit c p r hp]
    rw [hi, if_neg (by simp), spl_hit c p r hp]
    have hr : r.count c = n := by
      have : p.count c = 0 := List.count_eq_zero.2 hp
      simp [List.count_append, this] at h; exact h
    have e : (p ++ c :: r).drop ((p.length : Int).toNat + [c].length) = r := by simp [List.drop_append, List.drop_eq_nil_of_le]
    rw [e, splitK_spl c n r hr]
    simp

theorem splitB_small (sep : ByteArray) (N : Nat) : ∀ (k : Nat) (s : ByteArray), s.size ≤ N → ∀ x ∈ Lib.splitB sep 0 k s, x.size ≤ N
  | 0, s, h, x, hx => by simp [Lib.splitB] at hx; rw [hx]; exact h
  | k + 1, s, h, x, hx => by
    unfold Lib.splitB at hx
    split at hx
    · simp at hx; rw [hx]; exact h
    · rcases List.mem_cons.1 hx with rfl | hx
      · simp; omega
      · exact splitB_small sep N k _ (by simp; omega) x hx
end Go.Proofs.YtidffjlpldalpaaGreatDoor
namespace Go.Proofs.YtidffjlpldalpaaGreatDoor
open Go Go.RowKit

/-- What stands behind an opening quote: the text, and what follows the closing quote. -/
def litU : List UInt8 → Option (List UInt8 × List UInt8)
  | [] => none
  | [c] => if c = 34 then some ([], []) else none
  | c :: d :: r =>
    if c = 34 then some ([], d :: r)
    else if c = 92 then
      (if d = 34 ∨ d = 92 then (litU r).map (fun x => (d :: x.1, x.2)) else if d = 110 then (litU r).map (fun x => (10 :: x.1, x.2)) else none)
    else if 32 ≤ c.toNat ∧ c.toNat ≤ 126 then (litU (d :: r)).map (fun x => (c :: x.1, x.2)) else none
/-- The text of a literal. -/
def unqU : List UInt8 → Option (List UInt8)
  | [] => none
  | c :: r => if c = 34 then (match litU r with
    | some (t, []) => if t.length ≤ 16384 then some t else none
    | _ => none) else none
def digU (c : UInt8) : Bool := decide (48 ≤ c.toNat) && decide (c.toNat ≤ 57)
def valU (l : List UInt8) : Nat := l.foldl (fun n c => n * 10 + (c.toNat - 48)) 0
/-- The number that is written with digits alone. -/
def natU (l : List UInt8) : Option Nat :=
  if l = [] then none else if l.all digU = false then none else if 1 < l.length ∧ l.headD 0 = 48 then none else if valU l ≤ 4503599627370496 then some (valU l) else none
def intU : List UInt8 → Option Int
  | [] => none
  | c :: r => if c = 45 then (match natU r with
    | some n => if n = 0 then none else some (-(n : Int))
    | none => none) else (match natU (c :: r) with
    | some n => some (n : Int)
    | none => none)
def numsU : List (List UInt8) → Option (List Int)
  | [] => some []
  | x :: r => match intU x with
    | none => none
    | some n => (numsU r).map (fun l => n :: l)
/-- What a line says. -/
inductive LineK where
  | main (n : Int)
  | text (s : List UInt8)
  | fn (c l d : Int)
  | ins (i : Ins)
  | bad
  deriving DecidableEq
def wMain : List UInt8 := [109, 97, 105, 110]
def wString : List UInt8 := [115, 116, 114, 105, 110, 103]
def wFun : List UInt8 := [102, 117, 110]
/-- The instruction with a word; 0: there is none. -/
def opU (w : List UInt8) : Int := match (List.range 16).find? fun k : Nat => (wordS ((k : Int) + 1)).data.toList == w with
  | some k => (k : Int) + 1
  | none => 0
def insU' (op : Int) (l : Option (List Int)) : LineK := match l with
  | none => .bad
  | some l => if (l.length : Int) = opnds op then .ins ⟨op, l.getD 0 0, l.getD 1 0⟩ else .bad
def mainU' : Option (List Int) → LineK
  | some [n] => .main n
  | _ => .bad
def funU' : Option (List Int) → LineK
  | some [c, l, d] => .fn c l d
  | _ => .bad
/-- The program's look at a line. -/
def lineP (first : Bool) (x : List UInt8) : LineK :=
  if first = true then (if (wMain ++ [32]).isPrefixOf x = true then mainU' (numsU (spl 32 x).tail) else .bad)
  else if (wString ++ [32]).isPrefixOf x = true then (match unqU (x.drop 7) with | some t => .text t | none => .bad)
  else if (wFun ++ [32]).isPrefixOf x = true then funU' (numsU (spl 32 x).tail)
  else if opU ((spl 32 x).headD []) = 0 then .bad else insU' (opU ((spl 32 x).headD [])) (numsU (spl 32 x).tail)
theorem spl_two (x : List UInt8) : (32 ∉ x ∧ spl 32 x = [x]) ∨ ∃ w r, x = w ++ 32 :: r ∧ 32 ∉ w ∧ spl 32 x = w :: spl 32 r := by
  by_cases h : (32 : UInt8) ∈ x
  · obtain ⟨p, r, e, hp⟩ := split_at 32 x h
    exact .inr ⟨p, r, e, hp, by rw [e]; exact spl_hit 32 p r hp⟩
  · exact .inl ⟨h, spl_none 32 x h⟩
theorem prefix_word {k w r : List UInt8} (hk : 32 ∉ k) (hw : 32 ∉ w) : (k ++ [32]).isPrefixOf (w ++ 32 :: r) = decide (w = k) := by
  induction k generalizing w with
  | nil =>
    cases w with
    | nil => rfl
    | cons b w =>
      have hb : (32 : UInt8) ≠ b := fun e => hw (by simp [e])
      simp [List.isPrefixOf, hb]
  | cons a k ih =>
    have ha : a ≠ 32 := fun e => hk (by simp [e])
    have hk' : 32 ∉ k := fun h => hk (by simp [h])
    cases w with
    | nil => simp [List.isPrefixOf, ha]
    | cons b w =>
      have hw' : 32 ∉ w := fun h => hw (by simp [h])
      have := ih hk' hw'
      simp only [List.cons_append, List.isPrefixOf]
      rw [this]
      by_cases e : a = b
      · subst e; simp
      · have e' : b ≠ a := fun h => e h.symm
        simp [e, e']
theorem prefix_none {k x : List UInt8} (hx : 32 ∉ x) : (k ++ [32]).isPrefixOf x = false := by
  rw [Bool.eq_false_iff]
  intro h
  have := List.isPrefixOf_iff_prefix.1 h
  obtain ⟨t, e⟩ := this
  exact hx (by rw [← e]; simp)
/-- One more line. -/
def stepT (p : ProgS) : LineK → Option ProgS
  | .main n => some ⟨p.funs, p.texts, n⟩
  | .text s => if p.funs = [] then some ⟨p.funs, p.texts ++ [⟨s.toArray⟩], p.main⟩ else none
  | .fn c l d => some ⟨p.funs ++ [⟨c, l, d, []⟩], p.texts, p.main⟩
  | .ins i => match p.funs.getLast? with
    | none => none
    | some f => some ⟨p.funs.dropLast ++ [⟨f.c, f.l, f.d, f.code ++ [i]⟩], p.texts, p.main⟩
  | .bad => none
def foldT (first : Bool) (p : ProgS) : List (List UInt8) → Option ProgS
  | [] => some p
  | x :: r => match stepT p (lineP first x) with
    | none => none
    | some q => foldT false q r
/-- The program of a text, valid or not. -/
def readT (s : List UInt8) : Option ProgS :=
  if s.getLast? = some 10 then foldT true ⟨[], [], 0⟩ (spl 10 s.dropLast) else none
end Go.Proofs.YtidffjlpldalpaaGreatDoor

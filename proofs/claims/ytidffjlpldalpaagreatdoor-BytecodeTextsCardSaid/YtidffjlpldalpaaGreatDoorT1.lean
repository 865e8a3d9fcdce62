/- Effect of an instruction: the program's and the reference's. Rows of cells as lists; Targets of an instruction: the program's and the reference's. The reference's Word and Targets. The reference's Targets. Words of the program; right. The program that yields 7. -/
import Derived.Test.YtidffjlpldalpaaGreatDoorProg
import Derived.WalkKit
import Derived.WalkLawsBesides
import Derived.WalkSpells
import Derived.Outline
import Derived.BigQuiet
import Derived.Deep.QuietTactic
import Derived.Lib.Hide
import Derived.StillTailTactics
import Derived.Deep.WholeRow
set_option linter.unusedVariables false
set_option linter.unusedSimpArgs false
namespace Go.Proofs.YtidffjlpldalpaaGreatDoor
open Go Go.RowKit

theorem ret_int {k : IntKind} {a b : Int} (h : a = b) : Ending.returned (.int k a) = .returned (.int k b) := by rw [h]
theorem ret_bool {a b : Bool} (h : a = b) : Ending.returned (.bool a) = .returned (.bool b) := by rw [h]
theorem bdrewN {B : Nat} {a w : World} (h : Below B a w) (n : Nat) : Below B a (w.drewN n) := h.trans ⟨rfl, rfl, rfl, Nat.le_refl _, fun _ _ => rfl⟩

def inB (n a b : Int) : Bool := decide (a ≤ n) && decide (n ≤ b)
theorem within_any (n a b : Int) (w : World) :
    Calls Tryz.prog 30 #[.int .i64 n, .int .i64 a, .int .i64 b] w fun e w' => e = .returned (.bool (inB n a b)) ∧ w = w' := by
  go_enter Tryz.func30, Tryz.ntmps30
  go_wp2
  all_goals
    go_ret
    refine ⟨ret_bool ?_, rfl⟩
    simp [inB] <;> omega
theorem in_any (n a b : Int) (w : World) :
    Calls Tryz.prog 27 #[.int .i64 n, .int .i64 a, .int .i64 b] w fun e w' => e = .returned (.bool (inB n a b)) ∧ w = w' := by
  go_enter Tryz.func27, Tryz.ntmps27
  go_wp2
  all_goals
    go_ret
    refine ⟨ret_bool ?_, rfl⟩
    simp [inB] <;> omega
def knownB (op : Int) : Bool := inB op 1 16
theorem known_any (n : Int) (w : World) :
    Calls Tryz.prog 58 #[.int .i64 n] w fun e w' => e = .returned (.bool (knownB n)) ∧ w = w' := by
  go_enter Tryz.func58, Tryz.ntmps58
  go_wp2_with fail
  refine (within_any _ _ _ _).mono ?_
  rintro e w' ⟨rfl, rfl⟩
  go_wp2_with fail
  go_ret
  exact ⟨rfl, rfl⟩

def ref46_arity (n : Int) : Int := if n = 6 ∨ n = 11 ∨ n = 13 ∨ n = 14 then 1 else if 1 ≤ n ∧ n ≤ 14 then 2 else 0
theorem arity_any (n : Int) (w : World) :
    Calls Tryz.prog 56 #[.int .i64 n] w fun e w' => e = .returned (.int .i64 (ref46_arity n)) ∧ w = w' := by
  go_enter Tryz.func56, Tryz.ntmps56
  go_wp2
  all_goals
    go_ret
    refine ⟨ret_int ?_, rfl⟩
    simp only [beq_iff_eq, beq_eq_false_iff_ne, ne_eq] at *
    unfold ref46_arity
    repeat' split
    all_goals omega

theorem op_cases (op : Int) : op = 1 ∨ op = 2 ∨ op = 3 ∨ op = 4 ∨ op = 5 ∨ op = 6 ∨ op = 7 ∨ op = 8 ∨ op = 9 ∨ op = 10 ∨ op = 11 ∨ op = 12 ∨ op = 13 ∨ op = 14 ∨ op = 15 ∨ op = 16 ∨ (op < 1 ∨ 16 < op) := by omega
theorem arity_pos (a : Int) : (1 ≤ ref46_arity a ∧ ref46_arity a ≤ 2) ↔ inB a 1 14 = true := by
  unfold ref46_arity inB
  simp only [Bool.and_eq_true, decide_eq_true_eq]
  repeat' split
  all_goals omega

theorem arity_val (a : Int) : (inB a 1 14 = true → (ref46_arity a == 0) = false ∧ inB (ref46_arity a) 0 1000 = true) ∧ (inB a 1 14 = false → ref46_arity a = 0) := by
  unfold inB
  constructor
  · intro h
    have := (arity_pos a).2 (by unfold inB; exact h)
    constructor
    · simp; omega
    · simp; omega
  · intro h
    rcases Decidable.em (1 ≤ ref46_arity a ∧ ref46_arity a ≤ 2) with h2 | h2
    · have := (arity_pos a).1 h2; unfold inB at this; rw [this] at h; cases h
    · unfold ref46_arity at h2 ⊢
      repeat' split
      all_goals simp_all

/-- A slice whose elements' cells, one behind the other, are xs. -/
def IsRow (w : World) (v : Value) (len : Nat) (xs : List Value) : Prop :=
  ∃ (a : Option Addr) (c : Nat), v = .slice a len c ∧ len ≤ c ∧ (0 < len → ∃ b off, a = some ⟨b, off, none⟩ ∧ b < w.heap.size ∧ ∀ j, j < xs.length → w.cell? ⟨b, off + j, none⟩ = some (xs.getD j undef))
theorem IsRow.below {w w' : World} {v : Value} {n : Nat} {xs : List Value} (h : IsRow w v n xs) (hb : Below w.heap.size w w') : IsRow w' v n xs := by
  obtain ⟨a, c, hv, hlc, hl⟩ := h
  refine ⟨a, c, hv, hlc, fun hne => ?_⟩
  obtain ⟨b, off, ha, hlt, hc⟩ := hl hne
  exact ⟨b, off, ha, by have := hb.size; omega, fun j hj => by rw [hb.cell (p := ⟨b, off + j, none⟩) hlt]; exact hc j hj⟩
theorem isRow_nil (w : World) : IsRow w (.slice none 0 0) 0 [] := ⟨none, 0, rfl, Nat.le_refl _, fun h => absurd h (Nat.not_lt_zero _)⟩
theorem cell_new (w : World) (cs : Array Value) (t : TypeId) (j : Nat) : (w.alloc (.cells cs t)).cell? ⟨w.heap.size, j, none⟩ = cs[j]? := by
  simp [World.cell?, World.alloc, -World.alloc_eq]
theorem isRow_alloc (w : World) (n : Nat) (xs : List Value) (t : TypeId) : IsRow (w.alloc (.cells xs.toArray t)) (.slice (some ⟨w.heap.size, 0, none⟩) n n) n xs := by
  refine ⟨_, _, rfl, Nat.le_refl _, fun _ => ⟨w.heap.size, 0, rfl, by simp, fun j hj => ?_⟩⟩
  rw [Nat.zero_add, cell_new]
  simp [List.getD, hj]
theorem isRow_owns {w : World} {base : Nat} {v : Value} {n : Nat} {xs : List Value} {e : TypeId} {size : Nat} (h : w.ownsRow base e size v n xs) : IsRow w v n xs := by
  obtain ⟨h1, h2⟩ := h
  rcases h2 with ⟨rfl, h0⟩ | ⟨g, cap, cur, rfl, hg, hh, hn, hm, hsz, htk⟩
  · subst h0
    exact ⟨none, 0, rfl, Nat.le_refl _, fun h => absurd h (Nat.not_lt_zero _)⟩
  · refine ⟨_, cap, rfl, hn, fun _ => ⟨g, 0, rfl, ?_, fun j hj => ?_⟩⟩
    · rcases Nat.lt_or_ge g w.heap.size with h' | h'
      · exact h'
      · rw [Array.getElem?_eq_none h'] at hh; cases hh
    · have e1 : cur.toList[j]? = some (xs.getD j undef) := by
        have : (cur.toList.take (n * size))[j]? = xs[j]? := by rw [htk]
        rw [List.getElem?_take, if_pos (by omega)] at this
        rw [this]; simp [List.getD, hj]
      simp only [World.cell?, hh, Nat.zero_add]
      simpa using e1
theorem own_ge {w : World} {base : Nat} {e : TypeId} {size : Nat} {v : Value} {n : Nat} {xs : List Value} (h : w.ownsRow base e size v n xs) {g : Nat} (hg : v.ownBlock = some g) : base ≤ g := by
  obtain ⟨_, h2⟩ := h
  rcases h2 with ⟨rfl, _⟩ | ⟨g', cap, cur, rfl, hb, _⟩
  · cases hg
  · cases hg; exact hb

def ints (l : List Int) : List Value := l.map (Value.int .i64)
structure Ins where
  op : Int
  a : Int
  b : Int
  deriving DecidableEq, Inhabited
def insCells (l : List Ins) : List Value := l.flatMap fun i => [.int .i64 i.op, .int .i64 i.a, .int .i64 i.b]
theorem insCells_length (l : List Ins) : (insCells l).length = l.length * 3 := by
  induction l with
  | nil => rfl
  | cons x l ih => simp [insCells] at ih ⊢; omega
theorem insCells_at : ∀ (l : List Ins) (k : Nat), k < l.length → (insCells l).getD (k * 3) undef = .int .i64 (l.getD k default).op ∧ (insCells l).getD (k * 3 + 1) undef = .int .i64 (l.getD k default).a ∧ (insCells l).getD (k * 3 + 2) undef = .int .i64 (l.getD k default).b
  | [], k, h => by simp at h
  | x :: l, 0, _ => by simp [insCells]
  | x :: l, k + 1, h => by
    have ih := insCells_at l k (by simpa using h)
    have e : insCells (x :: l) = [.int .i64 x.op, .int .i64 x.a, .int .i64 x.b] ++ insCells l := rfl
    have g : ∀ j, (insCells (x :: l)).getD (j + 3) undef = (insCells l).getD j undef := fun j => by
      rw [e]; simp [List.getD]
    have e1 : (k + 1) * 3 = k * 3 + 3 := by omega
    refine ⟨?_, ?_, ?_⟩
    · rw [e1, g]; exact ih.1
    · rw [show (k + 1) * 3 + 1 = k * 3 + 1 + 3 by omega, g]; exact ih.2.1
    · rw [show (k + 1) * 3 + 2 = k * 3 + 2 + 3 by omega, g]; exact ih.2.2

/-- The code of a function reads as instructions. -/
def IsCode (w : World) (v : Value) (l : List Ins) : Prop := IsRow w v l.length (insCells l)

theorem any_next {α : Type} (d : α) (l : List α) (p : α → Bool) (k : Nat) (h : k < l.length) (hn : (l.take k).any p = false) (hf : p (l.getD k d) = false) : (l.take (k + 1)).any p = false := by
  rw [List.take_succ_eq_append_getElem h, List.any_append, hn]
  simp [List.getD, h] at hf
  simp [hf]
theorem any_hit {α : Type} (d : α) (l : List α) (p : α → Bool) (k : Nat) (h : k < l.length) (hp : p (l.getD k d) = true) : l.any p = true := by
  rw [List.any_eq_true]
  exact ⟨l.getD k d, by simp [List.getD, h], hp⟩
theorem ints_at (l : List Int) (k : Nat) (h : k < l.length) : (ints l).getD k undef = .int .i64 (l.getD k 0) := by simp [ints, List.getD, h]
theorem ints_length (l : List Int) : (ints l).length = l.length := by simp [ints]

theorem heap_two (w : World) (a b c : Obj) : (((w.alloc a).alloc b).alloc c).heap[w.heap.size]? = some a := by
  rw [Below.heap_alloc _ _ _ (by simp; omega), Below.heap_alloc _ _ _ (by simp)]
  simp [World.alloc, -World.alloc_eq]
theorem info_int : (Tryz.prog.info? 3).map (fun i => (i.zero, i.size, i.bytes)) = some (some (.int .i64 0), 1, 8) := by kernel_rfl

def wordL : List ByteArray := [⟨#[]⟩, ⟨#[105, 110, 116]⟩, ⟨#[116, 101, 120, 116]⟩, ⟨#[108, 111, 99, 97, 108]⟩, ⟨#[115, 116, 111, 114, 101]⟩, ⟨#[99, 97, 112, 116, 117, 114, 101]⟩, ⟨#[115, 101, 108, 102]⟩, ⟨#[99, 108, 111, 115, 117, 114, 101]⟩, ⟨#[99, 97, 108, 108]⟩, ⟨#[114, 101, 116, 117, 114, 110]⟩, ⟨#[98, 108, 111, 99, 107]⟩, ⟨#[102, 105, 101, 108, 100]⟩, ⟨#[116, 97, 103]⟩, ⟨#[115, 119, 105, 116, 99, 104]⟩, ⟨#[106, 117, 109, 112]⟩, ⟨#[112, 114, 105, 109]⟩, ⟨#[102, 97, 105, 108]⟩]
def wordS (op : Int) : ByteArray := if 1 ≤ op ∧ op ≤ 16 then wordL.getD op.toNat ByteArray.empty else ⟨#[]⟩
theorem known_word (op : Int) (h : knownB op = true) : (wordS op).toList.isEmpty = false := by
  have h2 : 1 ≤ op ∧ op ≤ 16 := by unfold knownB inB at h; simpa using h
  rcases op_cases op with rfl | rfl | rfl | rfl | rfl | rfl | rfl | rfl | rfl | rfl | rfl | rfl | rfl | rfl | rfl | rfl | h3
  all_goals first | (rw [Go.ByteArray.toList_eq]; rfl) | (exfalso; omega)
theorem unknown_word (op : Int) (h : knownB op = false) : wordS op = ⟨#[]⟩ := by
  unfold wordS
  rw [if_neg]
  intro h2
  unfold knownB inB at h
  simp [h2.1, h2.2] at h

theorem word_cell (w w' : World) (hw : w' = w.alloc (.cells (wordL.map Value.string).toArray 9)) (k : Nat) (h5 : k ≤ 16) : w'.cell? ⟨w.heap.size, k, none⟩ = some (.string (wordL.getD k ByteArray.empty)) := by
  rw [hw, cell_new]
  have : k < wordL.length := by show k < 17; omega
  simp [List.getD, this]
set_option maxRecDepth 100000 in
theorem word_any (op : Int) (w : World) :
    Calls Tryz.prog 37 #[.int .i64 op] w fun e w' => e = .returned (.string (wordS op)) ∧ Below w.heap.size w w' := by
  by_cases h : op < 1 ∨ 16 < op
  · have hw : Hid (wordS op = ⟨#[]⟩) := by show _ = _; unfold wordS; rw [if_neg (by omega)]
    rcases h with h | h
    all_goals
      go_enter Tryz.func37, Tryz.ntmps37
      go_wp2_with fail
      go_ret
      exact ⟨by rw [hw.out]; rfl, (Below.refl _ _).alloc (Nat.le_refl _) _⟩
  · obtain ⟨k, rfl⟩ := Int.eq_ofNat_of_zero_le (show 0 ≤ op by omega)
    have hk : k ≤ 16 := by omega
    have hk1 : 1 ≤ k := by omega
    have hw : Hid (wordS k = wordL.getD k ByteArray.empty) := by show _ = _; unfold wordS; rw [if_pos (by omega)]; rfl
    have hc := word_cell w _ rfl k hk
    simp only [wordL, List.map_cons, List.map_nil] at hc
    generalize hx : List.getD _ k ByteArray.empty = x at hc
    have Hx := Lib.hid hx
    clear h hx
    go_enter Tryz.func37, Tryz.ntmps37
    go_wp2_with fail
    go_ret
    refine ⟨?_, (Below.refl _ _).alloc (Nat.le_refl _) _⟩
    rw [hw.out, ← Hx.out]
    rfl
theorem new_heap (w : World) (o : Obj) : (w.alloc o).heap[w.heap.size]? = some o := by simp [World.alloc, -World.alloc_eq]

theorem wpList_build_by {P : Program} {ops : Array Oper} {rest : List Oper} {o : Oper} {a : Act} {w : World} {Q : Exit → Act → World → Prop} (hgd : o.guard = none) (t : TypeId) (parts : Array (Nat × Operand)) (ho : o.op = .build t parts)
    (ps : Array (Nat × Value)) (hp : (parts.map fun (i, x) => (i, a.eval x)) = ps) (v : Value) (hv : (Instr.build t ps).run P w = .ok v w) (h : wpList P ops Q rest (a.put o.dst v) w) : wpList P ops Q (o :: rest) a w := by
  refine wpList_plain hgd fun K hK => ?_
  unfold Oper.wp execOp
  simp only [ho, Sem.run_bind, Sem.run_pure, Result.andThen_ok, hp, hv]
  exact hK _ _ h
theorem wpList_store_new {P : Program} {ops : Array Oper} {rest : List Oper} {o : Oper} {a : Act} {Q : Exit → Act → World → Prop} (hgd : o.guard = none) (t : TypeId) (p x : Operand) (ho : o.op = .store t p x)
    (w : World) (c c' : Array Value) (hp : a.eval p = .pointer (some ⟨w.heap.size, 0, none⟩)) (hx : a.eval x = .agg c') (hi : (P.info? t).map (·.size) = some c'.size) (hs : c.size = c'.size) (h1 : c'.all (·.oneCell') = true)
    (h : wpList P ops Q rest (a.put o.dst undef) (w.alloc (.cells c' t))) : wpList P ops Q (o :: rest) a (w.alloc (.cells c t)) := by
  refine wpList_plain hgd fun K hK => ?_
  unfold Oper.wp execOp
  simp only [ho, Sem.run_bind, Sem.run_pure, hp, hx, run_storeAt_new (P := P) w t c c' hi hs h1, Result.andThen_ok]
  exact hK _ _ h

def wordsC : Array Value := #[.string ⟨#[]⟩, .int .i64 0, .string ⟨#[105, 110, 116]⟩, .int .i64 1, .string ⟨#[116, 101, 120, 116]⟩, .int .i64 1, .string ⟨#[108, 111, 99, 97, 108]⟩, .int .i64 1, .string ⟨#[115, 116, 111, 114, 101]⟩, .int .i64 1, .string ⟨#[99, 97, 112, 116, 117, 114, 101]⟩, .int .i64 1, .string ⟨#[115, 101, 108, 102]⟩, .int .i64 0, .string ⟨#[99, 108, 111, 115, 117, 114, 101]⟩, .int .i64 2, .string ⟨#[99, 97, 108, 108]⟩, .int .i64 0, .string ⟨#[114, 101, 116, 117, 114, 110]⟩, .int .i64 0, .string ⟨#[98, 108, 111, 99, 107]⟩, .int .i64 1, .string ⟨#[102, 105, 101, 108, 100]⟩, .int .i64 1, .string ⟨#[116, 97, 103]⟩, .int .i64 1, .string ⟨#[115, 119, 105, 116, 99, 104]⟩, .int .i64 2, .string ⟨#[106, 117, 109, 112]⟩, .int .i64 1, .string ⟨#[112, 114, 105, 109]⟩, .int .i64 1, .string ⟨#[102, 97, 105, 108]⟩, .int .i64 1]
def wordsP : Array (Nat × Value) := #[(1, .agg #[.string ⟨#[105, 110, 116]⟩, .int .i64 1]), (2, .agg #[.string ⟨#[116, 101, 120, 116]⟩, .int .i64 1]), (3, .agg #[.string ⟨#[108, 111, 99, 97, 108]⟩, .int .i64 1]), (4, .agg #[.string ⟨#[115, 116, 111, 114, 101]⟩, .int .i64 1]), (5, .agg #[.string ⟨#[99, 97, 112, 116, 117, 114, 101]⟩, .int .i64 1]), (6, .agg #[.string ⟨#[115, 101, 108, 102]⟩, .int .i64 0]), (7, .agg #[.string ⟨#[99, 108, 111, 115, 117, 114, 101]⟩, .int .i64 2]), (8, .agg #[.string ⟨#[99, 97, 108, 108]⟩, .int .i64 0]), (9, .agg #[.string ⟨#[114, 101, 116, 117, 114, 110]⟩, .int .i64 0]), (10, .agg #[.string ⟨#[98, 108, 111, 99, 107]⟩, .int .i64 1]), (11, .agg #[.string ⟨#[102, 105, 101, 108, 100]⟩, .int .i64 1]), (12, .agg #[.string ⟨#[116, 97, 103]⟩, .int .i64 1]), (13, .agg #[.string ⟨#[115, 119, 105, 116, 99, 104]⟩, .int .i64 2]), (14, .agg #[.string ⟨#[106, 117, 109, 112]⟩, .int .i64 1]), (15, .agg #[.string ⟨#[112, 114, 105, 109]⟩, .int .i64 1]), (16, .agg #[.string ⟨#[102, 97, 105, 108]⟩, .int .i64 1])]
theorem words_build (w : World) : (Instr.build 61 wordsP).run Tryz.prog w = .ok (.agg wordsC) w := by kernel_rfl
theorem words_info : (Tryz.prog.info? 61).map (·.size) = some wordsC.size := by kernel_rfl
theorem words_one : wordsC.all (·.oneCell') = true := by kernel_rfl
theorem words_under : Tryz.prog.underlying 61 = some (.array 17 60) := by kernel_rfl
theorem words_load (w : World) : (loadVar 61 ⟨w.heap.size, 0, none⟩).run Tryz.prog (w.alloc (.cells wordsC 61)) = .ok (.agg wordsC) (w.alloc (.cells wordsC 61)) := run_loadVar_new w 61 wordsC 17 60 words_under words_info
set_option maxRecDepth 100000 in
theorem words_any (w : World) :
    Calls Tryz.prog 24 #[] w fun e w' => e = .returned (.agg wordsC) ∧ Below w.heap.size w w' := by
  have hld := Lib.hid (words_load w)
  have hb : Below w.heap.size w (w.alloc (.cells wordsC 61)) := (Below.refl _ _).alloc (Nat.le_refl _) _
  go_enter Tryz.func24, Tryz.ntmps24
  go_wp2_with (first | (refine wpList_build_by rfl 61 _ rfl wordsP rfl (.agg wordsC) (words_build _) ?_) | (refine wpList_store_new rfl 61 _ _ rfl w _ wordsC rfl rfl words_info rfl words_one ?_))

  refine bodyPost_ret (v := .agg wordsC) ?_ rfl ⟨rfl, hb⟩
  exact results_cell_row rfl _ _ w.heap.size 61 wordsC (0, 0) _ rfl (new_heap w _) words_under rfl words_info

structure FunD where
  c : Int
  l : Int
  d : Int
  v : Value
  code : List Ins
  deriving Inhabited
def funCells (l : List FunD) : List Value := l.flatMap fun f => [.int .i64 f.c, .int .i64 f.l, .int .i64 f.d, f.v]
/-- The functions of a program read as a list. -/
def IsFuns (w : World) (v : Value) (l : List FunD) : Prop := IsRow w v l.length (funCells l) ∧ ∀ f ∈ l, IsCode w f.v f.code
theorem IsFuns.below {w w' : World} {v : Value} {l : List FunD} (h : IsFuns w v l) (hb : Below w.heap.size w w') : IsFuns w' v l :=
  ⟨h.1.below hb, fun f hf => (h.2 f hf).below hb⟩
/-- The functions of seven(). -/
def sevenF (v : Value) : FunD := ⟨0, 1, 1, v, [⟨1, 7, 0⟩, ⟨9, 0, 0⟩]⟩
def SevenOk (w : World) (e : Ending) (w' : World) : Prop := ∃ fv cv, e = .returned (.agg #[fv, .slice none 0 0, .int .i64 0]) ∧ IsFuns w' fv [sevenF cv] ∧ Below w.heap.size w w'
theorem isRow_alloc' (w : World) (n m : Nat) (xs : List Value) (t : TypeId) (hn : w.heap.size = n) : IsRow (w.alloc (.cells xs.toArray t)) (.slice (some ⟨n, 0, none⟩) m m) m xs := by subst hn; exact isRow_alloc w m xs t
theorem prog_info : (Tryz.prog.info? 25).map (·.size) = some 3 := by kernel_rfl
set_option maxRecDepth 100000 in
theorem seven_any (w : World) : Calls Tryz.prog 18 #[] w (SevenOk w) := by
  go_enter Tryz.func18, Tryz.ntmps18
  go_wp2_with fail
  refine bodyPost_ret (v := .agg #[.slice (some ⟨w.heap.size + 1 + 1, 0, none⟩) 1 1, .slice none 0 0, .int .i64 0]) ?_ rfl ?_
  · exact results_cell_row rfl _ _ w.heap.size 25 _ (0, 0) _ rfl ((Below.heap_alloc _ _ _ (by simp; omega)).trans ((Below.heap_alloc _ _ _ (by simp)).trans (new_heap w _))) Tryz.underlying25 rfl prog_info
  · refine ⟨_, .slice (some ⟨w.heap.size + 1, 0, none⟩) 2 2, rfl, ⟨?_, ?_⟩, (((Below.refl _ _).alloc (Nat.le_refl _) _).alloc (by simp) _).alloc (by simp; omega) _⟩
    · exact isRow_alloc' _ _ 1 (funCells [sevenF _]) _ (by simp)
    · intro f hf
      obtain rfl : f = _ := by simpa using hf
      exact (isRow_alloc' (w.alloc _) (w.heap.size + 1) 2 (insCells [⟨1, 7, 0⟩, ⟨9, 0, 0⟩]) 64 (by simp)).below ((Below.refl _ _).alloc (Nat.le_refl _) _)
end Go.Proofs.YtidffjlpldalpaaGreatDoor

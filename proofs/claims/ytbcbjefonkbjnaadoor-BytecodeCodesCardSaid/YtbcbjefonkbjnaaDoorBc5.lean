/- Words of the program; right. -/
import Derived.Test.YtbcbjefonkbjnaaDoorBc4
import Derived.Deep.WholeRow
namespace Go.Proofs.YtbcbjefonkbjnaaDoor
open Go Go.RowKit

theorem wpList_build_by {P : Program} {ops : Array Oper} {rest : List Oper} {o : Oper} {a : Act} {w : World} {Q : Exit → Act → World → Prop} (hgd : o.guard = none) (t : TypeId) (parts : Array (Nat × Operand)) (ho : o.op = .build t parts)
    (ps : Array (Nat × Value)) (hp : (parts.map fun (i, x) => (i, a.eval x)) = ps) (v : Value) (hv : (Instr.build t ps).run P w = .ok v w) (h : wpList P ops Q rest (a.put o.dst v) w) : wpList P ops Q (o :: rest) a w := by
  refine wpList_plain hgd fun K hK => ?_
  unfold Oper.wp execOp
  simp only [ho, Sem.run_bind, Sem.run_pure, Result.andThen_ok, hp, hv]
  exact hK _ _ h
theorem wpList_store_new {P : Program} {ops : Array Oper} {rest : List Oper} {o : Oper} {a : Act} {Q : Exit → Act → World → Prop} (hgd : o.guard = none) (t : TypeId) (p x : Operand) (ho : o.op = .store t p x)
    (w : World) (c c' : Array Value) (hp : a.eval p = .pointer (some ⟨w.heap.size, 0, none⟩)) (hx : a.eval x = .agg c') (hi : (P.info? t).map (·.size) = some c'.size) (hs : c.size = c'.size) (h1 : c'.all (·.oneCell') = true)
    (h : wpList P ops Q rest (a.put o.dst undef) (w.alloc (.cells c' t))) : wpList P ops Q (o :: rest) a (w.alloc (.cells c t)) := by
  refine wpList_plain hgd fun K hK => ?_
  unfold Oper.wp execOp
  simp only [ho, Sem.run_bind, Sem.run_pure, hp, hx, run_storeAt_new (P := P) w t c c' hi hs h1, Result.andThen_ok]
  exact hK _ _ h

def wordsZ : Array Value := #[.string ⟨#[]⟩, .int .i64 0, .string ⟨#[]⟩, .int .i64 0, .string ⟨#[]⟩, .int .i64 0, .string ⟨#[]⟩, .int .i64 0, .string ⟨#[]⟩, .int .i64 0, .string ⟨#[]⟩, .int .i64 0, .string ⟨#[]⟩, .int .i64 0, .string ⟨#[]⟩, .int .i64 0, .string ⟨#[]⟩, .int .i64 0, .string ⟨#[]⟩, .int .i64 0, .string ⟨#[]⟩, .int .i64 0, .string ⟨#[]⟩, .int .i64 0, .string ⟨#[]⟩, .int .i64 0, .string ⟨#[]⟩, .int .i64 0, .string ⟨#[]⟩, .int .i64 0, .string ⟨#[]⟩, .int .i64 0, .string ⟨#[]⟩, .int .i64 0]
def wordsC : Array Value := #[.string ⟨#[]⟩, .int .i64 0, .string ⟨#[105, 110, 116]⟩, .int .i64 1, .string ⟨#[116, 101, 120, 116]⟩, .int .i64 1, .string ⟨#[108, 111, 99, 97, 108]⟩, .int .i64 1, .string ⟨#[115, 116, 111, 114, 101]⟩, .int .i64 1, .string ⟨#[99, 97, 112, 116, 117, 114, 101]⟩, .int .i64 1, .string ⟨#[115, 101, 108, 102]⟩, .int .i64 0, .string ⟨#[99, 108, 111, 115, 117, 114, 101]⟩, .int .i64 2, .string ⟨#[99, 97, 108, 108]⟩, .int .i64 0, .string ⟨#[114, 101, 116, 117, 114, 110]⟩, .int .i64 0, .string ⟨#[98, 108, 111, 99, 107]⟩, .int .i64 1, .string ⟨#[102, 105, 101, 108, 100]⟩, .int .i64 1, .string ⟨#[116, 97, 103]⟩, .int .i64 1, .string ⟨#[115, 119, 105, 116, 99, 104]⟩, .int .i64 2, .string ⟨#[106, 117, 109, 112]⟩, .int .i64 1, .string ⟨#[112, 114, 105, 109]⟩, .int .i64 1, .string ⟨#[102, 97, 105, 108]⟩, .int .i64 1]
def wordsP : Array (Nat × Value) := #[(1, .agg #[.string ⟨#[105, 110, 116]⟩, .int .i64 1]), (2, .agg #[.string ⟨#[116, 101, 120, 116]⟩, .int .i64 1]), (3, .agg #[.string ⟨#[108, 111, 99, 97, 108]⟩, .int .i64 1]), (4, .agg #[.string ⟨#[115, 116, 111, 114, 101]⟩, .int .i64 1]), (5, .agg #[.string ⟨#[99, 97, 112, 116, 117, 114, 101]⟩, .int .i64 1]), (6, .agg #[.string ⟨#[115, 101, 108, 102]⟩, .int .i64 0]), (7, .agg #[.string ⟨#[99, 108, 111, 115, 117, 114, 101]⟩, .int .i64 2]), (8, .agg #[.string ⟨#[99, 97, 108, 108]⟩, .int .i64 0]), (9, .agg #[.string ⟨#[114, 101, 116, 117, 114, 110]⟩, .int .i64 0]), (10, .agg #[.string ⟨#[98, 108, 111, 99, 107]⟩, .int .i64 1]), (11, .agg #[.string ⟨#[102, 105, 101, 108, 100]⟩, .int .i64 1]), (12, .agg #[.string ⟨#[116, 97, 103]⟩, .int .i64 1]), (13, .agg #[.string ⟨#[115, 119, 105, 116, 99, 104]⟩, .int .i64 2]), (14, .agg #[.string ⟨#[106, 117, 109, 112]⟩, .int .i64 1]), (15, .agg #[.string ⟨#[112, 114, 105, 109]⟩, .int .i64 1]), (16, .agg #[.string ⟨#[102, 97, 105, 108]⟩, .int .i64 1])]
theorem words_build (w : World) : (Instr.build 91 wordsP).run Tryd.prog w = .ok (.agg wordsC) w := by kernel_rfl
theorem words_info : (Tryd.prog.info? 91).map (·.size) = some wordsC.size := by kernel_rfl
theorem words_one : wordsC.all (·.oneCell') = true := by kernel_rfl
theorem words_under : Tryd.prog.underlying 91 = some (.array 17 90) := by kernel_rfl
theorem words_load (w : World) : (loadVar 91 ⟨w.heap.size, 0, none⟩).run Tryd.prog (w.alloc (.cells wordsC 91)) = .ok (.agg wordsC) (w.alloc (.cells wordsC 91)) := run_loadVar_new w 91 wordsC 17 90 words_under words_info
set_option maxRecDepth 100000 in
theorem words_any (w : World) :
    Calls Tryd.prog 55 #[] w fun e w' => e = .returned (.agg wordsC) ∧ Below w.heap.size w w' := by
  have hld := Lib.hid (words_load w)
  have hb : Below w.heap.size w (w.alloc (.cells wordsC 91)) := (Below.refl _ _).alloc (Nat.le_refl _) _
  go_enter Tryd.func55, Tryd.ntmps55
  go_wp2_with (first | (refine wpList_build_by rfl 91 _ rfl wordsP rfl (.agg wordsC) (words_build _) ?_) | (refine wpList_store_new rfl 91 _ _ rfl w _ wordsC rfl rfl words_info rfl words_one ?_))

  refine bodyPost_ret (v := .agg wordsC) ?_ rfl ⟨rfl, hb⟩
  exact results_cell_row rfl _ _ w.heap.size 91 wordsC (0, 0) _ rfl (new_heap w _) words_under rfl words_info
end Go.Proofs.YtbcbjefonkbjnaaDoor

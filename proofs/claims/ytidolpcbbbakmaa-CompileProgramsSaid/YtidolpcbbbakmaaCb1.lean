/- Builders. -/
import Derived.Test.YtidolpcbbbakmaaCr1
import Derived.Shelf.Strings.Builder1
import Derived.Shelf.Strings.BuilderK
namespace Go.Proofs.Ytidolpcbbbakmaa
open Go Go.RowKit

theorem info_u8 : (Try.prog.info? 5).map (fun i => (i.zero, i.size, i.bytes)) = some (some (.int .u8 0), 1, 1) := by kernel_rfl

theorem size_builder : (Try.prog.info? 112).map (·.size) = some 2 := by kernel_rfl
set_option maxHeartbeats 1000000 in
set_option maxRecDepth 100000 in
theorem bld_copyCheck_used (b : Nat) (w : World) (h0 : w.cell? ⟨b, 0, none⟩ = some (.pointer (some ⟨b, 0, none⟩))) :
    Calls Try.prog 78 #[.pointer (some ⟨b, 0, none⟩)] w fun e w' => e = .returned (.tuple #[]) ∧ w' = w := by
  obtain ⟨j, hj, _⟩ := Option.map_eq_some_iff.1 size_builder
  go_enter Try.func78, Try.ntmps78
  go_wp2
  rw [Lib.run_neq_ptr_same w _ Try.underlying109 hj]
  go_wp2
  go_end0
  exact ⟨rfl, rfl⟩
set_option maxHeartbeats 1000000 in
set_option maxRecDepth 100000 in
theorem bld_copyCheck_fresh (b : Nat) (w : World) (h0 : w.cell? ⟨b, 0, none⟩ = some (.pointer none)) (hsh : w.shape? b = some (112, 2)) (hfz : w.frozen? ⟨b, 0, none⟩ = false) :
    Calls Try.prog 78 #[.pointer (some ⟨b, 0, none⟩)] w fun e w' => e = .returned (.tuple #[]) ∧ w' = w.setCell ⟨b, 0, none⟩ (.pointer (some ⟨b, 0, none⟩)) := by
  obtain ⟨j, hj, hjs⟩ := Option.map_eq_some_iff.1 size_builder
  go_enter Try.func78, Try.ntmps78
  go_wp2
  rw [Lib.run_to_unsafe w ⟨b, 0, none⟩ Try.underlying109 Try.underlying126 hj (by rw [hjs]; decide) hsh (Nat.zero_lt_succ 1)]
  simp only [Result.andThen]
  rw [Oper.upon_value]
  go_wp2
  rw [run_callFunc_extern Try.func82 (by kernel_rfl) (by kernel_rfl) (by kernel_rfl) (e := Extern.AbiNoEscape.same) (by kernel_rfl)]
  rw [Lib.run_noEscape]
  simp only [Result.andThen]
  rw [Oper.upon_value]
  go_wp2
  rw [Lib.run_from_unsafe w ⟨b, 0, none⟩ Try.underlying126 Try.underlying109 hj hsh (by kernel_rfl)]
  simp only [Result.andThen]
  rw [Oper.upon_value]
  go_wp2
  go_end0
  exact ⟨rfl, rfl⟩
/-- Blocks of other types than bytes and builders are as they were. -/
def Others (w w' : World) : Prop := ∀ (k : Nat) (cs : Array Value) (t : TypeId) (z : Nat × Nat), w.heap[k]? = some (.cells cs t z) → t ≠ 5 → t ≠ 112 → w'.heap[k]? = some (.cells cs t z)
theorem Others.refl (w : World) : Others w w := fun _ _ _ _ h _ _ => h
theorem Others.trans {a b c : World} (h : Others a b) (k : Others b c) : Others a c := fun q cs t z hq h1 h2 => k q cs t z (h q cs t z hq h1 h2) h1 h2
theorem Others.below {w w' : World} (h : Below w.heap.size w w') : Others w w' := fun k _ _ _ hk _ _ => by rw [h.block k (heap_lt hk)]; exact hk
theorem Others.setCell {w : World} {b o : Nat} {cs : Array Value} {z : Nat × Nat} (hb : w.heap[b]? = some (.cells cs 112 z)) (u : Value) : Others w (w.setCell ⟨b, o, none⟩ u) := fun k cs' t z' hk _ h2 => by
  rw [Below.heap_setCell _ _ _ _ (fun e => ?_)]
  · exact hk
  · have e' : k = b := e
    subst e'; rw [hb] at hk; cases hk; exact h2 rfl
theorem own_block {w : World} {base : Nat} {e : TypeId} {v : Value} {n : Nat} {xs : List Value} (h : w.ownsRow base e 1 v n xs) {k : Nat} (hk : v.ownBlock = some k) : ∃ cs, w.heap[k]? = some (.cells cs e (0, 0)) := by
  rcases h.2 with ⟨rfl, _⟩ | ⟨g, cap, cur, rfl, _, hh, _⟩
  · cases hk
  · cases hk; exact ⟨cur, hh⟩
theorem Others.grown {w w' : World} {base : Nat} {v : Value} {n : Nat} {xs : List Value} (hg : w.grownBy w' v.ownBlock) (h : w.ownsRow base 5 1 v n xs) : Others w w' := fun k cs t z hk h1 _ => by
  rw [hg.block k (heap_lt hk) (fun e => ?_)]
  · exact hk
  · obtain ⟨cs', hc⟩ := own_block h e.symm
    rw [hc] at hk; cases hk; exact h1 rfl
theorem bld_copyCheck (B b : Nat) (bs : List Value) (w : World) (h : Lib.IsBuilder 112 5 B b bs w) :
    Calls Try.prog 78 #[.pointer (some ⟨b, 0, none⟩)] w fun e w' => e = .returned (.tuple #[]) ∧ (Lib.BuilderAt 112 5 B b (.pointer (some ⟨b, 0, none⟩)) bs w' ∧ Below B w w' ∧ Others w w') := by
  rcases h with h | h
  · refine (bld_copyCheck_fresh b w h.cell0 h.shape h.frozen0).mono ?_
    rintro e w' ⟨rfl, rfl⟩
    exact ⟨rfl, h.used _, (Below.refl B w).setCell (p := ⟨b, 0, none⟩) h.1 _, by obtain ⟨_, v, hb, _⟩ := h; exact Others.setCell hb _⟩
  · refine (bld_copyCheck_used b w h.cell0).mono ?_
    rintro e w' ⟨rfl, rfl⟩
    exact ⟨rfl, h, Below.refl B _, Others.refl _⟩
set_option maxHeartbeats 2000000 in
set_option maxRecDepth 100000 in
theorem bld_WriteString (B b : Nat) (bs : List Value) (s : ByteArray) (w : World) (h : Lib.IsBuilder 112 5 B b bs w) (hlen : bs.length + s.size ≤ 140737488355328) (hBw : B ≤ w.heap.size) :
    Calls Try.prog 67 #[.pointer (some ⟨b, 0, none⟩), .string s] w fun e w' => e = .returned (.tuple #[.int .i64 s.size, .nilIface]) ∧ (Lib.BuilderAt 112 5 B b (.pointer (some ⟨b, 0, none⟩)) (bs ++ Lib.strCells s) w' ∧ Below B w w' ∧ Others w w') := by
  obtain ⟨i0, hi, hz0, hz1, hz2⟩ := info_parts info_u8
  go_enter Try.func67, Try.ntmps67
  go_wp2_with fail
  refine (bld_copyCheck B b bs _ h).mono ?_
  rintro e w1 ⟨rfl, h1, hb1, hO1⟩
  obtain ⟨hB, v, hbk, hown, hne⟩ := h1
  have c0 : w1.cell? ⟨b, 0, none⟩ = some (.pointer (some ⟨b, 0, none⟩)) := by rw [Lib.cell_of_heap hbk]; rfl
  have c1 : w1.cell? ⟨b, 1, none⟩ = some v := by rw [Lib.cell_of_heap hbk]; rfl
  go_wp2_with (at_builtin; refine Lib.wpList_append_own_string _ rfl _ _ 110 9 rfl B 5 i0 Try.underlying110 Try.underlying9 hi hz0 hz1 hz2 _ _ _ rfl hown s rfl ?c3 ?c4 ?c5 ?_)
  case c3 => unfold maxLen; omega
  case c4 => omega
  case c5 => have := hb1.size; omega
  intro v' w2 hown' hgrow _
  have hlt : b < w1.heap.size := by
    rcases Nat.lt_or_ge b w1.heap.size with h' | h'
    · exact h'
    · simp [Array.getElem?_eq_none h'] at hbk
  have hb2 : w2.heap[b]? = some (.cells #[.pointer (some ⟨b, 0, none⟩), v] 112 (0, 0)) := by
    rw [hgrow.block b hlt (fun e => hne e.symm)]
    exact hbk
  have d0 : w2.cell? ⟨b, 0, none⟩ = some (.pointer (some ⟨b, 0, none⟩)) := by rw [Lib.cell_of_heap hb2]; rfl
  have d1 : w2.cell? ⟨b, 1, none⟩ = some v := by rw [Lib.cell_of_heap hb2]; rfl
  have f1 : w2.frozen? ⟨b, 1, none⟩ = false := Lib.frozen_of_heap hb2 1
  obtain ⟨ao, n', cap, rfl⟩ : ∃ ao n' cap, v' = .slice ao n' cap := by
    rcases hown'.2 with ⟨hv, _⟩ | ⟨g, cap, cur, hv, _⟩
    · exact ⟨_, _, _, hv⟩
    · exact ⟨_, _, _, hv⟩
  go_wp2_with fail
  go_ret2
  refine ⟨rfl, ?_, ?_, hO1.trans ((Others.grown hgrow hown).trans (Others.setCell hb2 _))⟩
  · exact Lib.BuilderAt.put (T := 112) (e := 5) hB hb2 (bs' := bs ++ Lib.strCells s) (by simpa [Lib.strCells_length] using hown') (by decide)
  · exact (hb1.grown hgrow (by have := hb1.size; omega) (fun k hk => (hown.lt k hk).1)).setCell (p := ⟨b, 1, none⟩) hB _
theorem BuilderAt.below {B b : Nat} {p : Value} {bs : List Value} {w w' : World} (h : Lib.BuilderAt 112 5 B b p bs w) (hb : Below w.heap.size w w') : Lib.BuilderAt 112 5 B b p bs w' := by
  obtain ⟨h1, v, hk, hown, hne⟩ := h
  refine ⟨h1, v, by rw [hb.block b (heap_lt hk)]; exact hk, ⟨hown.1, ?_⟩, hne⟩
  rcases hown.2 with h0 | ⟨g, cap, cur, hv, hg, hh, hr⟩
  · exact .inl h0
  · exact .inr ⟨g, cap, cur, hv, hg, by rw [hb.block g (heap_lt hh)]; exact hh, hr⟩
theorem BuilderAt.step {B b : Nat} {p : Value} {pre : List UInt8} {s : ByteArray} {w : World} (h : Lib.BuilderAt 112 5 B b p (Lib.byteCells pre ++ Lib.strCells s) w) : Lib.BuilderAt 112 5 B b p (Lib.byteCells (pre ++ s.data.toList)) w := by
  rw [Lib.byteCells_append]; exact h
theorem cellsLen (pre : List UInt8) : (Lib.byteCells pre).length = pre.length := Lib.byteCells_length pre
theorem bld_fresh (w : World) (B : Nat) (hB : B ≤ w.heap.size) : Lib.IsBuilder 112 5 B w.heap.size [] (w.alloc (.cells #[.pointer none, .slice none 0 0] 112)) :=
  .inl ⟨hB, .slice none 0 0, new_heap w _, World.ownsRow_nil _ _ _ _, by simp [Value.ownBlock]⟩
theorem IsBuilder.below {B b : Nat} {bs : List Value} {w w' : World} (h : Lib.IsBuilder 112 5 B b bs w) (hb : Below w.heap.size w w') : Lib.IsBuilder 112 5 B b bs w' := h.elim (fun x => .inl (BuilderAt.below x hb)) (fun x => .inr (BuilderAt.below x hb))
theorem two_cells {w : World} {q : Nat} {x y : Value} {t : TypeId} (h : w.heap[q]? = some (.cells #[x, y] t (0, 0))) : w.cell? ⟨q, 0, none⟩ = some x ∧ w.cell? ⟨q, 1, none⟩ = some y := by
  simp [World.cell?, h]
end Go.Proofs.Ytidolpcbbbakmaa

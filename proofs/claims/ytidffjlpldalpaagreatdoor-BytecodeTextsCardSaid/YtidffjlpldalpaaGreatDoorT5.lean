/- strings.Builder's copyCheck and WriteString at this program (its copyCheck's panic is cut away, so the kit's laying does not fit). The walks follow the kit's own. The texts of a program; Valid. -/
import Derived.Test.YtidffjlpldalpaaGreatDoorT4
import Derived.Test.YtidffjlpldalpaaGreatDoorT3
set_option linter.unusedVariables false
set_option linter.unusedSimpArgs false
namespace Go.Proofs.YtidffjlpldalpaaGreatDoor
open Go Go.RowKit

theorem size_builder : (Tryz.prog.info? 52).map (·.size) = some 2 := by kernel_rfl
set_option maxHeartbeats 1000000 in
set_option maxRecDepth 100000 in
theorem bld_copyCheck_used (b : Nat) (w : World) (h0 : w.cell? ⟨b, 0, none⟩ = some (.pointer (some ⟨b, 0, none⟩))) :
    Calls Tryz.prog 51 #[.pointer (some ⟨b, 0, none⟩)] w fun e w' => e = .returned (.tuple #[]) ∧ w' = w := by
  obtain ⟨j, hj, _⟩ := Option.map_eq_some_iff.1 size_builder
  go_enter Tryz.func51, Tryz.ntmps51
  go_wp2
  rw [Lib.run_neq_ptr_same w _ Tryz.underlying50 hj]
  go_wp2
  go_end0
  exact ⟨rfl, rfl⟩
set_option maxHeartbeats 1000000 in
set_option maxRecDepth 100000 in
theorem bld_copyCheck_fresh (b : Nat) (w : World) (h0 : w.cell? ⟨b, 0, none⟩ = some (.pointer none)) (hsh : w.shape? b = some (52, 2)) (hfz : w.frozen? ⟨b, 0, none⟩ = false) :
    Calls Tryz.prog 51 #[.pointer (some ⟨b, 0, none⟩)] w fun e w' => e = .returned (.tuple #[]) ∧ w' = w.setCell ⟨b, 0, none⟩ (.pointer (some ⟨b, 0, none⟩)) := by
  obtain ⟨j, hj, hjs⟩ := Option.map_eq_some_iff.1 size_builder
  go_enter Tryz.func51, Tryz.ntmps51
  go_wp2
  rw [Lib.run_to_unsafe w ⟨b, 0, none⟩ Tryz.underlying50 Tryz.underlying113 hj (by rw [hjs]; decide) hsh (Nat.zero_lt_succ 1)]
  simp only [Result.andThen]
  rw [Oper.upon_value]
  go_wp2
  rw [run_callFunc_extern Tryz.func73 (by kernel_rfl) (by kernel_rfl) (by kernel_rfl) (e := Extern.AbiNoEscape.same) (by kernel_rfl)]
  rw [Lib.run_noEscape]
  simp only [Result.andThen]
  rw [Oper.upon_value]
  go_wp2
  rw [Lib.run_from_unsafe w ⟨b, 0, none⟩ Tryz.underlying113 Tryz.underlying50 hj hsh (by kernel_rfl)]
  simp only [Result.andThen]
  rw [Oper.upon_value]
  go_wp2
  go_end0
  exact ⟨rfl, rfl⟩
/-- Blocks of other types than bytes and builders are as they were. -/
def Others (w w' : World) : Prop := ∀ (k : Nat) (cs : Array Value) (t : TypeId) (z : Nat × Nat), w.heap[k]? = some (.cells cs t z) → t ≠ 5 → t ≠ 52 → w'.heap[k]? = some (.cells cs t z)
theorem Others.refl (w : World) : Others w w := fun _ _ _ _ h _ _ => h
theorem Others.trans {a b c : World} (h : Others a b) (k : Others b c) : Others a c := fun q cs t z hq h1 h2 => k q cs t z (h q cs t z hq h1 h2) h1 h2
theorem heap_lt {w : World} {k : Nat} {o : Obj} (h : w.heap[k]? = some o) : k < w.heap.size := by
  rcases Nat.lt_or_ge k w.heap.size with h' | h'
  · exact h'
  · simp [Array.getElem?_eq_none h'] at h
theorem Others.below {w w' : World} (h : Below w.heap.size w w') : Others w w' := fun k _ _ _ hk _ _ => by rw [h.block k (heap_lt hk)]; exact hk
theorem Others.setCell {w : World} {b o : Nat} {cs : Array Value} {z : Nat × Nat} (hb : w.heap[b]? = some (.cells cs 52 z)) (u : Value) : Others w (w.setCell ⟨b, o, none⟩ u) := fun k cs' t z' hk _ h2 => by
  rw [Below.heap_setCell _ _ _ _ (fun e => ?_)]
  · exact hk
  · have e' : k = b := e
    subst e'; rw [hb] at hk; cases hk; exact h2 rfl
theorem own_block {w : World} {base : Nat} {e : TypeId} {v : Value} {n : Nat} {xs : List Value} (h : w.ownsRow base e 1 v n xs) {k : Nat} (hk : v.ownBlock = some k) : ∃ cs, w.heap[k]? = some (.cells cs e (0, 0)) := by
  rcases h.2 with ⟨rfl, _⟩ | ⟨g, cap, cur, rfl, _, hh, _⟩
  · cases hk
  · cases hk; exact ⟨cur, hh⟩
theorem Others.grown {w w' : World} {base : Nat} {v : Value} {n : Nat} {xs : List Value} (hg : w.grownBy w' v.ownBlock) (h : w.ownsRow base 5 1 v n xs) : Others w w' := fun k cs t z hk h1 _ => by
  rw [hg.block k (heap_lt hk) (fun e => ?_)]
  · exact hk
  · obtain ⟨cs', hc⟩ := own_block h e.symm
    rw [hc] at hk; cases hk; exact h1 rfl
theorem bld_copyCheck (B b : Nat) (bs : List Value) (w : World) (h : Lib.IsBuilder 52 5 B b bs w) :
    Calls Tryz.prog 51 #[.pointer (some ⟨b, 0, none⟩)] w fun e w' => e = .returned (.tuple #[]) ∧ (Lib.BuilderAt 52 5 B b (.pointer (some ⟨b, 0, none⟩)) bs w' ∧ Below B w w' ∧ Others w w') := by
  rcases h with h | h
  · refine (bld_copyCheck_fresh b w h.cell0 h.shape h.frozen0).mono ?_
    rintro e w' ⟨rfl, rfl⟩
    exact ⟨rfl, h.used _, (Below.refl B w).setCell (p := ⟨b, 0, none⟩) h.1 _, by obtain ⟨_, v, hb, _⟩ := h; exact Others.setCell hb _⟩
  · refine (bld_copyCheck_used b w h.cell0).mono ?_
    rintro e w' ⟨rfl, rfl⟩
    exact ⟨rfl, h, Below.refl B _, Others.refl _⟩
set_option maxHeartbeats 2000000 in
set_option maxRecDepth 100000 in
theorem bld_WriteString (B b : Nat) (bs : List Value) (s : ByteArray) (w : World) (h : Lib.IsBuilder 52 5 B b bs w) (hlen : bs.length + s.size ≤ 140737488355328) (hBw : B ≤ w.heap.size) :
    Calls Tryz.prog 21 #[.pointer (some ⟨b, 0, none⟩), .string s] w fun e w' => e = .returned (.tuple #[.int .i64 s.size, .nilIface]) ∧ (Lib.BuilderAt 52 5 B b (.pointer (some ⟨b, 0, none⟩)) (bs ++ Lib.strCells s) w' ∧ Below B w w' ∧ Others w w') := by
  obtain ⟨i0, hi, hz0, hz1, hz2⟩ := info_parts info_u8
  go_enter Tryz.func21, Tryz.ntmps21
  go_wp2_with fail
  refine (bld_copyCheck B b bs _ h).mono ?_
  rintro e w1 ⟨rfl, h1, hb1, hO1⟩
  obtain ⟨hB, v, hbk, hown, hne⟩ := h1
  have c0 : w1.cell? ⟨b, 0, none⟩ = some (.pointer (some ⟨b, 0, none⟩)) := by rw [Lib.cell_of_heap hbk]; rfl
  have c1 : w1.cell? ⟨b, 1, none⟩ = some v := by rw [Lib.cell_of_heap hbk]; rfl
  go_wp2_with (at_builtin; refine Lib.wpList_append_own_string _ rfl _ _ 38 9 rfl B 5 i0 Tryz.underlying38 Tryz.underlying9 hi hz0 hz1 hz2 _ _ _ rfl hown s rfl ?c3 ?c4 ?c5 ?_)
  case c3 => unfold maxLen; omega
  case c4 => omega
  case c5 => have := hb1.size; omega
  intro v' w2 hown' hgrow _
  have hlt : b < w1.heap.size := by
    rcases Nat.lt_or_ge b w1.heap.size with h' | h'
    · exact h'
    · simp [Array.getElem?_eq_none h'] at hbk
  have hb2 : w2.heap[b]? = some (.cells #[.pointer (some ⟨b, 0, none⟩), v] 52 (0, 0)) := by
    rw [hgrow.block b hlt (fun e => hne e.symm)]
    exact hbk
  have d0 : w2.cell? ⟨b, 0, none⟩ = some (.pointer (some ⟨b, 0, none⟩)) := by rw [Lib.cell_of_heap hb2]; rfl
  have d1 : w2.cell? ⟨b, 1, none⟩ = some v := by rw [Lib.cell_of_heap hb2]; rfl
  have f1 : w2.frozen? ⟨b, 1, none⟩ = false := Lib.frozen_of_heap hb2 1
  obtain ⟨ao, n', cap, rfl⟩ : ∃ ao n' cap, v' = .slice ao n' cap := by
    rcases hown'.2 with ⟨hv, _⟩ | ⟨g, cap, cur, hv, _⟩
    · exact ⟨_, _, _, hv⟩
    · exact ⟨_, _, _, hv⟩
  go_wp2_with fail
  go_ret2
  refine ⟨rfl, ?_, ?_, hO1.trans ((Others.grown hgrow hown).trans (Others.setCell hb2 _))⟩
  · exact Lib.BuilderAt.put (T := 52) (e := 5) hB hb2 (bs' := bs ++ Lib.strCells s) (by simpa [Lib.strCells_length] using hown') (by decide)
  · exact (hb1.grown hgrow (by have := hb1.size; omega) (fun k hk => (hown.lt k hk).1)).setCell (p := ⟨b, 1, none⟩) hB _

def visB (b : UInt8) : Bool := b == 10 || (decide (32 ≤ b.toNat) && decide (b.toNat ≤ 126))
def quotedB (s : ByteArray) : Bool := decide (s.size ≤ 16384) && s.data.toList.all visB
def QuotedOk (s : ByteArray) : Prop := ∀ w, Calls Tryz.prog 33 #[.string s] w fun e w' => e = .returned (.bool (quotedB s)) ∧ Below w.heap.size w w'
def notQ (s : ByteArray) : Bool := !quotedB s
theorem valid1_any (s : ByteArray) (H : QuotedOk s) (w : World) : Calls Tryz.prog 32 #[.string s] w fun e w' => e = .returned (.bool (notQ s)) ∧ Below w.heap.size w w' := by
  have H' := Lib.hid H
  clear H
  go_enter Tryz.func32, Tryz.ntmps32
  go_wp2_with fail
  refine (H'.out _).mono ?_
  rintro e w' ⟨rfl, hb⟩
  go_wp2_with fail
  go_ret
  exact ⟨rfl, hb⟩
def strCells (l : List ByteArray) : List Value := l.map Value.string
theorem strCells_length (l : List ByteArray) : (strCells l).length = l.length := by simp [strCells]
theorem strCells_at (l : List ByteArray) (k : Nat) (h : k < l.length) : (strCells l).getD k undef = .string (l.getD k default) := by simp [strCells, List.getD, h]
def IsTexts (w : World) (v : Value) (l : List ByteArray) : Prop := IsRow w v l.length (strCells l)
set_option maxRecDepth 100000 in
theorem indexT_any (v : Value) (l : List ByteArray) (w : World) (h : IsTexts w v l) (hl : l.length ≤ 1000000) (HQ : ∀ s ∈ l, QuotedOk s) :
    Calls Tryz.prog 57 #[v, .func (.func 32) #[] #[]] w (AnyW (l.any notQ) w) := by
  have HT : Hid (∀ k, k < l.length → ∀ w, Calls Tryz.prog 32 #[.string (l.getD k default)] w fun e w' => e = .returned (.bool (notQ (l.getD k default))) ∧ Below w.heap.size w w') := fun k hk w => valid1_any _ (HQ _ (getD_mem _ _ _ hk)) w
  clear HQ
  obtain ⟨a', c', rfl, hlc, hcell⟩ := h
  have hb0 := Below.refl w.heap.size w
  by_cases hne : l.length = 0
  · have hnil : l = [] := List.length_eq_zero_iff.1 hne
    subst hnil
    clear hcell
    go_enter Tryz.func57, Tryz.ntmps57
    go_wp2_with fail
    go_loop [8] (fun i => i = .int .i64 0) (fun i => 0)
    case atStart => rfl
    case round =>
      subst hrel
      go_wp2_with fail
      go_ret
      exact ⟨-1, rfl, rfl, hb0⟩
  · obtain ⟨b, off, rfl, hlt, hc⟩ := hcell (by omega)
    have Hc : Hid (∀ k, k < l.length → w.cell? ⟨b, off + k, none⟩ = some (.string (l.getD k default))) := fun k hk => by
      rw [hc k (by rw [strCells_length]; exact hk), strCells_at l k hk]
    clear hcell hc
    go_enter Tryz.func57, Tryz.ntmps57
    go_wp2_with fail
    go_loopw [8] (fun i wr => (∃ k : Nat, k ≤ l.length ∧ i = .int .i64 k ∧ Hid ((l.take k).any notQ = false)) ∧ Below w.heap.size w wr) (fun i _ => l.length - (intOf i).toNat)
    case atStart => exact ⟨⟨0, Nat.zero_le _, rfl, rfl⟩, hb0⟩
    case round =>
      obtain ⟨⟨k, hk, rfl, hno⟩, hbr⟩ := hrel
      by_cases hkl : k < l.length
      · have c0 := Hc.out k hkl
        have d0 : wr.cell? ⟨b, off + k, none⟩ = _ := (hbr.cell (p := ⟨b, off + k, none⟩) hlt).trans c0
        clear c0
        have Hn := Lib.hid (any_next default l notQ k hkl hno.out)
        have Hy := Lib.hid (any_hit default l notQ k hkl)
        have HT' := Lib.hid (HT.out k hkl)
        generalize l.getD k default = x at *
        go_wp2_with fail
        refine (HT'.out _).mono ?_
        rintro e w' ⟨rfl, hb1⟩
        have hb2 : Below w.heap.size w w' := hbr.trans (hb1.mono hbr.size)
        obtain ⟨bb, hbb⟩ : ∃ bb, notQ x = bb := ⟨_, rfl⟩
        have Hbb := Lib.hid hbb
        rw [hbb]
        clear hbb
        cases bb
        · have hN : Hid ((l.take (k + 1)).any notQ = false) := Hn.out Hbb.out
          go_wp2_with fail
          go_round
          case rel => exact ⟨⟨k + 1, by omega, by go_num, hN⟩, hb2⟩
          case measure => simp [intOf]; omega
        · go_wp2_with fail
          go_ret
          exact ⟨k, rfl, by rw [Hy.out Hbb.out]; simp, hb2⟩
      · go_wp2_with fail
        go_ret
        refine ⟨-1, rfl, ?_, hbr⟩
        have := hno.out
        rw [List.take_of_length_le (by omega)] at this
        rw [this]; rfl
theorem containsT_any (v : Value) (l : List ByteArray) (w : World) (h : IsTexts w v l) (hl : l.length ≤ 1000000) (HQ : ∀ s ∈ l, QuotedOk s) :
    Calls Tryz.prog 31 #[v, .func (.func 32) #[] #[]] w fun e w' => e = .returned (.bool (l.any notQ)) ∧ Below w.heap.size w w' := by
  have H := Lib.hid (indexT_any v l w h hl HQ)
  clear HQ
  go_enter Tryz.func31, Tryz.ntmps31
  go_wp2_with fail
  refine H.out.mono ?_
  rintro e w' ⟨r, rfl, hr, hb⟩
  have Hr := Lib.hid hr
  clear hr
  go_wp2_with fail
  go_ret
  exact ⟨ret_bool Hr.out, hb⟩

structure ProgD where
  funs : List FunD
  texts : List ByteArray
  main : Int
def IsProg (w : World) (fv tv : Value) (p : ProgD) : Prop := IsFuns w fv p.funs ∧ IsTexts w tv p.texts
theorem IsProg.below {w w' : World} {fv tv : Value} {p : ProgD} (h : IsProg w fv tv p) (hb : Below w.heap.size w w') : IsProg w' fv tv p := ⟨h.1.below hb, IsRow.below h.2 hb⟩
def headB (f : FunD) : Bool := inB f.c 0 1000 && (inB f.l 1 4096 && (inB f.d 0 4096 && inB (f.code.length : Int) 1 16384))
def rightsB (p : ProgD) (f : FunD) : Bool := (List.range f.code.length).all fun k => rightB p.texts.length p.funs f.c f.l f.code k
def mainB (p : ProgD) : Bool := inB p.main 0 ((p.funs.length : Int) - 1) && decide ((p.funs.getD p.main.toNat default).c = 0)
def validB (p : ProgD) : Bool := inB (p.funs.length : Int) 1 4096 && (decide (p.texts.length ≤ 1000) && (!p.texts.any notQ && (p.funs.all headB && (p.funs.all (rightsB p) && mainB p))))
def ValidOk (p : ProgD) (w : World) (e : Ending) (w' : World) : Prop := e = .returned (.bool (validB p)) ∧ Below w.heap.size w w'
def badHead (f : FunD) : Bool := !headB f
def badRights (p : ProgD) (f : FunD) : Bool := !rightsB p f
theorem all_of {α : Type} (l : List α) (p : α → Bool) : l.all p = !l.any (fun x => !p x) := by
  induction l with
  | nil => rfl
  | cons x l ih => simp [ih]
theorem valid_c0 (p : ProgD) (h : inB (p.funs.length : Int) 1 4096 = false) : validB p = false := by unfold validB; rw [h]; rfl
theorem valid_c1 (p : ProgD) (h : ¬ p.texts.length ≤ 1000) : validB p = false := by unfold validB; simp [h]
theorem valid_c2 (p : ProgD) (h : p.texts.any notQ = true) : validB p = false := by unfold validB; simp [h]
theorem valid_c3 (p : ProgD) (h : p.funs.any badHead = true) : validB p = false := by unfold validB; rw [all_of p.funs headB]; rw [show p.funs.any (fun x => !headB x) = true from h]; simp
theorem valid_c4 (p : ProgD) (h : p.funs.any (badRights p) = true) : validB p = false := by unfold validB; rw [all_of p.funs (rightsB p)]; rw [show p.funs.any (fun x => !rightsB p x) = true from h]; simp
theorem valid_ok (p : ProgD) (h0 : inB (p.funs.length : Int) 1 4096 = true) (h1 : p.texts.length ≤ 1000) (h2 : p.texts.any notQ = false) (h3 : p.funs.any badHead = false) (h4 : p.funs.any (badRights p) = false) : validB p = mainB p := by
  unfold validB; rw [all_of p.funs headB, all_of p.funs (rightsB p), show p.funs.any (fun x => !headB x) = false from h3, show p.funs.any (fun x => !rightsB p x) = false from h4, h0, h2]; simp [h1]
end Go.Proofs.YtidffjlpldalpaaGreatDoor

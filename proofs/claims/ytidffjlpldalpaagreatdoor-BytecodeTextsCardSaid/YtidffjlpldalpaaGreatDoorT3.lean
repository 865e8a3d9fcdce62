/- right of the program. -/
import Derived.Test.YtidffjlpldalpaaGreatDoorT1
import Derived.Test.YtidffjlpldalpaaGreatDoorT2
import Derived.Deep.DeepCutAuto
import Derived.Deep.RegionHeld3
set_option linter.unusedVariables false
set_option linter.unusedSimpArgs false
namespace Go.Proofs.YtidffjlpldalpaaGreatDoor
open Go Go.RowKit

def opnds (op : Int) : Int := if op = 6 ∨ op = 8 ∨ op = 9 then 0 else if op = 7 ∨ op = 13 then 2 else 1
def wordV (op : Int) : Value := wordsC.getD (2 * op.toNat) (.string ⟨#[]⟩)
theorem words_index (op : Int) (h : knownB op = true) (w : World) : (Instr.index 61 (.agg wordsC) (.int .i64 op)).run Tryz.prog w = .ok (.agg #[wordV op, .int .i64 (opnds op)]) w := by
  rcases op_cases op with rfl | rfl | rfl | rfl | rfl | rfl | rfl | rfl | rfl | rfl | rfl | rfl | rfl | rfl | rfl | rfl | hno
  rotate_left 16
  · exfalso; unfold knownB inB at h; simp at h; omega
  all_goals kernel_rfl
theorem words_field (v : Value) (n : Int) (w : World) : (Instr.field 60 (.agg #[v, .int .i64 n]) 1).run Tryz.prog w = .ok (.int .i64 n) w := by kernel_rfl
def rightI (nt : Nat) (fs : List FunD) (c l : Int) (code : List Ins) (k : Nat) (i : Ins) : Bool :=
  if knownB i.op = false then false
  else if opnds i.op < 1 ∧ i.a ≠ 0 ∨ opnds i.op < 2 ∧ i.b ≠ 0 then false
  else if i.op = 1 then inB i.a (-4503599627370496) 4503599627370496
  else if i.op = 2 then inB i.a 0 ((nt : Int) - 1)
  else if i.op = 3 ∨ i.op = 4 then inB i.a 0 (l - 1)
  else if i.op = 5 then inB i.a 0 (c - 1)
  else if i.op = 7 then inB i.a 0 ((fs.length : Int) - 1) && decide (i.b = (fs.getD i.a.toNat default).c)
  else if i.op = 10 then inB i.a 0 1000
  else if i.op = 11 ∨ i.op = 12 then inB i.a 0 999
  else if i.op = 13 then inB i.a 0 (l - 1) && (inB i.b 1 1000 && (decide ((k : Int) + i.b < code.length) && ((code.drop (k + 1)).take i.b.toNat).all (·.op == 14)))
  else if i.op = 14 then inB i.a 0 ((code.length : Int) - 1)
  else if i.op = 15 then inB i.a 1 14
  else if i.op = 16 then inB i.a 1 1000000
  else true
def rightB (nt : Nat) (fs : List FunD) (c l : Int) (code : List Ins) (k : Nat) : Bool := rightI nt fs c l code k (code.getD k default)
theorem rightB_eq (nt : Nat) (fs : List FunD) (c l : Int) (code : List Ins) (k : Nat) : rightB nt fs c l code k = rightI nt fs c l code k (code.getD k default) := rfl
theorem funCells_length (l : List FunD) : (funCells l).length = l.length * 4 := by
  induction l with
  | nil => rfl
  | cons x l ih => simp [funCells] at ih ⊢; omega
theorem funCells_at : ∀ (l : List FunD) (k : Nat), k < l.length → (funCells l).getD (k * 4) undef = .int .i64 (l.getD k default).c ∧ (funCells l).getD (k * 4 + 1) undef = .int .i64 (l.getD k default).l ∧ (funCells l).getD (k * 4 + 2) undef = .int .i64 (l.getD k default).d ∧ (funCells l).getD (k * 4 + 3) undef = (l.getD k default).v
  | [], k, h => by simp at h
  | x :: l, 0, _ => by simp [funCells]
  | x :: l, k + 1, h => by
    have ih := funCells_at l k (by simpa using h)
    have e : funCells (x :: l) = [.int .i64 x.c, .int .i64 x.l, .int .i64 x.d, x.v] ++ funCells l := rfl
    have g : ∀ j, (funCells (x :: l)).getD (j + 4) undef = (funCells l).getD j undef := fun j => by
      rw [e]; simp [List.getD]
    have e1 : (k + 1) * 4 = k * 4 + 4 := by omega
    refine ⟨?_, ?_, ?_, ?_⟩
    · rw [e1, g]; exact ih.1
    · rw [show (k + 1) * 4 + 1 = k * 4 + 1 + 4 by omega, g]; exact ih.2.1
    · rw [show (k + 1) * 4 + 2 = k * 4 + 2 + 4 by omega, g]; exact ih.2.2.1
    · rw [show (k + 1) * 4 + 3 = k * 4 + 3 + 4 by omega, g]; exact ih.2.2.2
theorem IsFuns.at' {w : World} {v : Value} {fs : List FunD} (h : IsFuns w v fs) (n : Nat) (hn : n < fs.length) :
    ∃ b off c, v = .slice (some ⟨b, off, none⟩) fs.length c ∧ fs.length ≤ c ∧ b < w.heap.size ∧ w.cell? ⟨b, off + n * 4, none⟩ = some (.int .i64 (fs.getD n default).c) ∧ w.cell? ⟨b, off + n * 4 + 1, none⟩ = some (.int .i64 (fs.getD n default).l) ∧ w.cell? ⟨b, off + n * 4 + 2, none⟩ = some (.int .i64 (fs.getD n default).d) ∧ w.cell? ⟨b, off + n * 4 + 3, none⟩ = some (fs.getD n default).v := by
  obtain ⟨⟨a, c, rfl, hlc, hcell⟩, _⟩ := h
  obtain ⟨b, off, rfl, hlt, hc⟩ := hcell (by omega)
  obtain ⟨c0, c1, c2, c3⟩ := funCells_at fs n hn
  have hlen := funCells_length fs
  refine ⟨b, off, c, rfl, hlc, hlt, ?_, ?_, ?_, ?_⟩
  · rw [hc (n * 4) (by omega), c0]
  · rw [Nat.add_assoc, hc (n * 4 + 1) (by omega), c1]
  · rw [Nat.add_assoc, hc (n * 4 + 2) (by omega), c2]
  · rw [Nat.add_assoc, hc (n * 4 + 3) (by omega), c3]
theorem beq_dec (a b : Int) : (a == b) = decide (a = b) := by by_cases h : a = b <;> simp [h]
theorem ret_all (l : List Ins) : (!l.any noJump) = l.all (·.op == 14) := by
  induction l with
  | nil => rfl
  | cons x l ih => simp only [List.any_cons, List.all_cons, Bool.not_or, ih, noJump]; congr 1; by_cases h : x.op = 14 <;> simp [h]
theorem isCode_sub {w : World} {b off c : Nat} {code : List Ins} {k m : Nat} (h : ∀ j, j < (insCells code).length → w.cell? ⟨b, off + j, none⟩ = some ((insCells code).getD j undef)) (hlt : b < w.heap.size) (hc : code.length ≤ c) (hk : k + m ≤ code.length) :
    IsCode w (.slice (some ⟨b, off + k * 3, none⟩) m (c - k)) ((code.drop k).take m) := by
  have hlen := insCells_length code
  have hl : ((code.drop k).take m).length = m := by simp; omega
  refine ⟨_, _, by rw [hl], by omega, fun _ => ⟨b, off + k * 3, rfl, hlt, fun j hj => ?_⟩⟩
  rw [insCells_length, hl] at hj
  have e : (insCells ((code.drop k).take m)).getD j undef = (insCells code).getD (k * 3 + j) undef := by
    have e0 : insCells code = insCells (code.take k) ++ (insCells ((code.drop k).take m) ++ insCells ((code.drop k).drop m)) := by
      rw [show insCells ((code.drop k).take m) ++ insCells ((code.drop k).drop m) = insCells ((code.drop k).take m ++ (code.drop k).drop m) from (List.flatMap_append).symm, List.take_append_drop]
      rw [show insCells (code.take k) ++ insCells (code.drop k) = insCells (code.take k ++ code.drop k) from (List.flatMap_append).symm, List.take_append_drop]
    have l0 : (insCells (code.take k)).length = k * 3 := by rw [insCells_length]; simp; omega
    have l1 : (insCells ((code.drop k).take m)).length = m * 3 := by rw [insCells_length, hl]
    rw [e0]
    simp only [List.getD_eq_getElem?_getD]
    rw [List.getElem?_append_right (by omega), l0, show k * 3 + j - k * 3 = j by omega, List.getElem?_append_left (by omega)]
  rw [e, Nat.add_assoc, h _ (by omega)]
def RightOk (b : Bool) (w : World) (e : Ending) (w' : World) : Prop := e = .returned (.bool b) ∧ Below w.heap.size w w'
set_option maxHeartbeats 2000000 in
set_option maxRecDepth 100000 in
theorem right_any (fv : Value) (fs : List FunD) (ta : Option Addr) (nt tc : Nat) (main : Int) (c l d : Int) (cv : Value) (code : List Ins) (k : Nat) (w : World)
    (hf : IsFuns w fv fs) (hfl : fs.length ≤ 1000000) (hnt : nt ≤ 1000000) (hc0 : 0 ≤ c) (hc1 : c ≤ 1000) (hl0 : 1 ≤ l) (hl1 : l ≤ 4096)
    (h : IsCode w cv code) (hl : code.length ≤ 1000000) (hk : k < code.length) :
    Calls Tryz.prog 34 #[.agg #[fv, .slice ta nt tc, .int .i64 main], .agg #[.int .i64 c, .int .i64 l, .int .i64 d, cv], .int .i64 k] w (RightOk (rightB nt fs c l code k) w) := by
  obtain ⟨a, cc, rfl, hlc, hcell⟩ := h
  obtain ⟨b, off, rfl, hlt, hc⟩ := hcell (by omega)
  obtain ⟨c0, c1, c2⟩ := insCells_at code k hk
  have hlen := insCells_length code
  have e0 := hc (k * 3) (by omega)
  have e1 := hc (k * 3 + 1) (by omega)
  have e2 := hc (k * 3 + 2) (by omega)
  rw [c0] at e0; rw [c1, ← Nat.add_assoc] at e1; rw [c2, ← Nat.add_assoc] at e2
  obtain ⟨i, hi⟩ : ∃ i, i = code.getD k default := ⟨_, rfl⟩
  rw [← hi] at e0 e1 e2
  have Hi := Lib.hid hi
  obtain ⟨op, x, y⟩ := i
  simp only at e0 e1 e2
  have Hcc := Lib.hid hc
  have Hf := Lib.hid hf
  clear hcell hc c0 c1 c2 hlen hi hf
  obtain ⟨⟨fa, fc, rfl, hfc, _⟩, _⟩ := Hf.out
  obtain ⟨bb, hbb⟩ : ∃ bb, knownB op = bb := ⟨_, rfl⟩
  have Hbb := Lib.hid hbb
  cases bb
  · have ht : Hid (rightB nt fs c l code k = false) := by
      show _ = _; rw [rightB_eq, ← Hi.out]; unfold rightI; simp only [hbb, if_true]
    clear hbb
    go_enter Tryz.func34, Tryz.ntmps34
    go_wp2_with fail
    refine (known_any _ _).mono ?_
    rintro e w' ⟨rfl, rfl⟩
    rw [Hbb.out]
    go_wp2_with fail
    go_ret
    exact ⟨by rw [ht.out]; rfl, (((Below.refl _ _).alloc (Nat.le_refl _) _).alloc (by simp) _).alloc (by simp; omega) _⟩
  · clear hbb
    go_enter Tryz.func34, Tryz.ntmps34
    go_wp2_with fail
    refine (known_any _ _).mono ?_
    rintro e w' ⟨rfl, rfl⟩
    rw [Hbb.out]
    go_upto_region 4 with fail
    have hB3 : Below w.heap.size w (((w.alloc (.cells #[.slice fa fs.length fc, .slice ta nt tc, .int .i64 main] 25)).alloc (.cells #[.int .i64 c, .int .i64 l, .int .i64 d, .slice (some ⟨b, off, none⟩) code.length cc] 48)).alloc (.cells #[.int .i64 op, .int .i64 x, .int .i64 y] 64)) := (((Below.refl _ _).alloc (Nat.le_refl _) _).alloc (by simp) _).alloc (by simp; omega) _
    have hs3 : w.heap.size + 3 = (((w.alloc (.cells #[.slice fa fs.length fc, .slice ta nt tc, .int .i64 main] 25)).alloc (.cells #[.int .i64 c, .int .i64 l, .int .i64 d, .slice (some ⟨b, off, none⟩) code.length cc] 48)).alloc (.cells #[.int .i64 op, .int .i64 x, .int .i64 y] 64)).heap.size := by simp
    have g1 : (((w.alloc (.cells #[.slice fa fs.length fc, .slice ta nt tc, .int .i64 main] 25)).alloc (.cells #[.int .i64 c, .int .i64 l, .int .i64 d, .slice (some ⟨b, off, none⟩) code.length cc] 48)).alloc (.cells #[.int .i64 op, .int .i64 x, .int .i64 y] 64)).heap[w.heap.size]? = some (.cells #[.slice fa fs.length fc, .slice ta nt tc, .int .i64 main] 25) := heap_two w _ _ _
    have g2 : (((w.alloc (.cells #[.slice fa fs.length fc, .slice ta nt tc, .int .i64 main] 25)).alloc (.cells #[.int .i64 c, .int .i64 l, .int .i64 d, .slice (some ⟨b, off, none⟩) code.length cc] 48)).alloc (.cells #[.int .i64 op, .int .i64 x, .int .i64 y] 64)).heap[w.heap.size + 1]? = some (.cells #[.int .i64 c, .int .i64 l, .int .i64 d, .slice (some ⟨b, off, none⟩) code.length cc] 48) := by
      rw [Below.heap_alloc _ _ _ (by simp)]; exact (congrArg _ (by simp)).trans (new_heap (w.alloc (.cells #[.slice fa fs.length fc, .slice ta nt tc, .int .i64 main] 25)) _)
    have g3 : (((w.alloc (.cells #[.slice fa fs.length fc, .slice ta nt tc, .int .i64 main] 25)).alloc (.cells #[.int .i64 c, .int .i64 l, .int .i64 d, .slice (some ⟨b, off, none⟩) code.length cc] 48)).alloc (.cells #[.int .i64 op, .int .i64 x, .int .i64 y] 64)).heap[w.heap.size + 1 + 1]? = some (.cells #[.int .i64 op, .int .i64 x, .int .i64 y] 64) := (congrArg _ (by simp)).trans (new_heap ((w.alloc (.cells #[.slice fa fs.length fc, .slice ta nt tc, .int .i64 main] 25)).alloc (.cells #[.int .i64 c, .int .i64 l, .int .i64 d, .slice (some ⟨b, off, none⟩) code.length cc] 48)) _)
    generalize (((w.alloc (.cells #[.slice fa fs.length fc, .slice ta nt tc, .int .i64 main] 25)).alloc (.cells #[.int .i64 c, .int .i64 l, .int .i64 d, .slice (some ⟨b, off, none⟩) code.length cc] 48)).alloc (.cells #[.int .i64 op, .int .i64 x, .int .i64 y] 64)) = W at hB3 hs3 g1 g2 g3 ⊢
    have k0 : W.cell? ⟨w.heap.size + 1 + 1, 0, none⟩ = some (.int .i64 op) := by simp [World.cell?, g3]
    go_cut [8] from 18 to 22 (fun n wx => n = .int .i64 (opnds op) ∧ Below W.heap.size W wx)
    case first =>
      clear Hcc Hf e0 e1 e2 g1 g2 g3
      have hix := words_index op Hbb.out
      have hfd := words_field (wordV op) (opnds op)
      have k2 : W.drew.cell? ⟨w.heap.size + 1 + 1, 0, none⟩ = _ := k0
      have k3 : w.heap.size + 1 + 1 < W.drew.heap.size := by show _ < W.heap.size; omega
      go_region_with ((go_at_call 24; refine (words_any _).mono ?_; rintro e w2 ⟨rfl, hw2⟩; have k1 := (hw2.cell (p := ⟨w.heap.size + 1 + 1, 0, none⟩) k3).trans k2; have k4 := hix w2; have k5 := hfd w2))
      all_goals (go_wp2_with fail; go_meet; exact ⟨rfl, (Below.refl _ W).drew.trans hw2⟩)
    case rest =>
      obtain ⟨rfl, hB4⟩ := hcut
      have hcellW : ∀ (q o : Nat) (v : Value), q < W.heap.size → W.cell? ⟨q, o, none⟩ = some v → wc.cell? ⟨q, o, none⟩ = some v := fun q o v hq hv => (hB4.cell (p := ⟨q, o, none⟩) hq).trans hv
      have i0 : wc.cell? ⟨w.heap.size + 1 + 1, 0, none⟩ = some (.int .i64 op) := hcellW _ _ _ (by omega) k0
      have i1 : wc.cell? ⟨w.heap.size + 1 + 1, 1, none⟩ = some (.int .i64 x) := hcellW _ _ _ (by omega) (by simp [World.cell?, g3])
      have i2 : wc.cell? ⟨w.heap.size + 1 + 1, 2, none⟩ = some (.int .i64 y) := hcellW _ _ _ (by omega) (by simp [World.cell?, g3])
      have f0 : wc.cell? ⟨w.heap.size + 1, 0, none⟩ = some (.int .i64 c) := hcellW _ _ _ (by omega) (by simp [World.cell?, g2])
      have f1 : wc.cell? ⟨w.heap.size + 1, 1, none⟩ = some (.int .i64 l) := hcellW _ _ _ (by omega) (by simp [World.cell?, g2])
      have f3 : wc.cell? ⟨w.heap.size + 1, 3, none⟩ = some (.slice (some ⟨b, off, none⟩) code.length cc) := hcellW _ _ _ (by omega) (by simp [World.cell?, g2])
      have p0 : wc.cell? ⟨w.heap.size, 0, none⟩ = some (.slice fa fs.length fc) := hcellW _ _ _ (by omega) (by simp [World.cell?, g1])
      have p1 : wc.cell? ⟨w.heap.size, 1, none⟩ = some (.slice ta nt tc) := hcellW _ _ _ (by omega) (by simp [World.cell?, g1])
      have hB : Below w.heap.size w wc := hB3.trans (hB4.mono (by omega))
      have Hcell := Lib.hid hcellW
      clear hcellW hB4 g1 g2 g3 k0 e0 e1 e2
      obtain ⟨q, hq⟩ : ∃ q, opnds op = q := ⟨_, rfl⟩
      have Hr : Hid (rightB nt fs c l code k = rightI nt fs c l code k ⟨op, x, y⟩) := by show _ = _; rw [rightB_eq, ← Hi.out]
      rw [hq]
      have hkn := Hbb.out
      clear Hbb
      rcases op_cases op with rfl | rfl | rfl | rfl | rfl | rfl | rfl | rfl | rfl | rfl | rfl | rfl | rfl | rfl | rfl | rfl | hno
      rotate_left 16
      · exfalso; unfold knownB inB at hkn; simp at hkn; omega
      · -- 1
        obtain rfl : q = 1 := by rw [← hq]; rfl
        clear hq hkn
        by_cases hy : y = 0
        · subst hy
          go_wp2_with fail
          refine (within_any _ _ _ _).mono ?_
          rintro e w' ⟨rfl, rfl⟩
          go_wp2_with fail
          go_ret
          exact ⟨by rw [Hr.out]; simp [rightI, opnds, knownB]; simp [inB], hB⟩
        · go_wp2_with fail
          go_ret
          exact ⟨by rw [Hr.out]; simp [rightI, opnds, hy], hB⟩
      · -- 2
        obtain rfl : q = 1 := by rw [← hq]; rfl
        clear hq hkn
        by_cases hy : y = 0
        · subst hy
          go_wp2_with fail
          refine (within_any _ _ _ _).mono ?_
          rintro e w' ⟨rfl, rfl⟩
          go_wp2_with fail
          go_ret
          exact ⟨by rw [Hr.out]; simp [rightI, opnds, knownB]; simp [inB], hB⟩
        · go_wp2_with fail
          go_ret
          exact ⟨by rw [Hr.out]; simp [rightI, opnds, hy], hB⟩
      · -- 3
        obtain rfl : q = 1 := by rw [← hq]; rfl
        clear hq hkn
        by_cases hy : y = 0
        · subst hy
          go_wp2_with fail
          refine (within_any _ _ _ _).mono ?_
          rintro e w' ⟨rfl, rfl⟩
          go_wp2_with fail
          go_ret
          exact ⟨by rw [Hr.out]; simp [rightI, opnds, knownB]; simp [inB], hB⟩
        · go_wp2_with fail
          go_ret
          exact ⟨by rw [Hr.out]; simp [rightI, opnds, hy], hB⟩
      · -- 4
        obtain rfl : q = 1 := by rw [← hq]; rfl
        clear hq hkn
        by_cases hy : y = 0
        · subst hy
          go_wp2_with fail
          refine (within_any _ _ _ _).mono ?_
          rintro e w' ⟨rfl, rfl⟩
          go_wp2_with fail
          go_ret
          exact ⟨by rw [Hr.out]; simp [rightI, opnds, knownB]; simp [inB], hB⟩
        · go_wp2_with fail
          go_ret
          exact ⟨by rw [Hr.out]; simp [rightI, opnds, hy], hB⟩
      · -- 5
        obtain rfl : q = 1 := by rw [← hq]; rfl
        clear hq hkn
        by_cases hy : y = 0
        · subst hy
          go_wp2_with fail
          refine (within_any _ _ _ _).mono ?_
          rintro e w' ⟨rfl, rfl⟩
          go_wp2_with fail
          go_ret
          exact ⟨by rw [Hr.out]; simp [rightI, opnds, knownB]; simp [inB], hB⟩
        · go_wp2_with fail
          go_ret
          exact ⟨by rw [Hr.out]; simp [rightI, opnds, hy], hB⟩
      · -- 6
        obtain rfl : q = 0 := by rw [← hq]; rfl
        clear hq hkn
        by_cases hx : x = 0
        · subst hx
          by_cases hy : y = 0
          · subst hy
            go_wp2_with fail
            go_ret
            exact ⟨by rw [Hr.out]; simp [rightI, opnds, knownB, inB], hB⟩
          · go_wp2_with fail
            go_ret
            exact ⟨by rw [Hr.out]; simp [rightI, opnds, hy], hB⟩
        · go_wp2_with fail
          go_ret
          exact ⟨by rw [Hr.out]; simp [rightI, opnds, hx], hB⟩
      · -- 7
        obtain rfl : q = 2 := by rw [← hq]; rfl
        clear hq hkn
        obtain ⟨bb, hbb⟩ : ∃ bb, inB x 0 ((fs.length : Int) - 1) = bb := ⟨_, rfl⟩
        have Hbb := Lib.hid hbb
        cases bb
        · go_upto_region 18 with fail
          go_quiet ((go_at_call 30; exact Calls.quiet_of_same ((within_any _ _ _ _).mono fun _ _ h => ⟨by rw [h.1, hbb], h.2.symm⟩)))
          go_wp2_with fail
          go_ret
          exact ⟨by rw [Hr.out]; simp [rightI, opnds, knownB, Hbb.out] <;> simp [inB], bdrewN hB _⟩
        · have hx0 : 0 ≤ x ∧ x ≤ (fs.length : Int) - 1 := by simpa [inB] using hbb
          obtain ⟨n, rfl⟩ := Int.eq_ofNat_of_zero_le hx0.1
          have hn : n < fs.length := by omega
          obtain ⟨fb, fo, fc', fd, _, fe, ff, _⟩ := Hf.out.at' n hn
          obtain rfl := (Value.slice.inj fd).1
          have ff' := Hcell.out _ _ _ (by have := hB3.size; omega) ((hB3.cell (p := ⟨fb, fo + n * 4, none⟩) fe).trans ff)
          generalize hcf : (fs.getD n default).c = cf at *
          have Hcf := Lib.hid hcf
          clear hcf ff fd hx0
          go_upto_region 18 with fail
          go_quiet ((go_at_call 30; exact Calls.quiet_of_same ((within_any _ _ _ _).mono fun _ _ h => ⟨by rw [h.1, hbb], h.2.symm⟩)))
          go_wp2_with fail
          go_ret
          exact ⟨by rw [Hr.out]; simp only [rightI, opnds, knownB, Hbb.out, Int.toNat_natCast, Hcf.out]; simp [inB]; exact beq_dec _ _, bdrewN hB _⟩
      · -- 8
        obtain rfl : q = 0 := by rw [← hq]; rfl
        clear hq hkn
        by_cases hx : x = 0
        · subst hx
          by_cases hy : y = 0
          · subst hy
            go_wp2_with fail
            go_ret
            exact ⟨by rw [Hr.out]; simp [rightI, opnds, knownB, inB], hB⟩
          · go_wp2_with fail
            go_ret
            exact ⟨by rw [Hr.out]; simp [rightI, opnds, hy], hB⟩
        · go_wp2_with fail
          go_ret
          exact ⟨by rw [Hr.out]; simp [rightI, opnds, hx], hB⟩
      · -- 9
        obtain rfl : q = 0 := by rw [← hq]; rfl
        clear hq hkn
        by_cases hx : x = 0
        · subst hx
          by_cases hy : y = 0
          · subst hy
            go_wp2_with fail
            go_ret
            exact ⟨by rw [Hr.out]; simp [rightI, opnds, knownB, inB], hB⟩
          · go_wp2_with fail
            go_ret
            exact ⟨by rw [Hr.out]; simp [rightI, opnds, hy], hB⟩
        · go_wp2_with fail
          go_ret
          exact ⟨by rw [Hr.out]; simp [rightI, opnds, hx], hB⟩
      · -- 10
        obtain rfl : q = 1 := by rw [← hq]; rfl
        clear hq hkn
        by_cases hy : y = 0
        · subst hy
          go_wp2_with fail
          refine (within_any _ _ _ _).mono ?_
          rintro e w' ⟨rfl, rfl⟩
          go_wp2_with fail
          go_ret
          exact ⟨by rw [Hr.out]; simp [rightI, opnds, knownB]; simp [inB], hB⟩
        · go_wp2_with fail
          go_ret
          exact ⟨by rw [Hr.out]; simp [rightI, opnds, hy], hB⟩
      · -- 11
        obtain rfl : q = 1 := by rw [← hq]; rfl
        clear hq hkn
        by_cases hy : y = 0
        · subst hy
          go_wp2_with fail
          refine (within_any _ _ _ _).mono ?_
          rintro e w' ⟨rfl, rfl⟩
          go_wp2_with fail
          go_ret
          exact ⟨by rw [Hr.out]; simp [rightI, opnds, knownB]; simp [inB], hB⟩
        · go_wp2_with fail
          go_ret
          exact ⟨by rw [Hr.out]; simp [rightI, opnds, hy], hB⟩
      · -- 12
        obtain rfl : q = 1 := by rw [← hq]; rfl
        clear hq hkn
        by_cases hy : y = 0
        · subst hy
          go_wp2_with fail
          refine (within_any _ _ _ _).mono ?_
          rintro e w' ⟨rfl, rfl⟩
          go_wp2_with fail
          go_ret
          exact ⟨by rw [Hr.out]; simp [rightI, opnds, knownB]; simp [inB], hB⟩
        · go_wp2_with fail
          go_ret
          exact ⟨by rw [Hr.out]; simp [rightI, opnds, hy], hB⟩
      · -- 13
        obtain rfl : q = 2 := by rw [← hq]; rfl
        clear hq hkn
        by_cases hx : 0 ≤ x ∧ x ≤ l - 1
        · have Hx : Hid (inB x 0 (l - 1) = true) := by show _ = _; simp [inB, hx]
          by_cases hy : 1 ≤ y ∧ y ≤ 1000
          · obtain ⟨m, rfl⟩ := Int.eq_ofNat_of_zero_le (show 0 ≤ y by omega)
            have Hy : Hid (inB (m : Int) 1 1000 = true) := by show _ = _; simp [inB, hy]
            by_cases hm : k + m < code.length
            · have hsub := Lib.hid (isCode_sub (w := w) (b := b) (off := off) (c := cc) (code := code) (k := k + 1) (m := m) Hcc.out hlt hlc (by omega))
              go_wp2_with fail
              refine (within_any _ _ _ _).mono ?_
              rintro e w' ⟨rfl, rfl⟩
              rw [Hx.out]
              go_wp2_with fail
              refine (within_any _ _ _ _).mono ?_
              rintro e w' ⟨rfl, rfl⟩
              rw [Hy.out]
              go_wp2_with fail
              refine (containsJ_any _ _ _ (IsRow.below hsub.out hB) (by simp; omega)).mono ?_
              rintro e w' ⟨rfl, hb1⟩
              have hbz : Below w.heap.size w w' := hB.trans (hb1.mono hB.size)
              go_wp2_with fail
              go_ret
              exact ⟨by rw [Hr.out, ret_all]; simp [rightI, opnds, knownB, Hx.out, Hy.out]; simp [inB]; intro; omega, hbz⟩
            · go_wp2_with fail
              refine (within_any _ _ _ _).mono ?_
              rintro e w' ⟨rfl, rfl⟩
              rw [Hx.out]
              go_wp2_with fail
              refine (within_any _ _ _ _).mono ?_
              rintro e w' ⟨rfl, rfl⟩
              rw [Hy.out]
              go_wp2_with fail
              go_ret
              exact ⟨by rw [Hr.out]; simp [rightI, opnds, knownB, Hx.out, Hy.out] <;> simp [inB] <;> omega, hB⟩
          · have Hy : Hid (inB y 1 1000 = false) := by show _ = _; simp [inB]; omega
            go_wp2_with fail
            refine (within_any _ _ _ _).mono ?_
            rintro e w' ⟨rfl, rfl⟩
            rw [Hx.out]
            go_wp2_with fail
            refine (within_any _ _ _ _).mono ?_
            rintro e w' ⟨rfl, rfl⟩
            rw [Hy.out]
            go_wp2_with fail
            go_ret
            exact ⟨by rw [Hr.out]; simp [rightI, opnds, knownB, Hx.out, Hy.out] <;> simp [inB], hB⟩
        · have Hx : Hid (inB x 0 (l - 1) = false) := by show _ = _; simp [inB]; omega
          go_wp2_with fail
          refine (within_any _ _ _ _).mono ?_
          rintro e w' ⟨rfl, rfl⟩
          rw [Hx.out]
          go_wp2_with fail
          go_ret
          exact ⟨by rw [Hr.out]; simp [rightI, opnds, knownB, Hx.out] <;> simp [inB], hB⟩
      · -- 14
        obtain rfl : q = 1 := by rw [← hq]; rfl
        clear hq hkn
        by_cases hy : y = 0
        · subst hy
          go_wp2_with fail
          refine (within_any _ _ _ _).mono ?_
          rintro e w' ⟨rfl, rfl⟩
          go_wp2_with fail
          go_ret
          exact ⟨by rw [Hr.out]; simp [rightI, opnds, knownB]; simp [inB], hB⟩
        · go_wp2_with fail
          go_ret
          exact ⟨by rw [Hr.out]; simp [rightI, opnds, hy], hB⟩
      · -- 15
        obtain rfl : q = 1 := by rw [← hq]; rfl
        clear hq hkn
        by_cases hy : y = 0
        · subst hy
          go_wp2_with fail
          refine (within_any _ _ _ _).mono ?_
          rintro e w' ⟨rfl, rfl⟩
          go_wp2_with fail
          go_ret
          exact ⟨by rw [Hr.out]; simp [rightI, opnds, knownB]; simp [inB], hB⟩
        · go_wp2_with fail
          go_ret
          exact ⟨by rw [Hr.out]; simp [rightI, opnds, hy], hB⟩
      · -- 16
        obtain rfl : q = 1 := by rw [← hq]; rfl
        clear hq hkn
        by_cases hy : y = 0
        · subst hy
          go_wp2_with fail
          refine (within_any _ _ _ _).mono ?_
          rintro e w' ⟨rfl, rfl⟩
          go_wp2_with fail
          go_ret
          exact ⟨by rw [Hr.out]; simp [rightI, opnds, knownB]; simp [inB], hB⟩
        · go_wp2_with fail
          go_ret
          exact ⟨by rw [Hr.out]; simp [rightI, opnds, hy], hB⟩
end Go.Proofs.YtidffjlpldalpaaGreatDoor

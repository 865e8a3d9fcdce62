/- Plain and textual of the reference. Valid of the reference. Put and Sum of the reference. Encode of the reference. Reading a number: the list, and the reader's number. -/
import Derived.Test.YtidffjlpldalpaaGreatDoorP14
import Derived.Test.YtidffjlpldalpaaGreatDoorP15
import Derived.Lib.ConvBytes
import Derived.Deep.AppendLies
set_option linter.unusedVariables false
set_option linter.unusedSimpArgs false
namespace Go.Proofs.YtidffjlpldalpaaGreatDoor
open Go Go.RowKit




theorem below_bytes {B : Nat} {a w : World} (e : TypeId) (s : ByteArray) (h : Below B a w) (hB : B ≤ w.heap.size) : Below B a (Lib.bytesWorld w e s) :=
  h.trans ⟨rfl, rfl, rfl, by rw [Lib.bytesWorld_size]; omega, fun k hk => Lib.bytesWorld_at_old w e s k (by omega)⟩
theorem ownsRow_mono {w : World} {base base' : Nat} {e : TypeId} {size : Nat} {v : Value} {n : Nat} {xs : List Value} (h : w.ownsRow base e size v n xs) (hb : base' ≤ base) : w.ownsRow base' e size v n xs :=
  ⟨h.1, h.2.imp id fun ⟨g, cap, cur, hv, hg, hr⟩ => ⟨g, cap, cur, hv, Nat.le_trans hb hg, hr⟩⟩

def unzig (z : Int) : Int := if z % 2 = 1 then -((z + 1) / 2) else z / 2
/-- What stands at the head of bytes: the number's code, and what follows; f bytes may be read yet. -/
def getF : Nat → Int → Int → Bool → List Int → Option (Int × List Int)
  | 0, _, _, _, _ => none
  | _ + 1, _, _, _, [] => none
  | f + 1, z, p, first, c :: l => if 128 ≤ c then getF f (z + c % 128 * p) (p * 128) false l else if c = 0 ∧ first = false then none else some (unzig (z + c % 128 * p), l)
def rawGet (l : List Int) : Option (Int × List Int) := getF 8 0 1 true l
def fitB (n : Int) : Bool := inB n (-4503599627370496) 4503599627370496
def numT (l : List Int) (bad : Bool) : Int × List Int × Bool :=
  match rawGet l with
  | none => (0, [], true)
  | some (n, l') => (n, l', bad || !fitB n)
theorem numT_none (l : List Int) (bad : Bool) (h : rawGet l = none) : numT l bad = (0, [], true) := by unfold numT; rw [h]
theorem numT_some (l : List Int) (bad : Bool) (n : Int) (l' : List Int) (h : rawGet l = some (n, l')) : numT l bad = (n, l', bad || !fitB n) := by unfold numT; rw [h]
theorem getF_end (f : Nat) (z p : Int) (b : Bool) : getF f z p b [] = none := by cases f <;> rfl
theorem drop_cons (l : List Int) (k : Nat) (h : k < l.length) : l.drop k = l.getD k 0 :: l.drop (k + 1) := by
  rw [List.drop_eq_getElem_cons h]; simp [List.getD, h]
theorem getF_more (f : Nat) (z p : Int) (b : Bool) (c : Int) (l : List Int) (h : 128 ≤ c) : getF (f + 1) z p b (c :: l) = getF f (z + c % 128 * p) (p * 128) false l := by rw [getF, if_pos h]
theorem getF_zero (f : Nat) (z p : Int) (l : List Int) : getF (f + 1) z p false (0 :: l) = none := by rw [getF, if_neg (by omega), if_pos ⟨rfl, rfl⟩]
theorem getF_last (f : Nat) (z p : Int) (b : Bool) (c : Int) (l : List Int) (h : ¬ 128 ≤ c) (h0 : ¬ (c = 0 ∧ b = false)) : getF (f + 1) z p b (c :: l) = some (unzig (z + c % 128 * p), l) := by rw [getF, if_neg h, if_neg h0]

/-- Nothing but one block has turned. -/
structure OnlyAt (rb : Nat) (w w' : World) : Prop where
  os : w'.os = w.os
  tape : w'.tape = w.tape
  output : w'.output = w.output
  size : w'.heap.size = w.heap.size
  block : ∀ k, k ≠ rb → w'.heap[k]? = w.heap[k]?
theorem OnlyAt.refl (rb : Nat) (w : World) : OnlyAt rb w w := ⟨rfl, rfl, rfl, rfl, fun _ _ => rfl⟩
theorem OnlyAt.trans {rb : Nat} {a b c : World} (h : OnlyAt rb a b) (k : OnlyAt rb b c) : OnlyAt rb a c :=
  ⟨k.os.trans h.os, k.tape.trans h.tape, k.output.trans h.output, k.size.trans h.size, fun q hq => (k.block q hq).trans (h.block q hq)⟩
theorem OnlyAt.set (w : World) (rb o : Nat) (u : Value) : OnlyAt rb w (w.setCell ⟨rb, o, none⟩ u) :=
  ⟨rfl, rfl, rfl, by simp, fun k hk => Below.heap_setCell _ _ _ _ hk⟩
theorem OnlyAt.below {rb B : Nat} {w w' : World} (h : OnlyAt rb w w') (hB : B ≤ rb) : Below B w w' :=
  ⟨h.os, h.tape, h.output, Nat.le_of_eq h.size.symm, fun k hk => h.block k (by omega)⟩
theorem OnlyAt.cell {rb : Nat} {w w' : World} (h : OnlyAt rb w w') {a : Addr} (ha : a.block ≠ rb) : w'.cell? a = w.cell? a := World.cell?_of_block (w := w) (h.block a.block ha)
/-- The reader at rb has these bytes yet, and its mark. -/
def RdAt (w : World) (rb : Nat) (l : List Int) (bad : Bool) : Prop :=
  ∃ a c, w.heap[rb]? = some (.cells #[.slice a l.length c, .bool bad] 112 (0, 0)) ∧ l.length ≤ c ∧
    (0 < l.length → ∃ b off, a = some ⟨b, off, none⟩ ∧ b < rb ∧ ∀ j, j < l.length → w.cell? ⟨b, off + j, none⟩ = some (.int .u8 (l.getD j 0)))
def NumOk (rb : Nat) (t : Int × List Int × Bool) (w : World) (e : Ending) (w' : World) : Prop := e = .returned (.int .i64 t.1) ∧ RdAt w' rb t.2.1 t.2.2 ∧ OnlyAt rb w w'
theorem mul_127 (c P : Int) (hP : 1 ≤ P) : 0 ≤ c % 128 * P ∧ c % 128 * P ≤ 127 * P :=
  ⟨Int.mul_nonneg (by omega) (by omega), Int.mul_le_mul_of_nonneg_right (by omega) (by omega)⟩
theorem drop_getD (l : List Int) (k j : Nat) : (l.drop k).getD j 0 = l.getD (k + j) 0 := by simp only [List.getD_eq_getElem?_getD, List.getElem?_drop]
theorem unzig_odd (z : Int) (h0 : 0 ≤ z) (h : z % 2 = 1) : (-(z + 1)).tdiv 2 = unzig z := by
  unfold unzig; rw [if_pos h, Int.neg_tdiv, Int.tdiv_eq_ediv_of_nonneg (by omega)]
theorem unzig_even (z : Int) (h : ¬ z % 2 = 1) : z / 2 = unzig z := by unfold unzig; rw [if_neg h]
theorem unzig_bound (z : Int) (h0 : 0 ≤ z) (h1 : z ≤ 72057594037927936) : -72057594037927936 ≤ unzig z ∧ unzig z ≤ 72057594037927936 := by unfold unzig; split <;> omega
set_option maxHeartbeats 2000000 in
set_option maxRecDepth 100000 in
theorem number_any (rb : Nat) (l : List Int) (bad : Bool) (w : World) (h : RdAt w rb l bad) (hb : AreBytes l) (hl : l.length ≤ 1000000) :
    Calls Tryz.prog 71 #[.pointer (some ⟨rb, 0, none⟩)] w (NumOk rb (numT l bad) w) := by
  obtain ⟨a, c, hr, hlc, hx⟩ := h
  have HX := Lib.hid hx
  have Hr := Lib.hid hr
  obtain ⟨r0, r1⟩ := two_cells hr
  have fz0 : w.frozen? ⟨rb, 0, none⟩ = false := Lib.frozen_of_heap hr 0
  have fz1 : w.frozen? ⟨rb, 1, none⟩ = false := Lib.frozen_of_heap hr 1
  clear hx hr
  go_enter Tryz.func71, Tryz.ntmps71
  go_wp2_with fail
  go_loop [3, 4, 13] (fun zv pv i => ∃ (k : Nat) (z P : Int), k ≤ l.length ∧ k ≤ 8 ∧ i = .int .i64 k ∧ zv = .int .i64 z ∧ pv = .int .i64 P ∧ 0 ≤ z ∧ z < P ∧ Hid (P = 128 ^ k) ∧ Hid (getF (8 - k) z P (decide (k = 0)) (l.drop k) = rawGet l)) (fun _ _ i => l.length - (intOf i).toNat)
  case atStart => exact ⟨0, 0, 1, Nat.zero_le _, by decide, rfl, rfl, rfl, by decide, by decide, rfl, rfl⟩
  case round =>
    obtain ⟨k, z, P, hk, hk8, rfl, rfl, rfl, hz0, hzP, HP, HG⟩ := hrel
    have hfail : RdAt ((w.setCell ⟨rb, 1, none⟩ (.bool true)).setCell ⟨rb, 0, none⟩ (.slice none 0 0)) rb [] true := ⟨none, 0, by rw [heap_set_same (heap_set_same Hr.out _)]; rfl, Nat.le_refl _, fun h => absurd h (Nat.lt_irrefl 0)⟩
    have hfo : OnlyAt rb w ((w.setCell ⟨rb, 1, none⟩ (.bool true)).setCell ⟨rb, 0, none⟩ (.slice none 0 0)) := (OnlyAt.set _ _ _ _).trans (OnlyAt.set _ _ _ _)
    by_cases hkl : k < l.length
    · by_cases hk7 : k = 8
      · have hN : Hid (numT l bad = (0, [], true)) := numT_none _ _ (by rw [← HG.out, hk7]; rfl)
        subst hk7
        obtain ⟨b, off, rfl, _, hc⟩ := HX.out (by omega)
        have d0 := hc 8 hkl
        clear hc HG HP
        go_wp2_with fail
        go_ret
        exact ⟨by rw [hN.out]; rfl, by rw [hN.out]; exact hfail, hfo⟩
      · obtain ⟨b, off, rfl, hlrb, hc⟩ := HX.out (by omega)
        have hbrb : b ≠ rb := Nat.ne_of_lt hlrb
        have d0 := hc k hkl
        have hk7' : k ≤ 7 := by omega
        have hP : 1 ≤ P ∧ P ≤ 562949953421312 := by
          have := HP.out
          rcases (by omega : k = 0 ∨ k = 1 ∨ k = 2 ∨ k = 3 ∨ k = 4 ∨ k = 5 ∨ k = 6 ∨ k = 7) with rfl | rfl | rfl | rfl | rfl | rfl | rfl | rfl <;> (rw [this]; decide)
        have hk8' : ((k : Int) == 8) = false := beq_eq_false_iff_ne.2 (by omega)
        obtain ⟨x0, x1⟩ := hb.at k hkl
        have hG := HG.out
        rw [drop_cons l k hkl, show 8 - k = (8 - (k + 1)) + 1 by omega] at hG
        have Hc := Lib.hid hc
        clear hc
        generalize l.getD k 0 = x at *
        obtain ⟨m0, m1⟩ := mul_127 x P hP.1
        by_cases h128 : 128 ≤ x
        · rw [getF_more _ _ _ _ _ _ h128] at hG
          have hN : Hid (getF (8 - (k + 1)) (z + x % 128 * P) (P * 128) (decide (k + 1 = 0)) (l.drop (k + 1)) = rawGet l) := by show _ = _; rw [← hG, decide_eq_false (by omega)]
          have hPn : Hid (P * 128 = 128 ^ (k + 1)) := by show _ = _; rw [HP.out, Int.pow_succ]
          clear hG HG
          go_wp2_with fail
          go_round
          case rel => exact ⟨k + 1, z + x % 128 * P, P * 128, by omega, by omega, by go_num, rfl, rfl, by omega, by omega, hPn, hN⟩
          case measure => simp [intOf]; omega
        · by_cases h0 : x = 0 ∧ decide (k = 0) = false
          · have hN : Hid (numT l bad = (0, [], true)) := numT_none _ _ (by rw [← hG, h0.1, h0.2, getF_zero])
            have hk0 : k ≠ 0 := by have := h0.2; simpa using this
            obtain rfl := h0.1
            have hkb : ((0 : Int) < (k : Int)) = True := eq_true (by omega)
            clear hG HG h0
            go_wp2_with fail
            go_ret
            exact ⟨by rw [hN.out]; rfl, by rw [hN.out]; exact hfail, hfo⟩
          · rw [getF_last _ _ _ _ _ _ h128 h0] at hG
            have hraw := Lib.hid hG.symm
            have hm2 : z + x % 128 * P ≤ 72057594037927936 := by omega
            have hm3 : 0 ≤ z + x % 128 * P := by omega
            have hxk : x = 0 → k = 0 := fun h => by
              have : ¬ (decide (k = 0) = false) := fun e => h0 ⟨h, e⟩
              simpa using this
            have hs1 : k + 1 ≤ l.length := by omega
            have hs2 : (k : Int) + 1 ≤ (l.length : Int) := by omega
            have hs3 : (l.length : Int) ≤ (c : Int) := by omega
            have HXK := Lib.hid hxk
            clear hG HG h0 hxk hfail hfo HP
            generalize hzz : z + x % 128 * P = zz at *
            go_upto_region 9 with fail
            go_cut [36] from 29 to 36 (fun v wx => v = .bool false ∧ wx = w)
            case first =>
              by_cases hx0 : x = 0
              · have hk0 := HXK.out hx0
                have hkb : ((0 : Int) < (k : Int)) = False := eq_false (by omega)
                have hkn : (0 < k) = False := eq_false (by omega)
                have hxb : (x == 0) = true := by rw [beq_iff_eq]; exact hx0
                clear hk0 hx0
                go_wp2_with fail
                go_meet
                exact ⟨rfl, rfl⟩
              · have hxb : (x == 0) = false := beq_eq_false_iff_ne.2 hx0
                clear hx0
                go_wp2_with fail
                go_meet
                exact ⟨rfl, rfl⟩
            case rest =>
              obtain ⟨rfl, rfl⟩ := hcut
              go_upto_region 10 with fail
              go_cut [3] from 37 to 46 (fun v wx => v = .int .i64 zz ∧ ∃ A : Addr, wx = wc.setCell ⟨rb, 0, none⟩ (.slice (some A) (l.length - (k + 1)) (c - (k + 1))) ∧ (c = k + 1 ∨ A = ⟨b, off + (k + 1), none⟩))
              case first =>
                by_cases hck : c = k + 1
                · subst hck
                  go_wp2_with fail
                  go_meet
                  exact ⟨rfl, ⟨b, off, none⟩, by have e1 : l.length - (k + 1) = 0 := by omega
                                                 simp [e1], .inl trivial⟩
                · have hck' : (c = k + 1) = False := eq_false hck
                  go_wp2_with fail
                  go_meet
                  exact ⟨rfl, _, rfl, .inr rfl⟩
              case rest =>
                obtain ⟨rfl, A, rfl, hA⟩ := hcut
                have hls : l.length - (k + 1) = (l.drop (k + 1)).length := by rw [List.length_drop]
                have hr1 := (heap_set_same (i := 0) Hr.out (.slice (some A) (l.length - (k + 1)) (c - (k + 1)))).trans (show _ = some (.cells #[.slice (some A) (l.length - (k + 1)) (c - (k + 1)), .bool bad] 112 (0, 0)) from rfl)
                rename World => w0
                have hO1 := OnlyAt.set w0 rb 0 (.slice (some A) (l.length - (k + 1)) (c - (k + 1)))
                generalize w0.setCell ⟨rb, 0, none⟩ (.slice (some A) (l.length - (k + 1)) (c - (k + 1))) = W1 at *
                have HRd : Hid (∀ bad', RdAt (W1.setCell ⟨rb, 1, none⟩ (.bool bad')) rb (l.drop (k + 1)) bad') := fun bad' => by
                  refine ⟨some A, c - (k + 1), by rw [heap_set_same hr1 _, hls]; rfl, by omega, fun h0 => ?_⟩
                  rcases hA with hA | rfl
                  · exfalso; rw [List.length_drop] at h0; omega
                  · refine ⟨b, off + (k + 1), rfl, hlrb, fun j hj => ?_⟩
                    rw [(hO1.trans (OnlyAt.set _ rb 1 _)).cell (a := ⟨b, off + (k + 1) + j, none⟩) hbrb, drop_getD, Nat.add_assoc]
                    exact Hc.out (k + 1 + j) (by rw [List.length_drop] at hj; omega)
                have HOn : Hid (∀ u', OnlyAt rb w0 (W1.setCell ⟨rb, 1, none⟩ u')) := fun u' => hO1.trans (OnlyAt.set _ _ _ _)
                obtain ⟨_, s1⟩ := two_cells hr1
                have fs1 : W1.frozen? ⟨rb, 1, none⟩ = false := Lib.frozen_of_heap hr1 1
                clear hr1 hO1 hA hls
                by_cases hodd : zz % 2 = 1
                · have hu := unzig_odd zz hm3 hodd
                  have hub := unzig_bound zz hm3 hm2
                  generalize unzig zz = n at *
                  cases bad
                  · have hT : Hid (numT l false = (n, l.drop (k + 1), !fitB n)) := by show _ = _; rw [numT_some _ _ _ _ hraw.out]; rfl
                    go_wp2_with fail
                    refine (within_any _ _ _ _).mono ?_
                    rintro e w' ⟨rfl, rfl⟩
                    go_wp2_with fail
                    go_ret
                    exact ⟨by rw [hT.out]; rfl, by rw [hT.out]; exact HRd.out _, HOn.out _⟩
                  · have hT : Hid (numT l true = (n, l.drop (k + 1), true)) := by show _ = _; rw [numT_some _ _ _ _ hraw.out]; rfl
                    go_wp2_with fail
                    go_ret
                    exact ⟨by rw [hT.out]; rfl, by rw [hT.out]; exact HRd.out _, HOn.out _⟩
                · have hu := unzig_even zz hodd
                  have hub := unzig_bound zz hm3 hm2
                  have hodd' : (zz % 2 == 1) = false := beq_eq_false_iff_ne.2 hodd
                  generalize unzig zz = n at *
                  cases bad
                  · have hT : Hid (numT l false = (n, l.drop (k + 1), !fitB n)) := by show _ = _; rw [numT_some _ _ _ _ hraw.out]; rfl
                    go_wp2_with fail
                    refine (within_any _ _ _ _).mono ?_
                    rintro e w' ⟨rfl, rfl⟩
                    go_wp2_with fail
                    go_ret
                    exact ⟨by rw [hT.out]; rfl, by rw [hT.out]; exact HRd.out _, HOn.out _⟩
                  · have hT : Hid (numT l true = (n, l.drop (k + 1), true)) := by show _ = _; rw [numT_some _ _ _ _ hraw.out]; rfl
                    go_wp2_with fail
                    go_ret
                    exact ⟨by rw [hT.out]; rfl, by rw [hT.out]; exact HRd.out _, HOn.out _⟩
    · have hkk : k = l.length := by omega
      have hN : Hid (numT l bad = (0, [], true)) := numT_none _ _ (by rw [← HG.out, List.drop_of_length_le (by omega), getF_end])
      go_wp2_with fail
      go_ret
      exact ⟨by rw [hN.out]; rfl, by rw [hN.out]; exact hfail, hfo⟩
end Go.Proofs.YtidffjlpldalpaaGreatDoor

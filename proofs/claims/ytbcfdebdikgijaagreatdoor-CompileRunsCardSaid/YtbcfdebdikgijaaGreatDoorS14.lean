/- Part of the proof; its texts: Cb1 Cb2. -/
import Derived.Test.YtbcfdebdikgijaaGreatDoorS3
import Derived.Shelf.Strings.Builder1
import Derived.Shelf.Strings.BuilderK
import Derived.Test.YtbcfdebdikgijaaGreatDoorShelf
set_option maxRecDepth 100000
set_option linter.unusedVariables false
set_option linter.unusedSimpArgs false
set_option maxHeartbeats 2000000
namespace Go.Proofs.YtbcfdebdikgijaaGreatDoor
open Go Go.RowKit
theorem AO : (Tryz.prog.info? 5).map (fun i => (i.zero, i.size, i.bytes)) = some (some (.int .u8 0), 1, 1) := by kernel_rfl
theorem Ow : (Tryz.prog.info? 152).map (·.size) = some 2 := by kernel_rfl
theorem PI (b : Nat) (w : World) (h0 : w.cell? ⟨b, 0, none⟩ = some (.pointer (some ⟨b, 0, none⟩))) :
 Calls Tryz.prog 99 #[.pointer (some ⟨b, 0, none⟩)] w fun e w' => e = .returned (.tuple #[]) /\ w' = w := by
 obtain ⟨j, hj, _⟩ := Option.map_eq_some_iff.1 Ow
 go_in
 go_wp2
 rw [Lib.run_neq_ptr_same w _ Tryz.underlying149 hj]
 go_wp2
 go_end0
 exact ⟨rfl, rfl⟩
theorem Qa (b : Nat) (w : World) (h0 : w.cell? ⟨b, 0, none⟩ = some (.pointer none)) (hsh : w.shape? b = some (152, 2)) (hfz : w.frozen? ⟨b, 0, none⟩ = false) :
 Calls Tryz.prog 99 #[.pointer (some ⟨b, 0, none⟩)] w fun e w' => e = .returned (.tuple #[]) /\ w' = w.setCell ⟨b, 0, none⟩ (.pointer (some ⟨b, 0, none⟩)) := by
 obtain ⟨j, hj, hjs⟩ := Option.map_eq_some_iff.1 Ow
 go_in
 go_wp2
 rw [Lib.run_to_unsafe w ⟨b, 0, none⟩ Tryz.underlying149 Tryz.underlying198 hj (by rw [hjs]; decide) hsh (Nat.zero_lt_succ 1)]
 simp only [Result.andThen]
 rw [Oper.upon_value]
 go_wp2
 rw [run_callFunc_extern Tryz.func114 (by kernel_rfl) (by kernel_rfl) (by kernel_rfl) (e := Extern.AbiNoEscape.same) (by kernel_rfl)]
 rw [Lib.run_noEscape]
 simp only [Result.andThen]
 rw [Oper.upon_value]
 go_wp2
 rw [Lib.run_from_unsafe w ⟨b, 0, none⟩ Tryz.underlying198 Tryz.underlying149 hj hsh (by kernel_rfl)]
 simp only [Result.andThen]
 rw [Oper.upon_value]
 go_wp2
 go_end0
 exact ⟨rfl, rfl⟩
def WW (w w' : World) : Prop := ∀ (k : Nat) (cs : Array Value) (t : TypeId) (z : Nat × Nat), w.heap[k]? = some (.cells cs t z) -> t ≠ 5 -> t ≠ 152 -> w'.heap[k]? = some (.cells cs t z)
theorem WW.refl (w : World) : WW w w := fun _ _ _ _ h _ _ => h
theorem WW.trans {a b c : World} (h : WW a b) (k : WW b c) : WW a c := fun q cs t z hq h1 h2 => k q cs t z (h q cs t z hq h1 h2) h1 h2
theorem WW.below {w w' : World} (h : Below w.heap.size w w') : WW w w' := fun k _ _ _ hk _ _ => by rw [h.block k (Z6 hk)]; exact hk
theorem WW.setCell {w : World} {b o : Nat} {cs : Array Value} {z : Nat × Nat} (hb : w.heap[b]? = some (.cells cs 152 z)) (u : Value) : WW w (w.setCell ⟨b, o, none⟩ u) := fun k cs' t z' hk _ h2 => by
 rw [Below.heap_setCell _ _ _ _ (fun e => ?_)]
 ·exact hk
 ·have e' : k = b := e
  subst e'; rw [hb] at hk; cases hk; exact h2 rfl
theorem zx {w : World} {base : Nat} {e : TypeId} {v : Value} {n : Nat} {xs : List Value} (h : w.ownsRow base e 1 v n xs) {k : Nat} (hk : v.ownBlock = some k) : ∃ cs, w.heap[k]? = some (.cells cs e (0, 0)) := by
 rcases h.2 with ⟨rfl, _⟩ | ⟨g, cap, cur, rfl, _, hh, _⟩
 ·cases hk
 ·cases hk; exact ⟨cur, hh⟩
theorem WW.grown {w w' : World} {base : Nat} {v : Value} {n : Nat} {xs : List Value} (hg : w.grownBy w' v.ownBlock) (h : w.ownsRow base 5 1 v n xs) : WW w w' := fun k cs t z hk h1 _ => by
 rw [hg.block k (Z6 hk) (fun e => ?_)]
 ·exact hk
 ·obtain ⟨cs', hc⟩ := zx h e.symm
  rw [hc] at hk; cases hk; exact h1 rfl
theorem P8 (B b : Nat) (bs : List Value) (w : World) (h : Lib.IsBuilder 152 5 B b bs w) :
 Calls Tryz.prog 99 #[.pointer (some ⟨b, 0, none⟩)] w fun e w' => e = .returned (.tuple #[]) /\ (Lib.BuilderAt 152 5 B b (.pointer (some ⟨b, 0, none⟩)) bs w' /\ Below B w w' /\ WW w w') := by
 rcases h with h | h
 ·refine (Qa b w h.cell0 h.shape h.frozen0).mono ?_
  rintro e w' ⟨rfl, rfl⟩; exact ⟨rfl, h.used _, (Below.refl B w).setCell (p := ⟨b, 0, none⟩) h.1 _, by obtain ⟨_, v, hb, _⟩ := h; exact WW.setCell hb _⟩
 ·refine (PI b w h.cell0).mono ?_
  rintro e w' ⟨rfl, rfl⟩; exact ⟨rfl, h, Below.refl B _, WW.refl _⟩
theorem MG (B b : Nat) (bs : List Value) (s : ByteArray) (w : World) (h : Lib.IsBuilder 152 5 B b bs w) (hlen : bs.length + s.size <= 140737488355328) (hBw : B <= w.heap.size) :
 Calls Tryz.prog 81 #[.pointer (some ⟨b, 0, none⟩), .string s] w fun e w' => e = .returned (.tuple #[.int .i64 s.size, .nilIface]) /\ (Lib.BuilderAt 152 5 B b (.pointer (some ⟨b, 0, none⟩)) (bs ++ Lib.strCells s) w' /\ Below B w w' /\ WW w w') := by
 obtain ⟨i0, hi, hz0, hz1, hz2⟩ := info_parts AO
 go_in
 go_wp2_with fail
 refine (P8 B b bs _ h).mono ?_
 rintro e w1 ⟨rfl, h1, hb1, hO1⟩
 obtain ⟨hB, v, hbk, hown, hne⟩ := h1
 have c0 : w1.cell? ⟨b, 0, none⟩ = some (.pointer (some ⟨b, 0, none⟩)) := by rw [Lib.cell_of_heap hbk]; rfl
 have c1 : w1.cell? ⟨b, 1, none⟩ = some v := by rw [Lib.cell_of_heap hbk]; rfl
 go_wp2_with (at_builtin; refine Lib.wpList_append_own_string _ rfl _ _ 150 9 rfl B 5 i0 Tryz.underlying150 Tryz.underlying9 hi hz0 hz1 hz2 _ _ _ rfl hown s rfl ?c3 ?c4 ?c5 ?_)
 case c3 => unfold maxLen; omega
 case c4 => omega
 case c5 => have := hb1.size; omega
 intro v' w2 hown' hgrow _
 have hlt : b < w1.heap.size := by
  rcases Nat.lt_or_ge b w1.heap.size with h' | h'
  ·exact h'
  ·simp [Array.getElem?_eq_none h'] at hbk
 have hb2 : w2.heap[b]? = some (.cells #[.pointer (some ⟨b, 0, none⟩), v] 152 (0, 0)) := by
  rw [hgrow.block b hlt (fun e => hne e.symm)]; exact hbk
 have d0 : w2.cell? ⟨b, 0, none⟩ = some (.pointer (some ⟨b, 0, none⟩)) := by rw [Lib.cell_of_heap hb2]; rfl
 have d1 : w2.cell? ⟨b, 1, none⟩ = some v := by rw [Lib.cell_of_heap hb2]; rfl
 have f1 : w2.frozen? ⟨b, 1, none⟩ = false := Lib.frozen_of_heap hb2 1
 obtain ⟨ao, n', cap, rfl⟩ : ∃ ao n' cap, v' = .slice ao n' cap := by
  rcases hown'.2 with ⟨hv, _⟩ | ⟨g, cap, cur, hv, _⟩
  ·exact ⟨_, _, _, hv⟩
  ·exact ⟨_, _, _, hv⟩
 go_wp2
 go_ret2
 refine ⟨rfl, ?_, ?_, hO1.trans ((WW.grown hgrow hown).trans (WW.setCell hb2 _))⟩
 ·exact Lib.BuilderAt.put (T := 152) (e := 5) hB hb2 (bs' := bs ++ Lib.strCells s) (by simpa [Lib.strCells_length] using hown') (by decide)
 ·exact (hb1.grown hgrow (by have := hb1.size; omega) (fun k hk => (hown.lt k hk).1)).setCell (p := ⟨b, 1, none⟩) hB _
theorem SN (pre : List UInt8) : (Lib.byteCells pre).length = pre.length := Lib.byteCells_length pre
theorem zu (w : World) (B : Nat) (hB : B <= w.heap.size) : Lib.IsBuilder 152 5 B w.heap.size [] (w.alloc (.cells #[.pointer none, .slice none 0 0] 152)) :=
 .inl ⟨hB, .slice none 0 0, ZV w _, World.ownsRow_nil _ _ _ _, by simp [Value.ownBlock]⟩
theorem WB (B b : Nat) (bs : List Value) (c : Int) (w : World) (h : Lib.IsBuilder 152 5 B b bs w) (hlen : bs.length + 1 <= 140737488355328) (hBw : B <= w.heap.size) :
 Calls Tryz.prog 80 #[.pointer (some ⟨b, 0, none⟩), .int .u8 c] w fun e w' => e = .returned .nilIface /\ (Lib.BuilderAt 152 5 B b (.pointer (some ⟨b, 0, none⟩)) (bs ++ [.int .u8 c]) w' /\ Below B w w' /\ WW w w') := by
 obtain ⟨i0, hi, hz0, hz1, hz2⟩ := info_parts AO
 go_in
 go_wp2_with fail
 refine (P8 B b bs _ h).mono ?_
 rintro e w1 ⟨rfl, h1, hb1, hO1⟩
 obtain ⟨hB, v, hbk, hown, hne⟩ := h1
 have c0 : w1.cell? ⟨b, 0, none⟩ = some (.pointer (some ⟨b, 0, none⟩)) := by rw [Lib.cell_of_heap hbk]; rfl
 have c1 : w1.cell? ⟨b, 1, none⟩ = some v := by rw [Lib.cell_of_heap hbk]; rfl
 go_wp2_with (at_builtin; refine wpList_append_own _ rfl _ _ 150 rfl B 5 i0 (.int .u8 0) 1 1 Tryz.underlying150 hi hz0 hz1 hz2 rfl (by decide) _ bs.length bs rfl (hown.alloc _) ⟨w1.heap.size, 0, none⟩ 1 1 [.int .u8 c] rfl rfl ?c1 ?c2 ?c3 ?c4 ?c5 ?_)
 case c1 => exact cell_one_new _ _ _
 case c2 => intro u hu; simp at hu; subst hu; rfl
 case c3 => unfold maxLen; omega
 case c4 => omega
 case c5 => have := hb1.size; simp; omega
 intro v' w2 hown' hgrow _
 have hlt : b < w1.heap.size := Z6 hbk
 have xG : (w1.alloc (.cells #[.int .u8 c] 5)).heap[b]? = some (.cells #[.pointer (some ⟨b, 0, none⟩), v] 152 (0, 0)) := (Below.heap_alloc _ _ _ hlt).trans hbk
 have hb2 : w2.heap[b]? = some (.cells #[.pointer (some ⟨b, 0, none⟩), v] 152 (0, 0)) := by
  rw [hgrow.block b (Z6 xG) (fun e => hne e.symm)]; exact xG
 have d0 : w2.cell? ⟨b, 0, none⟩ = some (.pointer (some ⟨b, 0, none⟩)) := by rw [Lib.cell_of_heap hb2]; rfl
 have d1 : w2.cell? ⟨b, 1, none⟩ = some v := by rw [Lib.cell_of_heap hb2]; rfl
 have f1 : w2.frozen? ⟨b, 1, none⟩ = false := Lib.frozen_of_heap hb2 1
 have hOA : WW w1 (w1.alloc (.cells #[.int .u8 c] 5)) := WW.below ((Below.refl _ _).alloc (Nat.le_refl _) _)
 have RL : (w1.alloc (.cells #[.int .u8 c] 5)).ownsRow B 5 1 v bs.length bs := hown.alloc _
 have aai : Below B w (w1.alloc (.cells #[.int .u8 c] 5)) := hb1.alloc (by have := hb1.size; omega) _
 obtain ⟨ao, n', cap, rfl⟩ : ∃ ao n' cap, v' = .slice ao n' cap := by
  rcases hown'.2 with ⟨hv, _⟩ | ⟨g, cap, cur, hv, _⟩
  ·exact ⟨_, _, _, hv⟩
  ·exact ⟨_, _, _, hv⟩
 go_wp2
 go_ret
 refine ⟨rfl, ?_, ?_, hO1.trans (hOA.trans ((WW.grown hgrow RL).trans (WW.setCell hb2 _)))⟩
 ·exact Lib.BuilderAt.put (T := 152) (e := 5) hB hb2 (bs' := bs ++ [.int .u8 c]) (by simpa using hown') (by decide)
 ·exact (aai.grown hgrow (by have := hb1.size; simp; omega) (fun k hk => (hown.lt k hk).1)).setCell (p := ⟨b, 1, none⟩) hB _
theorem Sq (c : Int) (w : World) (h0 : 0 <= c) (h1 : c <= 255) :
 Calls Tryz.prog 82 #[.int .u8 c] w fun e w' => e = .returned (.bool (RV c)) /\ w = w' := by
 go_in
 go_wp2
 all_goals
  go_ret; refine ⟨XT ?_, rfl⟩; simp [RV] <;> omega
def I4 (b : UInt8) : List UInt8 := if b == 10 then [92, 110] else if b == 34 || b == 92 then [92, b] else [b]
def Lr (s : ByteArray) : List UInt8 := 34 :: (s.data.toList.flatMap I4 ++ [34])
def Um (s : ByteArray) : ByteArray × Int := if s.size <= 16384 then (if s.data.toList.all Uv = true then (⟨(Lr s).toArray⟩, 0) else (⟨#[]⟩, 3)) else (⟨#[]⟩, 5)
theorem uR (l : List UInt8) : (l.flatMap I4).length <= 2 * l.length := by
 induction l with
 | nil => simp
 | cons x l ih =>
   rw [List.flatMap_cons, List.length_append, List.length_cons]; have : (I4 x).length <= 2 := by unfold I4; split <;> (first | (split <;> simp) | simp)
   omega
def AL (s : ByteArray) (w : World) (e : Ending) (w' : World) : Prop := e = .returned (.tuple #[.string (Um s).1, .int .i64 (Um s).2]) /\ Below w.heap.size w w'
theorem zq (s : ByteArray) (h : ¬ s.size <= 16384) : Um s = (⟨#[]⟩, 5) := by unfold Um; rw [Z7 h]
theorem zm (s : ByteArray) (h : s.size <= 16384) (k : Nat) (hk : k < s.size) (hv : Uv s[k] = false) : Um s = (⟨#[]⟩, 3) := by
 unfold Um; rw [ZY h, if_neg]
 intro ha
 have := List.all_eq_true.1 ha s[k] (by simp [ByteArray.getElem_eq_getElem_data])
 rw [this] at hv; cases hv
theorem CJ (s : ByteArray) (h : s.size <= 16384) (hv : s.data.toList.all Uv = true) : Um s = (⟨(Lr s).toArray⟩, 0) := by unfold Um; rw [ZY h, ZY hv]
theorem CG (pre : List UInt8) (c : UInt8) : Lib.byteCells pre ++ [Value.int .u8 (c.toNat : Int)] = Lib.byteCells (pre ++ [c]) := by
 rw [Lib.byteCells_append]; rfl
def Wq (s : ByteArray) (k : Nat) : List UInt8 := 34 :: (s.data.toList.take k).flatMap I4
theorem Kq (s : ByteArray) (k : Nat) (h : k < s.size) : Wq s (k + 1) = Wq s k ++ I4 s[k] := by
 unfold Wq; rw [NP s k h, List.flatMap_append]; simp
theorem IZ (s : ByteArray) (k : Nat) (hk : k <= s.size) (h : s.size <= 16384) : (Wq s k).length <= 40000 := by
 unfold Wq
 have := uR (s.data.toList.take k)
 have h2 : (s.data.toList.take k).length <= k := by simp; omega
 simp only [List.length_cons]; omega
theorem zk (s : ByteArray) (w : World) : Calls Tryz.prog 53 #[.string s] w (AL s w) := by
 by_cases hs : s.size <= 16384
 rotate_left
 ·have Hb := Z9 (zq s hs)
  go_in; go_wp2; go_ret2; exact ⟨by rw [Hb.out]; rfl, Below.refl _ _⟩
 ·have HB1 : Hid (Lib.IsBuilder 152 5 w.heap.size w.heap.size [] (w.alloc (.cells #[.pointer none, .slice none 0 0] 152))) := zu w _ (Nat.le_refl _)
  have hb1 : Below w.heap.size w (w.alloc (.cells #[.pointer none, .slice none 0 0] 152)) := (Below.refl _ _).alloc (Nat.le_refl _) _; go_in; go_wp2_with fail; generalize w.alloc (.cells #[.pointer none, .slice none 0 0] 152) = w1 at *; refine (WB w.heap.size w.heap.size [] 34 w1 HB1.out (by simp) hb1.size).mono ?_; rintro e w2 ⟨rfl, hbd, hb2, _⟩; have HB2 : Hid (Lib.BuilderAt 152 5 w.heap.size w.heap.size (.pointer (some ⟨w.heap.size, 0, none⟩)) (Lib.byteCells (Wq s 0)) w2) := hbd; have aaj : Below w.heap.size w w2 := hb1.trans hb2; clear hbd hb2 hb1 HB1; go_wp2_with fail; go_loopw [13] (fun i wr => (∃ k : Nat, k <= s.size /\ i = .int .i64 k /\ Hid ((s.data.toList.take k).all Uv = true) /\ Hid (Lib.BuilderAt 152 5 w.heap.size w.heap.size (.pointer (some ⟨w.heap.size, 0, none⟩)) (Lib.byteCells (Wq s k)) wr)) /\ Below w.heap.size w wr) (fun i _ => s.size - (intOf i).toNat)
  case atStart => exact ⟨⟨0, Nat.zero_le _, rfl, rfl, HB2⟩, aaj⟩
  case round =>
   obtain ⟨⟨k, hk, rfl, hall, HB⟩, hbr⟩ := hrel; have hwz := hbr.size; have hpl := IZ s k hk hs; by_cases hlt : k < s.size
   ·obtain ⟨u0, u1⟩ := ub s[k]
    have hN := Kq s k hlt; have hA : (s.data.toList.take (k + 1)).all Uv = ((s.data.toList.take k).all Uv && Uv s[k]) := by rw [NP s k hlt]; simp
    have aak := Z9 (zm s hs k hlt); have Hv : Hid (Uv s[k] = (((s[k].toNat : Int) == 10) || RV (s[k].toNat : Int))) := by
     show _ = _
     rw [show ((s[k].toNat : Int) == 10) = (s[k] == 10) from GK s[k] 10 (by decide)]; unfold Uv RV; congr 2 <;> (apply decide_eq_decide.2; omega)
    have He : Hid (I4 s[k] = if ((s[k].toNat : Int) == 10) = true then [92, 110] else if (((s[k].toNat : Int) == 34) || ((s[k].toNat : Int) == 92)) = true then [92, s[k]] else [s[k]]) := by
     show _ = _
     rw [show ((s[k].toNat : Int) == 10) = (s[k] == 10) from GK s[k] 10 (by decide), show ((s[k].toNat : Int) == 34) = (s[k] == 34) from GK s[k] 34 (by decide), show ((s[k].toNat : Int) == 92) = (s[k] == 92) from GK s[k] 92 (by decide)]; rfl
    have HN := Z9 hN; have HA := Z9 hA; clear hN hA; obtain ⟨q10, h10⟩ : ∃ q, ((s[k].toNat : Int) == 10) = q := ⟨_, rfl⟩; obtain ⟨qv, hv⟩ : ∃ q, RV (s[k].toNat : Int) = q := ⟨_, rfl⟩; obtain ⟨q34, h34⟩ : ∃ q, ((s[k].toNat : Int) == 34) = q := ⟨_, rfl⟩; obtain ⟨q92, h92⟩ : ∃ q, ((s[k].toNat : Int) == 92) = q := ⟨_, rfl⟩; have Hv' := Z9 (Hv.out.trans (by rw [h10, hv])); have bQ := Z9 (He.out.trans (by rw [h10, h34, h92])); have HV := Z9 hv; clear hv Hv He; cases q10
    ·cases qv
     ·go_wp2_with fail
      refine (Sq _ _ u0 u1).mono ?_; rintro e w' ⟨rfl, rfl⟩; rw [HV.out]; go_wp2; go_ret2; exact ⟨by rw [aak.out Hv'.out]; rfl, hbr⟩
     ·have hA' : Hid ((s.data.toList.take (k + 1)).all Uv = true) := by show _ = _; rw [HA.out, hall.out, Hv'.out]; rfl
      cases q34
      ·cases q92
       ·go_wp2_with fail
        refine (Sq _ _ u0 u1).mono ?_; rintro e w' ⟨rfl, rfl⟩; rw [HV.out]; go_wp2_with fail; refine (WB w.heap.size w.heap.size _ _ _ (.inr HB.out) (by rw [SN]; omega) hwz).mono ?_; rintro e w3 ⟨rfl, hbd, hb3, _⟩; rw [CG] at hbd; have HB3 : Hid (Lib.BuilderAt 152 5 w.heap.size w.heap.size (.pointer (some ⟨w.heap.size, 0, none⟩)) (Lib.byteCells (Wq s (k + 1))) w3) := by
         show Lib.BuilderAt _ _ _ _ _ _ _
         rw [HN.out, bQ.out]; exact hbd
        clear hbd; go_wp2_with fail; go_round
        case rel => exact ⟨⟨k + 1, by omega, by go_num, hA', HB3⟩, hbr.trans hb3⟩
        case measure => simp [intOf]; omega
       ·go_wp2_with fail
        refine (Sq _ _ u0 u1).mono ?_; rintro e w' ⟨rfl, rfl⟩; rw [HV.out]; go_wp2_with fail; refine (WB w.heap.size w.heap.size _ 92 _ (.inr HB.out) (by rw [SN]; omega) hwz).mono ?_; rintro e w3 ⟨rfl, hbd, hb3, _⟩; have HB3 := Z9 hbd; have Ox := hbr.trans hb3; clear hbd hb3; go_wp2_with fail; refine (WB w.heap.size w.heap.size _ _ _ (.inr HB3.out) (by rw [List.length_append, SN]; simp; omega) Ox.size).mono ?_; rintro e w4 ⟨rfl, hbd, hb4, _⟩; have HB4 : Hid (Lib.BuilderAt 152 5 w.heap.size w.heap.size (.pointer (some ⟨w.heap.size, 0, none⟩)) (Lib.byteCells (Wq s (k + 1))) w4) := by
         show Lib.BuilderAt _ _ _ _ _ _ _
         rw [HN.out, bQ.out, Lib.byteCells_append]; rw [List.append_assoc] at hbd; exact hbd
        clear hbd; go_wp2_with fail; go_round
        case rel => exact ⟨⟨k + 1, by omega, by go_num, hA', HB4⟩, Ox.trans hb4⟩
        case measure => simp [intOf]; omega
      ·go_wp2_with fail
       refine (Sq _ _ u0 u1).mono ?_; rintro e w' ⟨rfl, rfl⟩; rw [HV.out]; go_wp2_with fail; refine (WB w.heap.size w.heap.size _ 92 _ (.inr HB.out) (by rw [SN]; omega) hwz).mono ?_; rintro e w3 ⟨rfl, hbd, hb3, _⟩; have HB3 := Z9 hbd; have Ox := hbr.trans hb3; clear hbd hb3; go_wp2_with fail; refine (WB w.heap.size w.heap.size _ _ _ (.inr HB3.out) (by rw [List.length_append, SN]; simp; omega) Ox.size).mono ?_; rintro e w4 ⟨rfl, hbd, hb4, _⟩; have HB4 : Hid (Lib.BuilderAt 152 5 w.heap.size w.heap.size (.pointer (some ⟨w.heap.size, 0, none⟩)) (Lib.byteCells (Wq s (k + 1))) w4) := by
        show Lib.BuilderAt _ _ _ _ _ _ _
        rw [HN.out, bQ.out, Lib.byteCells_append]; rw [List.append_assoc] at hbd; exact hbd
       clear hbd; go_wp2_with fail; go_round
       case rel => exact ⟨⟨k + 1, by omega, by go_num, hA', HB4⟩, Ox.trans hb4⟩
       case measure => simp [intOf]; omega
    ·have hA' : Hid ((s.data.toList.take (k + 1)).all Uv = true) := by show _ = _; rw [HA.out, hall.out, Hv'.out]; rfl
     go_wp2_with fail; refine (MG w.heap.size w.heap.size _ ⟨#[92, 110]⟩ _ (.inr HB.out) (by rw [SN]; have e : (ByteArray.mk #[92, 110]).size = 2 := rfl; omega) hwz).mono ?_; rintro e w3 ⟨rfl, hbd, hb3, _⟩; have HB3 : Hid (Lib.BuilderAt 152 5 w.heap.size w.heap.size (.pointer (some ⟨w.heap.size, 0, none⟩)) (Lib.byteCells (Wq s (k + 1))) w3) := by
      show Lib.BuilderAt _ _ _ _ _ _ _
      rw [HN.out, bQ.out, Lib.byteCells_append]; exact hbd
     clear hbd; go_wp2_with fail; go_round
     case rel => exact ⟨⟨k + 1, by omega, by go_num, hA', HB3⟩, hbr.trans hb3⟩
     case measure => simp [intOf]; omega
   ·have hks : k = s.size := by omega
    have JN : s.data.toList.all Uv = true := by
     have := hall.out; rw [List.take_of_length_le (by simp; omega)] at this; exact this
    have Hg := Z9 (CJ s hs JN); have hpe : Lib.byteCells (Wq s k) ++ [Value.int .u8 34] = Lib.byteCells (Lr s) := by
     unfold Wq Lr; rw [List.take_of_length_le (by simp; omega)]; rw [show (34 :: (s.data.toList.flatMap I4 ++ [34])) = (34 :: s.data.toList.flatMap I4) ++ [34] from rfl, Lib.byteCells_append]; rfl
    clear hall JN; go_wp2_with fail; refine (WB w.heap.size w.heap.size _ 34 _ (.inr HB.out) (by rw [SN]; omega) hwz).mono ?_; rintro e w3 ⟨rfl, hbd, hb3, _⟩; rw [hpe] at hbd; have HB3 := Z9 hbd; have Ox := hbr.trans hb3; clear hbd hb3 hpe; go_wp2_with fail; refine (Tryz.Builder_String_any _ _ (Lr s) _ (.inr HB3.out) Ox.size).mono ?_; rintro e w4 ⟨rfl, hb4⟩; go_wp2; go_ret2; exact ⟨by rw [Hg.out]; rfl, Ox.trans hb4⟩
end Go.Proofs.YtbcfdebdikgijaaGreatDoor

/- The writer of constructors' texts: WriteString, Len, String over normal.writer, write, con at the chapter's example. Expanded by mac.py. The chapter's example: plain values. -/
import Derived.Test.YtkiffgdinmpljaaGreatDoorF24
import Derived.Test.YtkiffgdinmpljaaGreatDoorF10
import Derived.Test.YtkiffgdinmpljaaGreatDoorF23
set_option linter.unusedVariables false
set_option linter.unusedSimpArgs false
namespace Go.Proofs.YtkiffgdinmpljaaGreatDoor
open Go Go.RowKit
set_option maxHeartbeats 8000000
set_option maxRecDepth 100000
theorem info_u8w : (Tryz.prog.info? 5).map (fun i => (i.zero, i.size, i.bytes)) = some (some (.int .u8 0), 1, 1) := by kernel_rfl
theorem size_builderw : (Tryz.prog.info? 62).map (·.size) = some 2 := by kernel_rfl
abbrev WrB (B b : Nat) (bs : List Value) (w : World) : Prop := Lib.IsBuilder 64 5 B b bs w
def OthW (w w' : World) : Prop := w.heap.size<=w'.heap.size/\∀ (k : Nat) (cs : Array Value) (t : TypeId) (z : Nat × Nat), w.heap[k]? = some (.cells cs t z)->t ≠ 5->t ≠ 64->w'.heap[k]? = some (.cells cs t z)
theorem OthW.refl (w : World) : OthW w w := ⟨Nat.le_refl _, fun _ _ _ _ h _ _ => h⟩
theorem OthW.trans {a b c : World} (h : OthW a b) (k : OthW b c) : OthW a c := ⟨Nat.le_trans h.1 k.1, fun q cs t z hq h1 h2 => k.2 q cs t z (h.2 q cs t z hq h1 h2) h1 h2⟩
theorem OthW.free {w w' : World} (h : w.grownBy w' none) : OthW w w' := ⟨h.size, fun k _ _ _ hk _ _ => (h.block k (hLQ hk) (by nofun)).trans hk⟩
theorem OthW.setCell {w : World} {b o : Nat} {cs : Array Value} {z : Nat × Nat} (hb : w.heap[b]? = some (.cells cs 64 z)) (u : Value) : OthW w (w.setCell ⟨b, o, none⟩ u) := ⟨(gSQ w b o u).size, fun k cs' t z' hk _ h2 => by
 by_cases e : k = b
 ·subst e; rw [hb] at hk; cases hk; exact absurd rfl h2
 ·exact ((gSQ w b o u).block k (hLQ hk) (fun e2 => e (oJQ e2))).trans hk⟩
theorem own_blockW {w : World} {base : Nat} {e : TypeId} {v : Value} {n : Nat} {xs : List Value} (h : w.ownsRow base e 1 v n xs) {k : Nat} (hk : v.ownBlock = some k) : ∃ cs, w.heap[k]? = some (.cells cs e (0, 0)) := by
 rcases h.2 with ⟨rfl, _⟩ | ⟨g, cap, cur, rfl, _, hg, _⟩
 ·cases hk
 ·obtain rfl : g = k := oJQ hk
  exact ⟨cur, hg⟩
theorem OthW.grown {w w' : World} {base : Nat} {v : Value} {n : Nat} {xs : List Value} (hg : w.grownBy w' v.ownBlock) (h : w.ownsRow base 5 1 v n xs) : OthW w w' := ⟨hg.size, fun k cs t z hk h1 _ => by
 by_cases e : some k = v.ownBlock
 ·obtain ⟨cs', hc⟩ := own_blockW h e.symm
  rw [hc] at hk; cases hk; exact absurd rfl h1
 ·exact (hg.block k (hLQ hk) e).trans hk⟩
theorem WrB.grown {B b : Nat} {bs : List Value} {w w' : World} (h : WrB B b bs w) (hg : w.grownBy w' none) : WrB B b bs w' := by
 rcases h with ⟨hB, v, hb, ho, hn⟩ | ⟨hB, v, hb, ho, hn⟩
 ·exact .inl ⟨hB, v, (hg.block _ (hLQ hb) (by nofun)).trans hb, ho.kept hg (by cases v.ownBlock <;> simp), hn⟩
 ·exact .inr ⟨hB, v, (hg.block _ (hLQ hb) (by nofun)).trans hb, ho.kept hg (by cases v.ownBlock <;> simp), hn⟩
theorem wr_copyCheck_used (b : Nat) (w : World) (h0 : w.cell? ⟨b, 0, none⟩ = some (.pointer (some ⟨b, 0, none⟩))) :
 Calls Tryz.prog 132 #[.pointer (some ⟨b, 0, none⟩)] w fun e w' => e = .returned (.tuple #[])/\w' = w := by
 obtain ⟨j, hj, _⟩ := Option.map_eq_some_iff.1 size_builderw
 go_enter Tryz.func132, Tryz.ntmps132
 go_wp2
 rw [Lib.run_neq_ptr_same w _ Tryz.underlying59 hj]
 go_wp2
 go_end0
 exact ⟨rfl, rfl⟩
theorem wr_copyCheck_fresh (b : Nat) (w : World) (h0 : w.cell? ⟨b, 0, none⟩ = some (.pointer none)) (hsh : w.shape? b = some (64, 2)) (hfz : w.frozen? ⟨b, 0, none⟩ = false) :
 Calls Tryz.prog 132 #[.pointer (some ⟨b, 0, none⟩)] w fun e w' => e = .returned (.tuple #[])/\w' = w.setCell ⟨b, 0, none⟩ (.pointer (some ⟨b, 0, none⟩)) := by
 obtain ⟨j, hj, hjs⟩ := Option.map_eq_some_iff.1 size_builderw
 go_enter Tryz.func132, Tryz.ntmps132
 go_wp2
 rw [Lib.run_to_unsafe w ⟨b, 0, none⟩ Tryz.underlying59 Tryz.underlying134 hj (by rw [hjs]; decide) hsh (Nat.zero_lt_succ 1)]
 simp only [Result.andThen]
 rw [Oper.upon_value]
 go_wp2
 rw [run_callFunc_extern Tryz.func143 (by kernel_rfl) (by kernel_rfl) (by kernel_rfl) (e := Extern.AbiNoEscape.same) (by kernel_rfl)]
 rw [Lib.run_noEscape]
 simp only [Result.andThen]
 rw [Oper.upon_value]
 go_wp2
 rw [Lib.run_from_unsafe w ⟨b, 0, none⟩ Tryz.underlying134 Tryz.underlying59 hj hsh (by kernel_rfl)]
 simp only [Result.andThen]
 rw [Oper.upon_value]
 go_wp2
 go_end0
 exact ⟨rfl, rfl⟩
theorem wr_copyCheck (B b : Nat) (bs : List Value) (w : World) (h : WrB B b bs w) :
 Calls Tryz.prog 132 #[.pointer (some ⟨b, 0, none⟩)] w fun e w' => e = .returned (.tuple #[])/\(Lib.BuilderAt 64 5 B b (.pointer (some ⟨b, 0, none⟩)) bs w'/\Below B w w'/\OthW w w') := by
 rcases h with h | h
 ·refine (wr_copyCheck_fresh b w h.cell0 h.shape h.frozen0).mono ?_
  rintro e w' ⟨rfl, rfl⟩
  exact ⟨rfl, h.used _, (Below.refl B w).setCell (p := ⟨b, 0, none⟩) h.1 _, by obtain ⟨_, v, hb, _⟩ := h; exact OthW.setCell hb _⟩
 ·refine (wr_copyCheck_used b w h.cell0).mono ?_
  rintro e w' ⟨rfl, rfl⟩
  exact ⟨rfl, h, Below.refl B _, OthW.refl _⟩
theorem wr_WriteString (B b : Nat) (bs : List Value) (s : ByteArray) (w : World) (h : WrB B b bs w) (hlen : bs.length + s.size<=140737488355328) (hBw : B<=w.heap.size) :
 Calls Tryz.prog 112 #[.pointer (some ⟨b, 0, none⟩), .string s] w fun e w' => e = .returned (.tuple #[.int .i64 s.size, .nilIface])/\(WrB B b (bs ++ Lib.strCells s) w'/\Below B w w'/\OthW w w') := by
 obtain ⟨i0, hi, hz0, hz1, hz2⟩ := info_parts info_u8w
 go_enter Tryz.func112, Tryz.ntmps112
 go_wp2_with fail
 refine (wr_copyCheck B b bs _ h).mono ?_
 rintro e w1 ⟨rfl, h1, hb1, hO1⟩
 obtain ⟨hB, v, hbk, hown, hne⟩ := h1
 have c0 : w1.cell? ⟨b, 0, none⟩ = some (.pointer (some ⟨b, 0, none⟩)) := by rw [Lib.cell_of_heap hbk]; rfl
 have c1 : w1.cell? ⟨b, 1, none⟩ = some v := by rw [Lib.cell_of_heap hbk]; rfl
 go_wp2_with (at_builtin; refine Lib.wpList_append_own_string _ rfl _ _ 60 9 rfl B 5 i0 Tryz.underlying60 Tryz.underlying9 hi hz0 hz1 hz2 _ _ _ rfl hown s rfl ?c3 ?c4 ?c5 ?_)
 case c3 => unfold maxLen; omega
 case c4 => omega
 case c5 => have := hb1.size; omega
 intro v' w2 hown' hgrow _
 have hlt : b < w1.heap.size := by
  rcases Nat.lt_or_ge b w1.heap.size with h' | h'
  ·exact h'
  ·simp [Array.getElem?_eq_none h'] at hbk
 have hb2 : w2.heap[b]? = some (.cells #[.pointer (some ⟨b, 0, none⟩), v] 64 (0, 0)) := by
  rw [hgrow.block b hlt (fun e => hne e.symm)]
  exact hbk
 have d0 : w2.cell? ⟨b, 0, none⟩ = some (.pointer (some ⟨b, 0, none⟩)) := by rw [Lib.cell_of_heap hb2]; rfl
 have d1 : w2.cell? ⟨b, 1, none⟩ = some v := by rw [Lib.cell_of_heap hb2]; rfl
 have f1 : w2.frozen? ⟨b, 1, none⟩ = false := Lib.frozen_of_heap hb2 1
 obtain ⟨ao, n', cap, rfl⟩ : ∃ ao n' cap, v' = .slice ao n' cap := by
  rcases hown'.2 with ⟨hv, _⟩ | ⟨g, cap, cur, hv, _⟩
  ·exact ⟨_, _, _, hv⟩
  ·exact ⟨_, _, _, hv⟩
 go_wp2_with fail
 go_ret2
 refine ⟨rfl, ?_, ?_, hO1.trans ((OthW.grown hgrow hown).trans (OthW.setCell hb2 _))⟩
 ·exact .inr (Lib.BuilderAt.put (T := 64) (e := 5) hB hb2 (bs' := bs ++ Lib.strCells s) (by simpa [Lib.strCells_length] using hown') (by decide))
 ·exact (hb1.grown hgrow (by have := hb1.size; omega) (fun k hk => (hown.lt k hk).1)).setCell (p := ⟨b, 1, none⟩) hB _
theorem wr_Len (B b : Nat) (bs : List Value) (w : World) (h : WrB B b bs w) :
 Calls Tryz.prog 44 #[.pointer (some ⟨b, 0, none⟩)] w fun e w' => e = .returned (.int .i64 bs.length)/\w' = w := by
 obtain ⟨p, hB, v, hbk, hown, hne⟩ : ∃ p, Lib.BuilderAt 64 5 B b p bs w := by
  rcases h with h | h
  ·exact ⟨_, h⟩
  ·exact ⟨_, h⟩
 obtain ⟨ao, cap, rfl⟩ : ∃ ao cap, v = .slice ao bs.length cap := by
  rcases hown.2 with ⟨hv, h0⟩ | ⟨g, cap, cur, hv, _⟩
  ·exact ⟨none, 0, by rw [hv, h0]⟩
  ·exact ⟨_, _, hv⟩
 have c1 : w.cell? ⟨b, 1, none⟩ = some (.slice ao bs.length cap) := by rw [Lib.cell_of_heap hbk]; rfl
 go_enter Tryz.func44, Tryz.ntmps44
 go_wp2_with fail
 go_ret
 exact ⟨rfl, rfl⟩
theorem wr_String (B b : Nat) (l : List UInt8) (w : World) (h : WrB B b (Lib.byteCells l) w) (h0 : l ≠ []) :
 Calls Tryz.prog 45 #[.pointer (some ⟨b, 0, none⟩)] w fun e w' => e = .returned (.string ⟨l.toArray⟩)/\Below B w w' := by
 obtain ⟨p, hB, v, hbk, hown, hne⟩ : ∃ p, Lib.BuilderAt 64 5 B b p (Lib.byteCells l) w := by
  rcases h with h | h
  ·exact ⟨_, h⟩
  ·exact ⟨_, h⟩
 have hl0 : l.length ≠ 0 := by simpa using h0
 rw [Lib.byteCells_length] at hown
 have hownF := World.ownsRowF_of hown
 obtain ⟨g, cap, cur, fz, rfl, hbg, hg, hfz, hnc, hcm, hcs, htake⟩ : ∃ g cap cur fz, v = .slice (some ⟨g, 0, none⟩) l.length cap/\B<=g/\w.heap[g]? = some (.cells cur 5 fz)/\fz.2<=l.length * 1/\l.length<=cap/\cap<=maxLen/\cur.size = cap * 1/\cur.toList.take (l.length * 1) = Lib.byteCells l := by
  rcases hownF.2 with ⟨_, hz⟩ | ⟨g, cap, cur, fz, hv, r⟩
  ·exact absurd hz hl0
  ·exact ⟨g, cap, cur, fz, hv, r⟩
 have c1 : w.drew.cell? ⟨b, 1, none⟩ = some (.slice (some ⟨g, 0, none⟩) l.length cap) := by
  have : w.drew.heap[b]? = some (.cells #[p, .slice (some ⟨g, 0, none⟩) l.length cap] 64 (0, 0)) := hbk
  rw [Lib.cell_of_heap this]; rfl
 have hSD : (Builtin.unsafeSliceData_ #[60] 97 #[.slice (some ⟨g, 0, none⟩) l.length cap]).run Tryz.prog w.drew = .ok (.pointer (some ⟨g, 0, none⟩)) w.drew :=
  Lib.run_unsafeSliceData_row _ _ _ _ _ _ (by omega)
 have hUS : (Builtin.unsafeString_ #[97, 3] 9 #[.pointer (some ⟨g, 0, none⟩), .int .i64 l.length]).run Tryz.prog w.drew = .ok (.string ⟨l.toArray⟩) (w.drew.freeze ⟨g, 0, none⟩ l.length) := by
  refine Lib.run_unsafeString_row w.drew 97 3 9 5 Tryz.underlying97 (by kernel_rfl) g cur.size (by have hg' : w.drew.heap[g]? = some (.cells cur 5 fz) := hg; simp [World.shape?, hg']) l h0 (by omega) (by unfold maxLen at hcm; omega) ?_
  intro j x hx
  have := hownF.cells (g := g) rfl j (.int .u8 x.toNat) (by simp [Lib.byteCells, hx])
  exact this
 clear hownF htake hcs hcm hfz
 have mixed : Tryz.prog.follows Departure.mixedOrders = true := by kernel_rfl
 go_enter Tryz.func45, Tryz.ntmps45
 go_wp2
 go_region_o
 all_goals (go_wp2; go_ret; exact ⟨rfl, Lib.below_freeze (Below.drew (Below.refl B w)) (p := ⟨g, 0, none⟩) hbg _⟩)
theorem write1_any (B b q : Nat) (bs : List Value) (s : ByteArray) (w : World) (h : WrB B b bs w) (hlen : bs.length + s.size<=1000000) (hBw : B<=w.heap.size) (hq : w.cell? ⟨q, 0, none⟩ = some (.string s)) :
 Calls Tryz.prog 78 #[.pointer (some ⟨b, 0, none⟩), .slice (some ⟨q, 0, none⟩) 1 1] w fun e w' => e = .returned (.tuple #[])/\(WrB B b (bs ++ Lib.strCells s) w'/\Below B w w'/\OthW w w') := by
 have HW := hJQ (wr_WriteString B b bs s w h (by omega) hBw)
 go_enter Tryz.func78, Tryz.ntmps78
 go_wp2_with fail
 go_loopw [8] (fun i wr => (i = .int .i64 0/\wr = w) ∨ (i = .int .i64 1/\WrB B b (bs ++ Lib.strCells s) wr/\Below B w wr/\OthW w wr)) (fun i _ => 1 - (intOf i).toNat)
 case atStart => exact .inl ⟨rfl, rfl⟩
 case round =>
  rcases hrel with ⟨rfl, rfl⟩ | ⟨rfl, h1, h2, h3⟩
  ·go_wp2_with fail
   refine HW.out.mono ?_
   rintro e w2 ⟨rfl, h1, h2, h3⟩
   have H1 := hJQ h1
   have H2 := hJQ h2
   have H3 := hJQ h3
   clear HW h h1 h2 h3
   go_wp2_with fail
   go_roundw
   case rel => exact .inr ⟨rfl, H1.out, H2.out, H3.out⟩
   case measure => simp [intOf]
  ·have H1 := hJQ h1
   have H2 := hJQ h2
   have H3 := hJQ h3
   clear HW h h1 h2 h3
   go_wp2_with fail
   go_end0
   exact ⟨rfl, H1.out, H2.out, H3.out⟩
def txInt : ByteArray := ⟨#[105, 110, 116]⟩
def txText : ByteArray := ⟨#[116, 101, 120, 116]⟩
def opTx (op : Int) : ByteArray := if op = 4 then txInt else txText
theorem conLeaf_any (B b : Nat) (bs : List Value) (op n : Int) (s : ByteArray) (ka na a : Option Addr) (kn kc nn nc ln c : Nat) (hop : op = 4 ∨ op = 5) (w : World) (h : WrB B b bs w) (hlen : bs.length<=1000) (hBw : B<=w.heap.size) :
 Calls Tryz.prog 43 #[.pointer (some ⟨b, 0, none⟩), .agg #[.int .i64 op, .int .i64 n, .string s, .slice ka kn kc, .slice na nn nc, .slice a ln c]] w fun e w' => e = .returned (.tuple #[])/\(WrB B b (bs ++ Lib.strCells (opTx op)) w'/\Below B w w'/\OthW w w') := by
 have hW0 := h.grown (gAQ w (.cells #[.int .i64 op, .int .i64 n, .string s, .slice ka kn kc, .slice na nn nc, .slice a ln c] 28))
 obtain ⟨c0, c1, c2, c3, c4, c5⟩ := cnQ (nHQ w (.cells #[.int .i64 op, .int .i64 n, .string s, .slice ka kn kc, .slice na nn nc, .slice a ln c] 28))
 have hsz0 : (w.alloc (.cells #[.int .i64 op, .int .i64 n, .string s, .slice ka kn kc, .slice na nn nc, .slice a ln c] 28)).heap.size = w.heap.size + 1 := by simp
 have HL := hJQ (wr_Len B b bs _ hW0)
 have hlen2 : ¬ (16384 : Int) < bs.length := by omega
 rcases hop with rfl | rfl
 all_goals
  go_enter Tryz.func43, Tryz.ntmps43
  go_wp2_with fail
  refine HL.out.mono ?_
  rintro e w2 ⟨rfl, rfl⟩
  clear HL
 ·have g1 := gBQ (gAQ w (.cells #[.int .i64 4, .int .i64 n, .string s, .slice ka kn kc, .slice na nn nc, .slice a ln c] 28)) (gAQ (w.alloc (.cells #[.int .i64 4, .int .i64 n, .string s, .slice ka kn kc, .slice na nn nc, .slice a ln c] 28)) (.cells #[.string txInt] 9))
  have HWr := hJQ (write1_any B b (w.heap.size + 1) bs txInt _ (h.grown g1) (by show bs.length + 3<=1000000; omega) (by simp; omega) (by rw [← hsz0]; exact cOQ (nHQ _ _)))
  have HG := hJQ g1
  unfold txInt at HWr HG
  clear g1 h hW0
  go_wp2_with fail
  refine HWr.out.mono ?_
  rintro e w3 ⟨rfl, h3, hb3, ho3⟩
  have HB := hJQ ((gUQ HG.out hBw (by nofun)).trans hb3)
  have HO := hJQ ((OthW.free HG.out).trans ho3)
  have H3 := hJQ h3
  clear h3 hb3 ho3 HWr c0 c1 c2 c3 c4 c5 hsz0
  go_wp2_with fail
  go_end0
  exact ⟨rfl, H3.out, HB.out, HO.out⟩
 ·have g1 := gBQ (gAQ w (.cells #[.int .i64 5, .int .i64 n, .string s, .slice ka kn kc, .slice na nn nc, .slice a ln c] 28)) (gAQ (w.alloc (.cells #[.int .i64 5, .int .i64 n, .string s, .slice ka kn kc, .slice na nn nc, .slice a ln c] 28)) (.cells #[.string txText] 9))
  have HWr := hJQ (write1_any B b (w.heap.size + 1) bs txText _ (h.grown g1) (by show bs.length + 4<=1000000; omega) (by simp; omega) (by rw [← hsz0]; exact cOQ (nHQ _ _)))
  have HG := hJQ g1
  unfold txText at HWr HG
  clear g1 h hW0
  go_wp2_with fail
  refine HWr.out.mono ?_
  rintro e w3 ⟨rfl, h3, hb3, ho3⟩
  have HB := hJQ ((gUQ HG.out hBw (by nofun)).trans hb3)
  have HO := hJQ ((OthW.free HG.out).trans ho3)
  have H3 := hJQ h3
  clear h3 hb3 ho3 HWr c0 c1 c2 c3 c4 c5 hsz0
  go_wp2_with fail
  go_end0
  exact ⟨rfl, H3.out, HB.out, HO.out⟩
def txOpen : ByteArray := ⟨#[40]⟩
def txTo : ByteArray := ⟨#[32, 45, 62, 32]⟩
def txClose : ByteArray := ⟨#[41]⟩
theorem conArrow_any (B b q off : Nat) (n : Int) (s : ByteArray) (ka na : Option Addr) (kn kc nn nc c : Nat) (fn gn : Int) (fs gs : ByteArray) (fka fna fa gka gna ga : Option Addr) (fkn fkc fnn fnc fln fcc gkn gkc gnn gnc gln gcc : Nat) (w : World) (h : WrB B b [] w) (hBw : B<=w.heap.size) (hq : q < B) (y0 : w.cell? ⟨q, off, none⟩ = some (.int .i64 5)) (y1 : w.cell? ⟨q, off + 1, none⟩ = some (.int .i64 fn)) (y2 : w.cell? ⟨q, off + 2, none⟩ = some (.string fs)) (y3 : w.cell? ⟨q, off + 3, none⟩ = some (.slice fka fkn fkc)) (y4 : w.cell? ⟨q, off + 4, none⟩ = some (.slice fna fnn fnc)) (y5 : w.cell? ⟨q, off + 5, none⟩ = some (.slice fa fln fcc)) (y6 : w.cell? ⟨q, off + 6, none⟩ = some (.int .i64 4)) (y7 : w.cell? ⟨q, off + 6 + 1, none⟩ = some (.int .i64 gn)) (y8 : w.cell? ⟨q, off + 6 + 2, none⟩ = some (.string gs)) (y9 : w.cell? ⟨q, off + 6 + 3, none⟩ = some (.slice gka gkn gkc)) (y10 : w.cell? ⟨q, off + 6 + 4, none⟩ = some (.slice gna gnn gnc)) (y11 : w.cell? ⟨q, off + 6 + 5, none⟩ = some (.slice ga gln gcc)) :
 Calls Tryz.prog 43 #[.pointer (some ⟨b, 0, none⟩), .agg #[.int .i64 6, .int .i64 n, .string s, .slice ka kn kc, .slice na nn nc, .slice (some ⟨q, off, none⟩) 2 c]] w fun e w' => e = .returned (.tuple #[])/\(WrB B b ([] ++ Lib.strCells txOpen ++ Lib.strCells txText ++ Lib.strCells txTo ++ Lib.strCells txInt ++ Lib.strCells txClose) w'/\Below B w w') := by
 have g0 := gAQ w (.cells #[.int .i64 6, .int .i64 n, .string s, .slice ka kn kc, .slice na nn nc, .slice (some ⟨q, off, none⟩) 2 c] 28)
 have hW0 := h.grown g0
 have k0 := nHQ w (.cells #[.int .i64 6, .int .i64 n, .string s, .slice ka kn kc, .slice na nn nc, .slice (some ⟨q, off, none⟩) 2 c] 28)
 obtain ⟨c0, c1, c2, c3, c4, c5⟩ := cnQ k0
 have hb0 : Below B w (w.alloc (.cells #[.int .i64 6, .int .i64 n, .string s, .slice ka kn kc, .slice na nn nc, .slice (some ⟨q, off, none⟩) 2 c] 28)) := (Below.refl B w).alloc hBw _
 have hcell : ∀ (W : World) (o : Nat) (v : Value), Below B w W->w.cell? ⟨q, o, none⟩ = some v->W.cell? ⟨q, o, none⟩ = some v := fun W o v hW hc => (World.cell?_of_block (a := ⟨q, o, none⟩) (hW.block q hq)).trans hc
 have HY : Hid (∀ W, Below B w W->W.cell? ⟨q, off, none⟩ = some (.int .i64 5)/\W.cell? ⟨q, off + 1, none⟩ = some (.int .i64 fn)/\W.cell? ⟨q, off + 2, none⟩ = some (.string fs)/\W.cell? ⟨q, off + 3, none⟩ = some (.slice fka fkn fkc)/\W.cell? ⟨q, off + 4, none⟩ = some (.slice fna fnn fnc)/\W.cell? ⟨q, off + 5, none⟩ = some (.slice fa fln fcc)/\W.cell? ⟨q, off + 6, none⟩ = some (.int .i64 4)/\W.cell? ⟨q, off + 6 + 1, none⟩ = some (.int .i64 gn)/\W.cell? ⟨q, off + 6 + 2, none⟩ = some (.string gs)/\W.cell? ⟨q, off + 6 + 3, none⟩ = some (.slice gka gkn gkc)/\W.cell? ⟨q, off + 6 + 4, none⟩ = some (.slice gna gnn gnc)/\W.cell? ⟨q, off + 6 + 5, none⟩ = some (.slice ga gln gcc)) := fun W hW => ⟨hcell W _ _ hW y0, hcell W _ _ hW y1, hcell W _ _ hW y2, hcell W _ _ hW y3, hcell W _ _ hW y4, hcell W _ _ hW y5, hcell W _ _ hW y6, hcell W _ _ hW y7, hcell W _ _ hW y8, hcell W _ _ hW y9, hcell W _ _ hW y10, hcell W _ _ hW y11⟩
 have HL := hJQ (wr_Len B b [] _ hW0)
 have HB0 := hJQ hb0
 have HW0 := hJQ hW0
 have HK0 := hJQ k0
 clear g0 h hW0 hb0 k0 hcell y0 y1 y2 y3 y4 y5 y6 y7 y8 y9 y10 y11
 go_enter Tryz.func43, Tryz.ntmps43
 go_wp2_with fail
 refine HL.out.mono ?_
 rintro e w2 ⟨rfl, rfl⟩
 clear HL
 go_upto_region 19 with fail
 generalize w.alloc (.cells #[.int .i64 6, .int .i64 n, .string s, .slice ka kn kc, .slice na nn nc, .slice (some ⟨q, off, none⟩) 2 c] 28) = V at *
 clear c0 c1 c2 c3 c4 c5
 have g1 := gAQ V (.cells #[.string txOpen] 9)
 have HWr1 := hJQ (write1_any B b V.heap.size ([]) txOpen _ (HW0.out.grown g1) (by simp [Lib.strCells_length, txOpen, txText, txTo, txInt, txClose, ByteArray.size]) (by have := HB0.out.size; simp; omega) (cOQ (nHQ V _)))
 have HG1 := hJQ g1
 unfold txOpen at HWr1 HG1
 have hbV1 := HB0.out
 clear g1
 go_wp2_with fail
 refine HWr1.out.mono ?_
 rintro e v1 ⟨rfl, h1, hb1, ho1⟩
 have HB1 := hJQ ((hbV1.trans (gUQ HG1.out (by have := hbV1.size; omega) (by nofun))).trans hb1)
 have HW1 := hJQ h1
 have HK1 := hJQ (((OthW.free HG1.out).trans ho1).2 _ _ _ _ HK0.out (by decide) (by decide))
 clear h1 hb1 ho1 HWr1 HG1 hbV1 HB0 HW0 HK0
 obtain ⟨y0, y1, y2, y3, y4, y5, y6, y7, y8, y9, y10, y11⟩ := HY.out v1 HB1.out
 obtain ⟨c0, c1, c2, c3, c4, c5⟩ := cnQ HK1.out
 have HLf2 := hJQ (conLeaf_any B b ([] ++ Lib.strCells txOpen) 5 fn fs fka fna fa fkn fkc fnn fnc fln fcc (by decide) v1 HW1.out (by simp [Lib.strCells_length, txOpen, txText, txTo, txInt, txClose, ByteArray.size]) (by have := HB1.out.size; omega))
 have hbV2 := HB1.out
 go_wp2_with fail
 refine HLf2.out.mono ?_
 rintro e v2 ⟨rfl, h2, hb2, ho2⟩
 have HB2 := hJQ (hbV2.trans hb2)
 have HW2 := hJQ h2
 have HK2 := hJQ (ho2.2 _ _ _ _ HK1.out (by decide) (by decide))
 clear h2 hb2 ho2 HLf2 hbV2 HB1 HW1 HK1 c0 c1 c2 c3 c4 c5 y0 y1 y2 y3 y4 y5 y6 y7 y8 y9 y10 y11
 have g3 := gAQ v2 (.cells #[.string txTo] 9)
 have HWr3 := hJQ (write1_any B b v2.heap.size ([] ++ Lib.strCells txOpen ++ Lib.strCells txText) txTo _ (HW2.out.grown g3) (by simp [Lib.strCells_length, txOpen, txText, txTo, txInt, txClose, ByteArray.size]) (by have := HB2.out.size; simp; omega) (cOQ (nHQ v2 _)))
 have HG3 := hJQ g3
 unfold txTo at HWr3 HG3
 have hbV3 := HB2.out
 clear g3
 go_wp2_with fail
 refine HWr3.out.mono ?_
 rintro e v3 ⟨rfl, h3, hb3, ho3⟩
 have HB3 := hJQ ((hbV3.trans (gUQ HG3.out (by have := hbV3.size; omega) (by nofun))).trans hb3)
 have HW3 := hJQ h3
 have HK3 := hJQ (((OthW.free HG3.out).trans ho3).2 _ _ _ _ HK2.out (by decide) (by decide))
 clear h3 hb3 ho3 HWr3 HG3 hbV3 HB2 HW2 HK2
 obtain ⟨y0, y1, y2, y3, y4, y5, y6, y7, y8, y9, y10, y11⟩ := HY.out v3 HB3.out
 obtain ⟨c0, c1, c2, c3, c4, c5⟩ := cnQ HK3.out
 have HLf4 := hJQ (conLeaf_any B b ([] ++ Lib.strCells txOpen ++ Lib.strCells txText ++ Lib.strCells txTo) 4 gn gs gka gna ga gkn gkc gnn gnc gln gcc (by decide) v3 HW3.out (by simp [Lib.strCells_length, txOpen, txText, txTo, txInt, txClose, ByteArray.size]) (by have := HB3.out.size; omega))
 have hbV4 := HB3.out
 go_wp2_with fail
 refine HLf4.out.mono ?_
 rintro e v4 ⟨rfl, h4, hb4, ho4⟩
 have HB4 := hJQ (hbV4.trans hb4)
 have HW4 := hJQ h4
 have HK4 := hJQ (ho4.2 _ _ _ _ HK3.out (by decide) (by decide))
 clear h4 hb4 ho4 HLf4 hbV4 HB3 HW3 HK3 c0 c1 c2 c3 c4 c5 y0 y1 y2 y3 y4 y5 y6 y7 y8 y9 y10 y11
 have g5 := gAQ v4 (.cells #[.string txClose] 9)
 have HWr5 := hJQ (write1_any B b v4.heap.size ([] ++ Lib.strCells txOpen ++ Lib.strCells txText ++ Lib.strCells txTo ++ Lib.strCells txInt) txClose _ (HW4.out.grown g5) (by simp [Lib.strCells_length, txOpen, txText, txTo, txInt, txClose, ByteArray.size]) (by have := HB4.out.size; simp; omega) (cOQ (nHQ v4 _)))
 have HG5 := hJQ g5
 unfold txClose at HWr5 HG5
 have hbV5 := HB4.out
 clear g5
 go_wp2_with fail
 refine HWr5.out.mono ?_
 rintro e v5 ⟨rfl, h5, hb5, ho5⟩
 have HB5 := hJQ ((hbV5.trans (gUQ HG5.out (by have := hbV5.size; omega) (by nofun))).trans hb5)
 have HW5 := hJQ h5
 have HK5 := hJQ (((OthW.free HG5.out).trans ho5).2 _ _ _ _ HK4.out (by decide) (by decide))
 clear h5 hb5 ho5 HWr5 HG5 hbV5 HB4 HW4 HK4
 go_wp2_with fail
 go_end0
 exact ⟨rfl, HW5.out, HB5.out⟩
def leafN (op : Int) : Cn := .mk op 0 ⟨#[]⟩ (.mk []) [] []
def lamN (x : Cn) : Cn := .mk 11 0 ⟨#[]⟩ (.mk []) [] [x]
def appN (x y : Cn) : Cn := .mk 12 0 ⟨#[]⟩ (.mk []) [] [x, y]
def exArrow : Cn := .mk 6 0 ⟨#[]⟩ (.mk []) [] [leafN 5, leafN 4]
def exApp : Cn := appN (lamN (.mk 6 0 ⟨#[]⟩ (.mk []) [] [leafN 1, leafN 4])) (leafN 5)
def exA : Cn := .mk 2 0 ⟨#[65, 46, 49]⟩ (.mk [.mk [], .mk []]) [] []
def exEta : Cn := lamN (appN exA (leafN 1))
theorem ex_val : valC exApp = true/\valC exEta = true/\valC exArrow = true/\normalC exArrow = true/\normalC exApp = false := by
 refine ⟨?_, ?_, ?_, ?_, ?_⟩
 ·decide +kernel
 ·decide +kernel
 ·decide +kernel
 ·decide +kernel
 ·decide +kernel
theorem ex_tame : tameN exApp = some (exArrow, 9999) := by
 show normN cstB labsB (4010397 + 4) exApp (9999 + 1) = _
 rfl
theorem ex_eta : tameN exEta = some (exA, 10000) := by
 show normN cstB labsB (4010397 + 4) exEta (9999 + 1) = _
 rfl
theorem bnd_node (op n : Int) (s : ByteArray) (k : Kd) (l : List Cn) (hs : s.size<=60) (hl : ∀ x ∈ l, bndC x) : bndC (.mk op n s k [] l) := (bndC_mk ..).2 ⟨hs, by simp, (fun x hx => by cases hx), hl⟩
theorem bnd_one {x : Cn} (h : bndC x) : ∀ y ∈ [x], bndC y := fun y hy => by rw [List.mem_singleton.1 hy]; exact h
theorem bnd_two {x z : Cn} (h : bndC x) (k : bndC z) : ∀ y ∈ [x, z], bndC y := fun y hy => by
 rcases List.mem_cons.1 hy with rfl | hy
 ·exact h
 ·rw [List.mem_singleton.1 hy]; exact k
theorem bnd_leaf (op : Int) : bndC (leafN op) := bnd_node _ _ _ _ _ (by decide) (fun x hx => by cases hx)
theorem ex_bnd : bndC exApp/\bndC exEta/\bndC exArrow :=
 ⟨bnd_node _ _ _ _ _ (by decide) (bnd_two (bnd_node _ _ _ _ _ (by decide) (bnd_one (bnd_node _ _ _ _ _ (by decide) (bnd_two (bnd_leaf 1) (bnd_leaf 4))))) (bnd_leaf 5)),
  bnd_node _ _ _ _ _ (by decide) (bnd_one (bnd_node _ _ _ _ _ (by decide) (bnd_two (bnd_node _ _ _ _ _ (by decide) (fun x hx => by cases hx)) (bnd_leaf 1)))),
  bnd_node _ _ _ _ _ (by decide) (bnd_two (bnd_leaf 5) (bnd_leaf 4))⟩
end Go.Proofs.YtkiffgdinmpljaaGreatDoor

/- tycon.depth, normal.size. Expanded by mac.py. Lists of kinds and of constructors under way. -/
import Derived.Test.YtkiffgdinmpljaaGreatDoorF4
import Derived.Test.YtkiffgdinmpljaaGreatDoorF6
set_option linter.unusedVariables false
set_option linter.unusedSimpArgs false
namespace Go.Proofs.YtkiffgdinmpljaaGreatDoor
open Go Go.RowKit
set_option maxHeartbeats 8000000
set_option maxRecDepth 100000
theorem depthCL_take (l : List Cn) (j : Nat) : depthCL (l.take j)<=depthCL l := by
 induction l generalizing j with
 | nil => simp
 | cons x l ih =>
   cases j with
   | zero => rw [List.take_zero, depthCL_nil]; omega
   | succ j => rw [List.take_succ_cons, depthCL_cons, depthCL_cons]; have := ih j; omega
theorem depthCL_size (l : List Cn) : depthCL l<=sizeCL l := by
 induction l with
 | nil => rw [depthCL_nil]; omega
 | cons x r ihr => rw [depthCL_cons, sizeCL_cons]; have := depth_size x; omega
theorem take_all {α β : Type} (f : α->β) (l : List α) : (l.map f).take l.length = l.map f := List.take_of_length_le (by rw [List.length_map]; exact Nat.le_refl _)
theorem cdepth_any (P : Nat->Prop) : ∀ (c : ConD) (w : World), IsCon P w c->sizeC (pC c)<=1000000000 →
 Calls Tryz.prog 52 #[conV c] w fun e w' => e = .returned (.int .i64 (dCQ (pC c)))/\Below w.heap.size w w' := by
 refine ConD.ind (fun op n s k nv ns lv l ih w h hsz => ?_)
 obtain ⟨ka, kc, kn, hks⟩ := iKQ h.parts.kind
 obtain ⟨na, nc, rfl, _⟩ := rSQ h.parts.names
 obtain ⟨a, c, rfl, _⟩ := rSQ h.parts.row
 rw [cVQ hks]
 have hll : l.length<=9223372036854775807 := by have h1 := h.parts.llen; have : maxLen = 9223372036854775807 := (by decide); omega
 have hnn : ns.length<=9223372036854775807 := by have h1 := h.parts.nlen; have : maxLen = 9223372036854775807 := (by decide); omega
 have hb0 : Below w.heap.size w (w.alloc (.cells #[.int .i64 op, .int .i64 n, .string s, .slice ka kn kc, .slice na ns.length nc, .slice a l.length c] 28)) := (Below.refl _ _).alloc (Nat.le_refl _) _
 have gC := nHQ w (.cells #[.int .i64 op, .int .i64 n, .string s, .slice ka kn kc, .slice na ns.length nc, .slice a l.length c] 28)
 have hsz0 : (w.alloc (.cells #[.int .i64 op, .int .i64 n, .string s, .slice ka kn kc, .slice na ns.length nc, .slice a l.length c] 28)).heap.size = w.heap.size + 1 := by simp
 obtain ⟨c0, c1, c2, c3, c4, c5⟩ := cnQ gC
 have HP := hJQ (iBQ h hb0).parts
 have HC0 := hJQ (iBQ h hb0)
 rw [pMQ] at hsz ⊢
 rw [sMQ] at hsz
 have HI := hJQ ih
 clear ih h hks gC HC0
 go_enter Tryz.func52, Tryz.ntmps52
 go_wp2_with fail
 generalize w.alloc (.cells #[.int .i64 op, .int .i64 n, .string s, .slice ka kn kc, .slice na ns.length nc, .slice a l.length c] 28) = W0 at *
 go_loopw [3, 9] (fun m i wr => ∃ (j : Nat), j<=l.length/\i = .int .i64 j/\m = .int .i64 ((depthCL ((l.map pC).take j) : Nat) : Int)/\Below W0.heap.size W0 wr) (fun _ i _ => l.length - (intOf i).toNat)
 case atStart => exact ⟨0, Nat.zero_le _, rfl, (by rw [List.take_zero, depthCL_nil]; rfl), Below.refl _ _⟩
 case round =>
  rename World => V
  obtain ⟨j, hj, rfl, rfl, hbr⟩ := hrel
  have hbt := depthCL_take (l.map pC) j
  have hbs := depthCL_size (l.map pC)
  by_cases hjl : j < l.length
  ·have HV := hJQ (Kept.of_below (P := P) hbr)
   obtain ⟨b, off, yop, yn, ys, yk, yns, yl, yka, ykn, ykc, yna, ync, ya, yc, fd, hbl, hq, hy, hmem, hv, HT, e0, e1, e2, e3, e4, e5⟩ := part_at (HV.out.row HP.out.row) (fun y hy => HV.out.con (HP.out.all y hy)) j hjl
   subst fd
   have HT := hJQ HT
   have hbY : Below V.heap.size V (V.alloc (.cells #[.int .i64 yop, .int .i64 yn, .string ys, .slice yka ykn ykc, .slice yna yns.length ync, .slice ya yl.length yc] 28)) := (Below.refl _ _).alloc (Nat.le_refl _) _
   obtain ⟨f0, f1, f2, f3, f4, f5⟩ := cnQ (nHQ V (.cells #[.int .i64 yop, .int .i64 yn, .string ys, .slice yka ykn ykc, .slice yna yns.length ync, .slice ya yl.length yc] 28))
   have hbt2 := sizeCL_take (l.map pC) (j + 1)
   rw [HT.out, sizeCL_snoc] at hbt2
   have hds := depth_size (pC (.mk yop yn ys yk (.slice yna yns.length ync) yns (.slice ya yl.length yc) yl))
   have HC := hJQ (HI.out _ hmem _ (iBQ hy hbY) (by omega))
   rw [hv] at HC
   have hbb := hbr.trans (hbY.mono hbr.size)
   clear hy hv hmem hq
   generalize pC (.mk yop yn ys yk (.slice yna yns.length ync) yns (.slice ya yl.length yc) yl) = y at *
   go_wp2_with fail
   refine HC.out.mono ?_
   rintro e w2 ⟨rfl, hb2⟩
   have hbr2 := hbb.trans (hb2.mono hbb.size)
   clear HC
   go_wp2_with fail
   go_roundw
   case rel => exact ⟨j + 1, by omega, by go_num, by rw [HT.out, depthCL_snoc]; go_num, hbr2⟩
   case measure => simp [intOf]; omega
  ·obtain rfl : j = l.length := by omega
   have hbw := hb0.trans (hbr.mono hb0.size)
   rw [take_all] at hbt ⊢
   go_wp2_with fail
   go_ret
   exact ⟨by rw [depthC_mk]; rfl, hbw⟩
theorem nsize_any (P : Nat->Prop) : ∀ (c : ConD) (w : World), IsCon P w c->sizeC (pC c)<=1000000000 →
 Calls Tryz.prog 121 #[conV c] w fun e w' => e = .returned (.tuple #[.int .i64 (sizeC (pC c)), .int .i64 (dCQ (pC c))])/\Below w.heap.size w w' := by
 refine ConD.ind (fun op n s k nv ns lv l ih w h hsz => ?_)
 obtain ⟨ka, kc, kn, hks⟩ := iKQ h.parts.kind
 obtain ⟨na, nc, rfl, _⟩ := rSQ h.parts.names
 obtain ⟨a, c, rfl, _⟩ := rSQ h.parts.row
 rw [cVQ hks]
 have hll : l.length<=9223372036854775807 := by have h1 := h.parts.llen; have : maxLen = 9223372036854775807 := (by decide); omega
 have hnn : ns.length<=9223372036854775807 := by have h1 := h.parts.nlen; have : maxLen = 9223372036854775807 := (by decide); omega
 have hb0 : Below w.heap.size w (w.alloc (.cells #[.int .i64 op, .int .i64 n, .string s, .slice ka kn kc, .slice na ns.length nc, .slice a l.length c] 28)) := (Below.refl _ _).alloc (Nat.le_refl _) _
 have gC := nHQ w (.cells #[.int .i64 op, .int .i64 n, .string s, .slice ka kn kc, .slice na ns.length nc, .slice a l.length c] 28)
 have hsz0 : (w.alloc (.cells #[.int .i64 op, .int .i64 n, .string s, .slice ka kn kc, .slice na ns.length nc, .slice a l.length c] 28)).heap.size = w.heap.size + 1 := by simp
 obtain ⟨c0, c1, c2, c3, c4, c5⟩ := cnQ gC
 have HP := hJQ (iBQ h hb0).parts
 have HC0 := hJQ (iBQ h hb0)
 rw [pMQ] at hsz ⊢
 rw [sMQ] at hsz
 have HI := hJQ ih
 clear ih h hks gC HC0
 go_enter Tryz.func121, Tryz.ntmps121
 go_wp2_with fail
 generalize w.alloc (.cells #[.int .i64 op, .int .i64 n, .string s, .slice ka kn kc, .slice na ns.length nc, .slice a l.length c] 28) = W0 at *
 go_loopw [2, 3, 11] (fun m q i wr => ∃ (j : Nat), j<=l.length/\i = .int .i64 j/\m = .int .i64 ((sizeCL ((l.map pC).take j) + 1 : Nat) : Int)/\q = .int .i64 ((depthCL ((l.map pC).take j) : Nat) : Int)/\Below W0.heap.size W0 wr) (fun _ _ i _ => l.length - (intOf i).toNat)
 case atStart => exact ⟨0, Nat.zero_le _, rfl, (by rw [List.take_zero, sizeCL_nil]; rfl), (by rw [List.take_zero, depthCL_nil]; rfl), Below.refl _ _⟩
 case round =>
  rename World => V
  obtain ⟨j, hj, rfl, rfl, rfl, hbr⟩ := hrel
  have hbt := depthCL_take (l.map pC) j
  have hbt3 := sizeCL_take (l.map pC) j
  have hbs := depthCL_size (l.map pC)
  by_cases hjl : j < l.length
  ·have HV := hJQ (Kept.of_below (P := P) hbr)
   obtain ⟨b, off, yop, yn, ys, yk, yns, yl, yka, ykn, ykc, yna, ync, ya, yc, fd, hbl, hq, hy, hmem, hv, HT, e0, e1, e2, e3, e4, e5⟩ := part_at (HV.out.row HP.out.row) (fun y hy => HV.out.con (HP.out.all y hy)) j hjl
   subst fd
   have HT := hJQ HT
   have hbY : Below V.heap.size V (V.alloc (.cells #[.int .i64 yop, .int .i64 yn, .string ys, .slice yka ykn ykc, .slice yna yns.length ync, .slice ya yl.length yc] 28)) := (Below.refl _ _).alloc (Nat.le_refl _) _
   obtain ⟨f0, f1, f2, f3, f4, f5⟩ := cnQ (nHQ V (.cells #[.int .i64 yop, .int .i64 yn, .string ys, .slice yka ykn ykc, .slice yna yns.length ync, .slice ya yl.length yc] 28))
   have hbt2 := sizeCL_take (l.map pC) (j + 1)
   rw [HT.out, sizeCL_snoc] at hbt2
   have hds := depth_size (pC (.mk yop yn ys yk (.slice yna yns.length ync) yns (.slice ya yl.length yc) yl))
   have HC := hJQ (HI.out _ hmem _ (iBQ hy hbY) (by omega))
   rw [hv] at HC
   have hbb := hbr.trans (hbY.mono hbr.size)
   clear hy hv hmem hq
   generalize pC (.mk yop yn ys yk (.slice yna yns.length ync) yns (.slice ya yl.length yc) yl) = y at *
   go_wp2_with fail
   refine HC.out.mono ?_
   rintro e w2 ⟨rfl, hb2⟩
   have hbr2 := hbb.trans (hb2.mono hbb.size)
   clear HC
   go_wp2_with fail
   go_roundw
   case rel => exact ⟨j + 1, by omega, by go_num, by rw [HT.out, sizeCL_snoc]; go_num, by rw [HT.out, depthCL_snoc]; go_num, hbr2⟩
   case measure => simp [intOf]; omega
  ·obtain rfl : j = l.length := by omega
   have hbw := hb0.trans (hbr.mono hb0.size)
   rw [take_all] at hbt hbt3 ⊢
   go_wp2_with fail
   go_ret2
   exact ⟨by rw [depthC_mk, sMQ]; rfl, hbw⟩
theorem gDQ (w : World) : w.grownBy w.drew none := ⟨rfl, rfl, rfl, Nat.le_refl _, fun _ _ _ => rfl⟩
theorem info_kind : (Tryz.prog.info? 24).map (fun i => (i.zero, i.size, i.bytes)) = some (some (.agg #[.slice none 0 0]), 1, 24) := by kernel_rfl
theorem info_con : (Tryz.prog.info? 28).map (fun i => (i.zero, i.size, i.bytes)) = some (some (.agg #[.int .i64 0, .int .i64 0, .string ⟨#[]⟩, .slice none 0 0, .slice none 0 0, .slice none 0 0]), 6, 104) := by kernel_rfl
theorem IsKind.lt {P : Nat->Prop} {w : World} {k : KindD} (h : IsKind P w k) : IsKind (fun b => P b/\b < w.heap.size) w k := h.mono fun _ hp hlt => ⟨hp, hlt⟩
theorem IsCon.lt {P : Nat->Prop} {w : World} {k : ConD} (h : IsCon P w k) : IsCon (fun b => P b/\b < w.heap.size) w k := h.mono fun _ hp hlt => ⟨hp, hlt⟩
theorem kindCells_app (a b : List KindD) : kindCells (a ++ b) = kindCells a ++ kindCells b := by simp [kindCells]
theorem conCells_app (a b : List ConD) : cCQ (a ++ b) = cCQ a ++ cCQ b := by simp [cCQ]
structure MkK (V : World) (B R : Nat) (cv : Value) (ds : List KindD) : Prop where
 cell : V.heap[R]? = some (.cells #[cv] 24 (0, 0))
 own : V.ownsRow B 24 1 cv ds.length (kindCells ds)
 els : ∀ y ∈ ds, IsKind (fun b => B<=b/\cv.ownBlock ≠ some b) V y
 lo : R < B
 lt : B<=V.heap.size
theorem MkK.grown {V V' : World} {B R : Nat} {cv : Value} {ds : List KindD} (h : MkK V B R cv ds) (hg : V.grownBy V' none) : MkK V' B R cv ds :=
 ⟨(hg.block _ (hLQ h.cell) (by nofun)).trans h.cell, h.own.kept hg (by cases cv.ownBlock <;> simp), fun y hy => (h.els y hy).grown hg (by nofun), h.lo, Nat.le_trans h.lt hg.size⟩
theorem MkK.slice {V : World} {B R : Nat} {cv : Value} {ds : List KindD} (h : MkK V B R cv ds) : ∃ a c, cv = .slice a ds.length c := by
 obtain ⟨_, h2⟩ := h.own
 rcases h2 with ⟨rfl, h0⟩ | ⟨g, cap, cur, rfl, _⟩
 ·exact ⟨none, 0, by rw [h0]⟩
 ·exact ⟨_, _, rfl⟩
theorem MkK.push {V w4 : World} {B R : Nat} {cv : Value} {ds : List KindD} {y : KindD} {o : Obj} {gN cN : Nat} (h : MkK V B R cv ds) (hy : IsKind (fun b => B<=b/\cv.ownBlock ≠ some b) V y)
 (hown : w4.ownsRow B 24 1 (.slice (some ⟨gN, 0, none⟩) (ds.length + 1) cN) (ds.length + 1) (kindCells ds ++ [y.v])) (hg : (V.alloc o).grownBy w4 cv.ownBlock) (hat : cv.ownBlock = some gN ∨ gN = (V.alloc o).heap.size) :
 MkK (w4.setCell ⟨R, 0, none⟩ (.slice (some ⟨gN, 0, none⟩) (ds.length + 1) cN)) B R (.slice (some ⟨gN, 0, none⟩) (ds.length + 1) cN) (ds ++ [y]) := by
 have hlt := hLQ h.cell
 have hol : ∀ b, cv.ownBlock = some b->B<=b := fun b hb => (h.own.lt b hb).1
 have hlo := h.lo
 have hblt := h.lt
 have hsz : (V.alloc o).heap.size = V.heap.size + 1 := by simp
 have hgs := hg.size
 have hR4 : w4.heap[R]? = some (.cells #[cv] 24 (0, 0)) := by
  rw [hg.block R (by omega) (fun e => by have := hol R e.symm; omega), ← h.cell]
  exact (gAQ V o).block R hlt (by nofun)
 have hgN : B<=gN := by
  rcases hat with e | e
  ·exact hol _ e
  ·omega
 have hset := gSQ w4 R 0 (.slice (some ⟨gN, 0, none⟩) (ds.length + 1) cN)
 refine ⟨(set1 hR4 _).1, ?_, ?_, hlo, ?_⟩
 ·rw [List.length_append, kindCells_app]
  exact hown.kept hset (.inr (fun e => by have e2 : gN = R := oJQ e; omega))
 ·intro z hz
  have hz' : IsKind (fun b => B<=b/\cv.ownBlock ≠ some b) V z := by
   rcases List.mem_append.1 hz with hz | hz
   ·exact h.els z hz
   ·rw [List.mem_singleton.1 hz]; exact hy
  have hk : IsKind (fun b => (B<=b/\cv.ownBlock ≠ some b)/\b < V.heap.size) (w4.setCell ⟨R, 0, none⟩ (.slice (some ⟨gN, 0, none⟩) (ds.length + 1) cN)) z := by
   refine hz'.lt.keep (by have := hset.size; omega) (fun b hb hlt => ?_)
   rw [hset.block b (by omega) (fun e => by have := oJQ e; omega), hg.block b (by omega) (fun e => hb.1.2 e.symm)]
   exact (gAQ V o).block b hlt (by nofun)
  refine hk.mono (fun b hb _ => ⟨hb.1.1, fun e => ?_⟩)
  have e : gN = b := oJQ e
  rcases hat with e2 | e2
  ·exact hb.1.2 (by rw [e2, e])
  ·omega
 ·have := hset.size; omega
structure MkC (P : Nat->Prop) (V : World) (B R : Nat) (h0 h1 h2 h3 h4 cv : Value) (ds : List ConD) : Prop where
 cell : V.heap[R]? = some (.cells #[h0, h1, h2, h3, h4, cv] 28 (0, 0))
 own : V.ownsRow B 28 6 cv ds.length (cCQ ds)
 els : ∀ y ∈ ds, IsCon (fun b => (P b/\b ≠ R)/\cv.ownBlock ≠ some b) V y
 lo : R < B
 lt : B<=V.heap.size
theorem MkC.grown {P : Nat->Prop} {V V' : World} {B R : Nat} {h0 h1 h2 h3 h4 cv : Value} {ds : List ConD} {r : Option Nat} (h : MkC P V B R h0 h1 h2 h3 h4 cv ds) (hg : V.grownBy V' r) (hr : ∀ q, r = some q->¬ P q/\q ≠ R/\cv.ownBlock ≠ some q) : MkC P V' B R h0 h1 h2 h3 h4 cv ds :=
 ⟨(hg.block _ (hLQ h.cell) (fun e => (hr _ e.symm).2.1 rfl)).trans h.cell, h.own.kept hg (by
   cases r with
   | none => cases cv.ownBlock <;> simp
   | some q => exact .inr (hr q rfl).2.2), fun y hy => (h.els y hy).grown hg (fun q e hq => (hr q e).1 hq.1.1), h.lo, Nat.le_trans h.lt hg.size⟩
theorem MkC.slice {P : Nat->Prop} {V : World} {B R : Nat} {h0 h1 h2 h3 h4 cv : Value} {ds : List ConD} (h : MkC P V B R h0 h1 h2 h3 h4 cv ds) : ∃ a c, cv = .slice a ds.length c := by
 obtain ⟨_, h2⟩ := h.own
 rcases h2 with ⟨rfl, h0⟩ | ⟨g, cap, cur, rfl, _⟩
 ·exact ⟨none, 0, by rw [h0]⟩
 ·exact ⟨_, _, rfl⟩
theorem MkC.nil {P : Nat->Prop} {V : World} {B R : Nat} {h0 h1 h2 h3 h4 : Value} (hc : V.heap[R]? = some (.cells #[h0, h1, h2, h3, h4, .slice none 0 0] 28 (0, 0))) (hlo : R < B) (hlt : B<=V.heap.size) : MkC P V B R h0 h1 h2 h3 h4 (.slice none 0 0) [] :=
 ⟨hc, ⟨rfl, .inl ⟨rfl, rfl⟩⟩, (fun y hy => by cases hy), hlo, hlt⟩
theorem MkC.push {P : Nat->Prop} {V w4 : World} {B R : Nat} {h0 h1 h2 h3 h4 cv : Value} {ds : List ConD} {y : ConD} {o : Obj} {gN cN : Nat} (h : MkC P V B R h0 h1 h2 h3 h4 cv ds) (hy : IsCon (fun b => (P b/\b ≠ R)/\cv.ownBlock ≠ some b) V y)
 (hown : w4.ownsRow B 28 6 (.slice (some ⟨gN, 0, none⟩) (ds.length + 1) cN) (ds.length + 1) (cCQ ds ++ cEQ y)) (hg : (V.alloc o).grownBy w4 cv.ownBlock) (hat : cv.ownBlock = some gN ∨ gN = (V.alloc o).heap.size) :
 MkC P (w4.setCell ⟨R, 5, none⟩ (.slice (some ⟨gN, 0, none⟩) (ds.length + 1) cN)) B R h0 h1 h2 h3 h4 (.slice (some ⟨gN, 0, none⟩) (ds.length + 1) cN) (ds ++ [y]) := by
 have hlt := hLQ h.cell
 have hol : ∀ b, cv.ownBlock = some b->B<=b := fun b hb => (h.own.lt b hb).1
 have hlo := h.lo
 have hblt := h.lt
 have hsz : (V.alloc o).heap.size = V.heap.size + 1 := by simp
 have hgs := hg.size
 have hR4 : w4.heap[R]? = some (.cells #[h0, h1, h2, h3, h4, cv] 28 (0, 0)) := by
  rw [hg.block R (by omega) (fun e => by have := hol R e.symm; omega), ← h.cell]
  exact (gAQ V o).block R hlt (by nofun)
 have hgN : B<=gN := by
  rcases hat with e | e
  ·exact hol _ e
  ·omega
 have hset := gSQ w4 R 5 (.slice (some ⟨gN, 0, none⟩) (ds.length + 1) cN)
 refine ⟨heap_set_same hR4 _, ?_, ?_, hlo, ?_⟩
 ·rw [List.length_append, conCells_app]
  have e : cCQ [y] = cEQ y := by simp [cCQ]
  rw [e]
  exact hown.kept hset (.inr (fun e => by have e2 : gN = R := oJQ e; omega))
 ·intro z hz
  have hz' : IsCon (fun b => (P b/\b ≠ R)/\cv.ownBlock ≠ some b) V z := by
   rcases List.mem_append.1 hz with hz | hz
   ·exact h.els z hz
   ·rw [List.mem_singleton.1 hz]; exact hy
  have hk : IsCon (fun b => ((P b/\b ≠ R)/\cv.ownBlock ≠ some b)/\b < V.heap.size) (w4.setCell ⟨R, 5, none⟩ (.slice (some ⟨gN, 0, none⟩) (ds.length + 1) cN)) z := by
   refine hz'.lt.keep (by have := hset.size; omega) (fun b hb hlt => ?_)
   rw [hset.block b (by omega) (fun e => hb.1.1.2 (oJQ e)), hg.block b (by omega) (fun e => hb.1.2 e.symm)]
   exact (gAQ V o).block b hlt (by nofun)
  refine hk.mono (fun b hb _ => ⟨hb.1.1, fun e => ?_⟩)
  have e : gN = b := oJQ e
  rcases hat with e2 | e2
  ·exact hb.1.2 (by rw [e2, e])
  ·omega
 ·have := hset.size; omega
end Go.Proofs.YtkiffgdinmpljaaGreatDoor

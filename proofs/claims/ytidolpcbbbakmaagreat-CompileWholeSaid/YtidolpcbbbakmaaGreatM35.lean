/- Prim of the reference of layer 47: the walk. -/
import Derived.Test.YtidolpcbbbakmaaGreatM34
namespace Go.Proofs.YtidolpcbbbakmaaGreat
open Go Go.RowKit
def okX (x : ExpD) : Bool := x.op == 1 || x.op == 2
theorem all_okX (l : List ExpD) : (l.map stripX).all okOp = l.all okX := by
  rw [List.all_map]
  congr 1
  funext x
  simp [okOp, okX, strip_op]
theorem cell_kept {w w' : World} {a : Addr} {v : Value} {r : Option Nat} (h : w.cell? a = some v) (g : w.grownBy w' r) (hr : r ≠ some a.block) : w'.cell? a = some v := by
  have h2 := World.block_lt_of_cell? w _ h
  unfold World.cell? at h ⊢
  rw [g.block _ h2 (fun e => hr e.symm)]
  exact h
theorem grown_by {a b c : World} {r : Option Nat} (h : a.grownBy b none) (g : b.grownBy c r) (hk : ∀ k, r = some k → a.heap.size ≤ k) : a.grownBy c none :=
  ⟨g.os.trans h.os, g.tape.trans h.tape, g.output.trans h.output, Nat.le_trans h.size g.size, fun q hq _ => (g.block q (Nat.lt_of_lt_of_le hq h.size) (fun e => by have := hk q e.symm; omega)).trans (h.block q hq (by nofun))⟩
theorem owns_slice' {V : World} {B : Nat} {e : TypeId} {s n : Nat} {v : Value} {xs : List Value} (h : V.ownsRow B e s v n xs) : ∃ a c, v = .slice a n c := by
  obtain ⟨_, ⟨rfl, rfl⟩ | ⟨g, cap, cur, rfl, _⟩⟩ := h
  · exact ⟨none, 0, rfl⟩
  · exact ⟨_, _, rfl⟩
theorem info_str47 : (Tryz.prog.info? 9).map (fun i => (i.zero, i.size, i.bytes)) = some (some (.string ⟨#[]⟩), 1, 16) := by kernel_rfl
theorem owns_at {V : World} {B : Nat} {e : TypeId} {s n c : Nat} {a : Option Addr} {xs : List Value} (h : V.ownsRow B e s (.slice a n c) n xs) (hn : 1 ≤ n) : ∃ g, a = some ⟨g, 0, none⟩ ∧ n ≤ c ∧ V.rangeAt g 0 xs ∧ B ≤ g ∧ g < V.heap.size := by
  have h' := h
  obtain ⟨_, ⟨hv, hz⟩ | ⟨g, cap, cur, hv, hb, hh, h1, _⟩⟩ := h
  · omega
  · obtain ⟨rfl, _, rfl⟩ := Value.slice.inj hv
    refine ⟨g, rfl, h1, fun j u hu => ?_, hb, heap_lt hh⟩
    have := h'.cells rfl j u hu
    rw [Addr.add_mid] at this
    exact this
theorem setRow_grown (w : World) (g : Nat) (cs : Array Value) : w.grownBy (w.setRow g cs) (some g) :=
  ⟨rfl, rfl, rfl, by rw [setRow_size]; exact Nat.le_refl _, fun q _ hne => setRow_other w g q cs (fun e => hne (by rw [e]))⟩
/-- A text more in the output. -/
theorem print_end {sb : Nat} {fv tv : Value} {main fuel : Int} {st : StD} {oa : Option Addr} {oc g' cap : Nat} {xs : ByteArray} {V wa w' : World}
    (hblk : w'.heap[sb]? = some (.cells (stCells fv tv main fuel st (.slice oa st.out.length oc)) 74 (0, 0))) (hown : w'.ownsRow (sb + 1) 9 1 (.slice (some ⟨g', 0, none⟩) (st.out.length + 1) cap) (st.out.length + 1) (strCells st.out ++ [.string xs]))
    (hgrow : wa.grownBy w' (Value.slice oa st.out.length oc).ownBlock) (gA : (V.alloc (.cells nil47 77)).grownBy wa none) {H : Nat} (hat : (Value.slice oa st.out.length oc).ownBlock = some g' ∨ g' = H) (hH : wa.heap.size ≤ H)
    (_hov : ∀ k, (Value.slice oa st.out.length oc).ownBlock = some k → k < V.heap.size) (hsb : sb < V.heap.size) (hn : (w'.setCell ⟨sb, 5, none⟩ (.slice (some ⟨g', 0, none⟩) (st.out.length + 1) cap)).heap[V.heap.size]? = some (.cells nil47 77 (0, 0))) :
    SSt ((w'.setCell ⟨sb, 5, none⟩ (.slice (some ⟨g', 0, none⟩) (st.out.length + 1) cap)).setRow V.heap.size unit47) sb fv tv main fuel { st with out := st.out ++ [xs] } (.slice (some ⟨g', 0, none⟩) (st.out.length + 1) cap) ∧
    Em sb V ((w'.setCell ⟨sb, 5, none⟩ (.slice (some ⟨g', 0, none⟩) (st.out.length + 1) cap)).setRow V.heap.size unit47) (Value.slice oa st.out.length oc).ownBlock (Value.slice (some ⟨g', 0, none⟩) (st.out.length + 1) cap).ownBlock := by
  have gs := grown_set w' sb 5 (.slice (some ⟨g', 0, none⟩) (st.out.length + 1) cap)
  have b1 := heap_set_same (i := 5) hblk (.slice (some ⟨g', 0, none⟩) (st.out.length + 1) cap)
  have hown2 := owns_grown hown gs (fun k hk e => by have := (owns_lt hown _ e).1; cases hk; omega)
  have hgV : g' ≠ V.heap.size := fun e => by
    obtain ⟨cu, hcu⟩ := owns_block hown2 g' rfl
    have h9 := hn
    rw [← e, hcu] at h9
    exact absurd (Obj.cells.inj (Option.some.inj h9)).2.1 (by decide)
  have gr := setRow_grown (w'.setCell ⟨sb, 5, none⟩ (.slice (some ⟨g', 0, none⟩) (st.out.length + 1) cap)) V.heap.size unit47
  have hown3 := owns_grown hown2 gr (fun k hk e => by have h1 := Option.some.inj hk; have h2 := Option.some.inj e; exact hgV (h2.trans h1.symm))
  refine ⟨⟨(setRow_other _ _ _ _ (by omega)).trans b1, ?_⟩, ?_⟩
  · rw [strCells_snoc, List.length_append]
    exact hown3
  · have h1 : Em sb V wa (Value.slice oa st.out.length oc).ownBlock (Value.slice oa st.out.length oc).ownBlock := Em.free (both (grown_alloc V _) gA)
    have h2 : Em sb wa w' (Value.slice oa st.out.length oc).ownBlock (some g') := Em.grown hgrow (by
      rcases hat with e | e
      · exact .inl e.symm
      · exact .inr ⟨g', rfl, by omega⟩)
    have h3 := (h1.trans h2).trans (Em.set w' 5 (.slice (some ⟨g', 0, none⟩) (st.out.length + 1) cap) (some g'))
    refine ⟨h3.os, h3.tape, h3.output, by rw [setRow_size]; exact h3.size, fun k hk h4 h5 => ?_, h3.own⟩
    rw [setRow_other _ _ _ _ (by omega)]
    exact h3.kept k hk h4 h5
theorem numR_fail (x c : Int) (h : numR x = .fail c) : c ≠ 0 := by
  unfold numR at h
  by_cases h1 : 4503599627370496 < x
  · rw [if_pos h1] at h; cases h; decide
  · rw [if_neg h1] at h
    by_cases h2 : x < -4503599627370496
    · rw [if_pos h2] at h; cases h; decide
    · rw [if_neg h2] at h; cases h
theorem textR_fail (x : ByteArray) (c : Int) (h : textR x = .fail c) : c ≠ 0 := by
  unfold textR at h
  by_cases h1 : 16384 < x.size
  · rw [if_pos h1] at h; cases h; decide
  · rw [if_neg h1] at h; cases h
theorem primR_fail (n na nb : Int) (sa sB sh : ByteArray) (c : Int) (h : primR n na nb sa sB sh = .fail c) : c ≠ 0 := by
  unfold primR at h
  by_cases h1 : n = 1
  · rw [if_pos h1] at h; exact numR_fail _ c h
  rw [if_neg h1] at h
  by_cases h2 : n = 2
  · rw [if_pos h2] at h; exact numR_fail _ c h
  rw [if_neg h2] at h
  by_cases h3 : n = 3
  · rw [if_pos h3] at h; exact numR_fail _ c h
  rw [if_neg h3] at h
  by_cases h4 : n = 4
  · rw [if_pos h4] at h
    by_cases hz : nb = 0
    · rw [if_pos hz] at h; cases h; decide
    · rw [if_neg hz] at h; exact numR_fail _ c h
  rw [if_neg h4] at h
  by_cases h5 : n = 5
  · rw [if_pos h5] at h
    by_cases hz : nb = 0
    · rw [if_pos hz] at h; cases h; decide
    · rw [if_neg hz] at h; exact numR_fail _ c h
  rw [if_neg h5] at h
  by_cases h6 : n = 6
  · rw [if_pos h6] at h; exact numR_fail _ c h
  rw [if_neg h6] at h
  by_cases h7 : n = 7
  · rw [if_pos h7] at h; cases h
  rw [if_neg h7] at h
  by_cases h8 : n = 8
  · rw [if_pos h8] at h; cases h
  rw [if_neg h8] at h
  by_cases h9 : n = 9
  · rw [if_pos h9] at h; cases h
  rw [if_neg h9] at h
  by_cases h10 : n = 10
  · rw [if_pos h10] at h; exact textR_fail _ c h
  rw [if_neg h10] at h
  by_cases h11 : n = 11
  · rw [if_pos h11] at h; exact numR_fail _ c h
  rw [if_neg h11] at h
  by_cases h12 : n = 12
  · rw [if_pos h12] at h; cases h
  rw [if_neg h12] at h
  exact textR_fail _ c h
theorem truth_isV {M : Nat → Prop} {V w : World} {n : Int} {p : Nat} (hp : V.heap.size ≤ p) (hM : ∀ b, M b → b < V.heap.size) (hu : w.heap[p]? = some (.cells unit47 77 (0, 0))) :
    IsV M w (.mk 4 n ⟨#[]⟩ (.slice (some ⟨p, 0, none⟩) 1 1) [.mk 3 0 ⟨#[]⟩ (.slice none 0 0) []]) := by
  refine .mk ⟨_, _, rfl, Nat.le_refl _, (fun h => by cases h), fun _ => ⟨p, 0, _, rfl, fun h => by have := hM p h; omega, hu, fun j hj => ?_⟩⟩ (by decide) (fun y hy => ?_)
  · have hj4 : j = 0 ∨ j = 1 ∨ j = 2 ∨ j = 3 := by simp [expCells, expEnc] at hj; omega
    rcases hj4 with rfl | rfl | rfl | rfl <;> simp [World.cell?, hu, unit47, expCells, expEnc, ExpD.op, ExpD.n, ExpD.s, ExpD.lv]
  · rcases List.mem_singleton.1 hy with rfl
    exact isV_flat _ _ _ _ _
theorem r15_fail (n : Int) (l : List ValD) (c : Int) (h : r15 n l = .fail c) : c ≠ 0 := by
  match l, h with
  | [], h => cases h; decide
  | [a], h => exact primR_fail _ _ _ _ _ _ c h
  | [a, b], h => exact primR_fail _ _ _ _ _ _ c h
  | _ :: _ :: _ :: _, h => cases h; decide
theorem fl_snoc (l : List ExpD) (x : ExpD) : fl (l ++ [x]) = fl l ++ flat15 x.op x.n x.s := by simp [fl]
theorem ll_snoc (l : List ExpD) (x : ExpD) : ll (l ++ [x]) = ll l ++ listV x.op x.n x.s := by simp [ll]
/-- The answer of Prim. -/
def PrimOk (M : Nat → Prop) (sb : Nat) (fv tv : Value) (main fuel : Int) (st : StD) (ov : Value) (q : PQ) (V : World) (e : Ending) (V' : World) : Prop :=
  ∃ (x : ExpD) (ov' : Value), e = .returned (expV x) ∧ stripX x = (applyQ st q).1 ∧ IsV M V' x ∧ SSt V' sb fv tv main fuel (applyQ st q).2 ov' ∧ Em sb V V' ov.ownBlock ov'.ownBlock
theorem default_strip : stripX (.mk 0 0 ⟨#[]⟩ (.slice none 0 0) []) = default := by rw [stripX_mk, stripL]; rfl
/-- A stop, and its nothing laid into the result's cell. -/
theorem stuck_end {M : Nat → Prop} {sb : Nat} {fv tv : Value} {main fuel : Int} {st : StD} {ov : Value} {q : PQ} {V wr w2 : World} (e1 n1 : Int) (hq : applyQ st q = (default, stopP st e1 n1)) (hlt : sb < V.heap.size)
    (g : (V.alloc (.cells nil47 77)).grownBy wr none) (hs : SSt w2 sb fv tv main fuel (stopP st e1 n1) ov) (hE : Em sb wr w2 ov.ownBlock ov.ownBlock) (hov : ∀ k, ov.ownBlock = some k → k < V.heap.size) :
    w2.heap[V.heap.size]? = some (.cells nil47 77 (0, 0)) ∧ PrimOk M sb fv tv main fuel st ov q V (.returned (.agg nil47)) (w2.setRow V.heap.size nil47) := by
  have g0 := grown_alloc V (.cells nil47 77)
  have n0 := heap_alloc_new V (.cells nil47 77)
  have hz := heap_lt n0
  have n1' := (g.block _ hz (by nofun)).trans n0
  have n2 : w2.heap[V.heap.size]? = some (.cells nil47 77 (0, 0)) := (hE.kept _ (heap_lt n1') (by omega) (fun e => by have := hov _ e; omega)).trans n1'
  have hR : Em sb w2 (w2.setRow V.heap.size nil47) ov.ownBlock ov.ownBlock ∨ True := .inr trivial
  refine ⟨n2, .mk 0 0 ⟨#[]⟩ (.slice none 0 0) [], ov, rfl, ?_, isV_flat _ _ _ _ _, ?_, ?_⟩
  · rw [hq]; exact default_strip
  · rw [hq]
    refine ⟨(setRow_other w2 _ _ _ (by omega)).trans hs.blk, ?_⟩
    rw [Go.setRow_self w2 _ _ _ _ n2]
    exact hs.own
  · have h1 := (Em.free (wb := sb) (r := ov.ownBlock) (both g0 g)).trans hE
    rw [Go.setRow_self w2 _ _ _ _ n2]
    exact h1
set_option maxRecDepth 100000 in
set_option maxHeartbeats 8000000 in
theorem Prim47_any (M : Nat → Prop) (sb : Nat) (fv tv : Value) (main fuel : Int) (st : StD) (ov : Value) (n : Int) (lv : Value) (l : List ExpD) (V : World) (hM : ∀ b, M b → b < V.heap.size)
    (hS : SSt V sb fv tv main fuel st ov) (he : st.e = 0) (hl : RowV M V lv l.length (expCells l)) (hm : l.length = 1 ∨ l.length = 2) (hn1 : 1 ≤ n) (hn2 : n ≤ 14) (ho : st.out.length ≤ 1000) :
    Calls Tryz.prog 60 #[.pointer (some ⟨sb, 0, none⟩), .int .i64 n, lv] V (PrimOk M sb fv tv main fuel st ov (primQ n (l.map stripX)) V) := by
  obtain ⟨oa, oc, rfl⟩ := owns_slice' hS.own
  have HL := Lib.hid hl
  have HS := Lib.hid hS
  have hsb := heap_lt hS.blk
  have hov : ∀ k, (Value.slice oa st.out.length oc).ownBlock = some k → k < V.heap.size := fun k hk => (owns_lt hS.own k hk).2
  have HOV := Lib.hid hov
  obtain ⟨a0, lc, rfl, hlc, _, hcell⟩ := hl
  obtain ⟨lb, off, cur, rfl, hnM, hlb, _⟩ := hcell (by omega)
  have hlb' := heap_lt hlb
  have HLB := Lib.hid hlb
  have hm2 : l.length ≤ 2 := by omega
  have hm1 : 1 ≤ l.length := by omega
  have HM := Lib.hid hm
  have HM2 := Lib.hid hM
  have Hn1 := Lib.hid hn1
  have Hn2 := Lib.hid hn2
  have He := Lib.hid he
  have Ho := Lib.hid ho
  clear hS hcell hlb hov hm hM hnM he ho hn1 hn2
  have g0 := grown_alloc V (.cells nil47 77)
  have n0 := heap_alloc_new V (.cells nil47 77)
  obtain ⟨ii, iihii, iihz0, iihz1, iihz2⟩ := parts_info info_val15
  obtain ⟨ia, iahii, iahz0, iahz1, iahz2⟩ := parts_info info_val
  obtain ⟨is0, his, isz0, isz1, isz2⟩ := parts_info info_str47
  go_enter Tryz.func60, Tryz.ntmps60
  go_wp2_with fail
  go_loopw [7, 8] (fun v7 i wr => ∃ (k : Nat) (ta : Option Addr) (tc : Nat), k ≤ l.length ∧ i = .int .i64 k ∧ v7 = .slice ta k tc ∧ Hid ((l.take k).all okX = true) ∧ Hid (wr.ownsRow (V.heap.size + 1) 149 25 (.slice ta k tc) k (fl (l.take k))) ∧ Hid ((V.alloc (.cells nil47 77)).grownBy wr none)) (fun _ i _ => l.length - (intOf i).toNat)
  case atStart => exact ⟨0, none, 0, Nat.zero_le _, rfl, rfl, Lib.hid (by rw [List.take_zero]; rfl), Lib.hid ⟨rfl, .inl ⟨rfl, rfl⟩⟩, ⟨rfl, rfl, rfl, Nat.le_refl _, fun _ _ _ => rfl⟩⟩
  case round =>
    obtain ⟨k, ta, tc, hk, rfl, rfl, HOK, HO, HG⟩ := hrel
    have hVw := HG.out.size
    simp at hVw
    by_cases hkl : k < l.length
    · obtain ⟨b, off', c', ha, _, hnM, hbl, c0, c1, c2, c3⟩ := rowV_at (HL.out.kept (keepV_grown (both g0 HG.out))) k hkl
      obtain ⟨hq1, _, rfl⟩ := Value.slice.inj ha
      obtain ⟨rfl, rfl, _⟩ := Addr.mk.inj (Option.some.inj hq1)
      clear c3 ha hq1 hnM hbl
      have hT := take_one default l k hkl
      have hmem := getD_mem default l k hkl
      have hbad : okX (l.getD k default) = false → l.all okX = false := fun h => by
        rw [Bool.eq_false_iff]
        intro h'
        rw [List.all_eq_true] at h'
        rw [h' _ hmem] at h
        cases h
      generalize l.getD k default = x at *
      obtain ⟨op, xn, xs, xv, xl⟩ := x
      change wr.cell? ⟨lb, off + k * 4, none⟩ = some (.int .i64 op) at c0
      change wr.cell? ⟨lb, off + k * 4 + 1, none⟩ = some (.int .i64 xn) at c1
      change wr.cell? ⟨lb, off + k * 4 + 2, none⟩ = some (.string xs) at c2
      have HT : Hid (fl (l.take (k + 1)) = fl (l.take k) ++ flat15 op xn xs) := Lib.hid (by rw [hT, fl_snoc]; rfl)
      have HA : Hid (okX (.mk op xn xs xv xl) = true → (l.take (k + 1)).all okX = true) := Lib.hid (fun h => by rw [hT, List.all_append, HOK.out]; simp [h])
      have HB := Lib.hid hbad
      have hw1 : IntKind.i64.wrap ((k : Int) + 1) = (k : Int) + 1 := wrap_ok _ (by omega) (by omega)
      clear hT hmem hbad
      by_cases h1 : op = 1
      · subst h1
        go_wp2_with fail
        refine wp_region_held_drew (S := fun w9 => w9.cell? ⟨lb, off + k * 4, none⟩ = some (.int .i64 1) ∧ w9.cell? ⟨lb, off + k * 4 + 1, none⟩ = some (.int .i64 xn) ∧ w9.cell? ⟨lb, off + k * 4 + 2, none⟩ = some (.string xs)) (by kernel_rfl) ⟨c0, c1, c2⟩ (fun hHeld => ?_)
        refine held_take 0 36 (.slice ta k tc) rfl rfl (by kernel_rfl) (by kernel_rfl) (by kernel_rfl) (fun _ _ _ h => h) (Or.inl ⟨by rfl, fun w9 hSw => ?y0⟩) hHeld ?_
        case y0 =>
          obtain ⟨s0, s1, s2⟩ := hSw
          clear hHeld
          go_simp
        simp only [Act.put, List.setIfInBounds_toArray, List.set_cons_zero, List.set_cons_succ]
        refine held_take 1 37 (.slice (some ⟨lb, off, none⟩) l.length lc) rfl rfl (by kernel_rfl) (by kernel_rfl) (by kernel_rfl) (fun _ _ _ h => h) (Or.inl ⟨by rfl, fun w9 hSw => ?y1⟩) hHeld ?_
        case y1 =>
          obtain ⟨s0, s1, s2⟩ := hSw
          clear hHeld
          go_simp
        simp only [Act.put, List.setIfInBounds_toArray, List.set_cons_zero, List.set_cons_succ]
        refine held_take 2 38 (.int .i64 (k : Int)) rfl rfl (by kernel_rfl) (by kernel_rfl) (by kernel_rfl) (fun _ _ _ h => h) (Or.inl ⟨by rfl, fun w9 hSw => ?y2⟩) hHeld ?_
        case y2 =>
          obtain ⟨s0, s1, s2⟩ := hSw
          clear hHeld
          go_simp
        simp only [Act.put, List.setIfInBounds_toArray, List.set_cons_zero, List.set_cons_succ]
        refine held_take 3 39 (.pointer (some ⟨lb, off + k * 4, none⟩)) rfl rfl (by kernel_rfl) (by kernel_rfl) (by kernel_rfl) (fun _ _ _ h => h) (Or.inl ⟨by rfl, fun w9 hSw => ?y3⟩) hHeld ?_
        case y3 =>
          obtain ⟨s0, s1, s2⟩ := hSw
          clear hHeld
          go_simp
        simp only [Act.put, List.setIfInBounds_toArray, List.set_cons_zero, List.set_cons_succ]
        refine held_take 4 40 (.pointer (some ⟨lb, off + k * 4, none⟩)) rfl rfl (by kernel_rfl) (by kernel_rfl) (by kernel_rfl) (fun _ _ _ h => h) (Or.inl ⟨by rfl, fun w9 hSw => ?y4⟩) hHeld ?_
        case y4 =>
          obtain ⟨s0, s1, s2⟩ := hSw
          clear hHeld
          go_simp
        simp only [Act.put, List.setIfInBounds_toArray, List.set_cons_zero, List.set_cons_succ]
        refine held_take 5 41 (.int .i64 1) rfl rfl (by kernel_rfl) (by kernel_rfl) (by kernel_rfl) (fun _ _ _ h => h) (Or.inl ⟨by rfl, fun w9 hSw => ?y5⟩) hHeld ?_
        case y5 =>
          obtain ⟨s0, s1, s2⟩ := hSw
          clear hHeld
          go_simp
        simp only [Act.put, List.setIfInBounds_toArray, List.set_cons_zero, List.set_cons_succ]
        refine held_take 6 42 (.slice (some ⟨lb, off, none⟩) l.length lc) rfl rfl (by kernel_rfl) (by kernel_rfl) (by kernel_rfl) (fun _ _ _ h => h) (Or.inl ⟨by rfl, fun w9 hSw => ?y6⟩) hHeld ?_
        case y6 =>
          obtain ⟨s0, s1, s2⟩ := hSw
          clear hHeld
          go_simp
        simp only [Act.put, List.setIfInBounds_toArray, List.set_cons_zero, List.set_cons_succ]
        refine held_take 7 43 (.int .i64 (k : Int)) rfl rfl (by kernel_rfl) (by kernel_rfl) (by kernel_rfl) (fun _ _ _ h => h) (Or.inl ⟨by rfl, fun w9 hSw => ?y7⟩) hHeld ?_
        case y7 =>
          obtain ⟨s0, s1, s2⟩ := hSw
          clear hHeld
          go_simp
        simp only [Act.put, List.setIfInBounds_toArray, List.set_cons_zero, List.set_cons_succ]
        refine held_take 8 44 (.pointer (some ⟨lb, off + k * 4, none⟩)) rfl rfl (by kernel_rfl) (by kernel_rfl) (by kernel_rfl) (fun _ _ _ h => h) (Or.inl ⟨by rfl, fun w9 hSw => ?y8⟩) hHeld ?_
        case y8 =>
          obtain ⟨s0, s1, s2⟩ := hSw
          clear hHeld
          go_simp
        simp only [Act.put, List.setIfInBounds_toArray, List.set_cons_zero, List.set_cons_succ]
        refine held_take 9 45 (.pointer (some ⟨lb, off + k * 4 + 1, none⟩)) rfl rfl (by kernel_rfl) (by kernel_rfl) (by kernel_rfl) (fun _ _ _ h => h) (Or.inl ⟨by rfl, fun w9 hSw => ?y9⟩) hHeld ?_
        case y9 =>
          obtain ⟨s0, s1, s2⟩ := hSw
          clear hHeld
          go_simp
        simp only [Act.put, List.setIfInBounds_toArray, List.set_cons_zero, List.set_cons_succ]
        refine held_take 10 46 (.int .i64 xn) rfl rfl (by kernel_rfl) (by kernel_rfl) (by kernel_rfl) (fun _ _ _ h => h) (Or.inl ⟨by rfl, fun w9 hSw => ?y10⟩) hHeld ?_
        case y10 =>
          obtain ⟨s0, s1, s2⟩ := hSw
          clear hHeld
          go_simp
        simp only [Act.put, List.setIfInBounds_toArray, List.set_cons_zero, List.set_cons_succ]
        refine held_take 11 47 (.slice (some ⟨lb, off, none⟩) l.length lc) rfl rfl (by kernel_rfl) (by kernel_rfl) (by kernel_rfl) (fun _ _ _ h => h) (Or.inl ⟨by rfl, fun w9 hSw => ?y11⟩) hHeld ?_
        case y11 =>
          obtain ⟨s0, s1, s2⟩ := hSw
          clear hHeld
          go_simp
        simp only [Act.put, List.setIfInBounds_toArray, List.set_cons_zero, List.set_cons_succ]
        refine held_take 12 48 (.int .i64 (k : Int)) rfl rfl (by kernel_rfl) (by kernel_rfl) (by kernel_rfl) (fun _ _ _ h => h) (Or.inl ⟨by rfl, fun w9 hSw => ?y12⟩) hHeld ?_
        case y12 =>
          obtain ⟨s0, s1, s2⟩ := hSw
          clear hHeld
          go_simp
        simp only [Act.put, List.setIfInBounds_toArray, List.set_cons_zero, List.set_cons_succ]
        refine held_take 13 49 (.pointer (some ⟨lb, off + k * 4, none⟩)) rfl rfl (by kernel_rfl) (by kernel_rfl) (by kernel_rfl) (fun _ _ _ h => h) (Or.inl ⟨by rfl, fun w9 hSw => ?y13⟩) hHeld ?_
        case y13 =>
          obtain ⟨s0, s1, s2⟩ := hSw
          clear hHeld
          go_simp
        simp only [Act.put, List.setIfInBounds_toArray, List.set_cons_zero, List.set_cons_succ]
        refine held_take 14 50 (.pointer (some ⟨lb, off + k * 4 + 2, none⟩)) rfl rfl (by kernel_rfl) (by kernel_rfl) (by kernel_rfl) (fun _ _ _ h => h) (Or.inl ⟨by rfl, fun w9 hSw => ?y14⟩) hHeld ?_
        case y14 =>
          obtain ⟨s0, s1, s2⟩ := hSw
          clear hHeld
          go_simp
        simp only [Act.put, List.setIfInBounds_toArray, List.set_cons_zero, List.set_cons_succ]
        refine held_take 15 51 (.string xs) rfl rfl (by kernel_rfl) (by kernel_rfl) (by kernel_rfl) (fun _ _ _ h => h) (Or.inl ⟨by rfl, fun w9 hSw => ?y15⟩) hHeld ?_
        case y15 =>
          obtain ⟨s0, s1, s2⟩ := hSw
          clear hHeld
          go_simp
        simp only [Act.put, List.setIfInBounds_toArray, List.set_cons_zero, List.set_cons_succ]
        refine held_take 16 52 (.agg (row15 1 xn xs (.slice none 0 0))) rfl rfl (by kernel_rfl) (by kernel_rfl) (by kernel_rfl) (fun _ _ _ h => h) (Or.inl ⟨by rfl, fun w9 hSw => ?y16⟩) hHeld ?_
        case y16 =>
          obtain ⟨s0, s1, s2⟩ := hSw
          clear hHeld
          go_simp
          rfl
        simp only [Act.put, List.setIfInBounds_toArray, List.set_cons_zero, List.set_cons_succ]
        clear c0 c1 c2
        have gD := both HG.out (grown_drew wr)
        have hownD := owns_grown HO.out (grown_drew wr) (by nofun)
        have hownA := owns_grown hownD (grown_alloc wr.drew (.cells (row15 1 xn xs (.slice none 0 0)) 149)) (by nofun)
        have gA := both gD (grown_alloc wr.drew (.cells (row15 1 xn xs (.slice none 0 0)) 149))
        have hsz := gA.size
        refine wpAnyH_ready (rs := [17]) (by kernel_rfl) (by simp) (AllReadyH.cons (by rfl) (fun K hK => ?_) AllReadyH.nil)
        refine step15 (by rfl) _ (by rfl) _ (by rfl) (by rfl) ?_
        refine hK.out _ _ ⟨cell_alloc_some hHeld.1 _, cell_alloc_some hHeld.2.1 _, cell_alloc_some hHeld.2.2 _⟩ (fun hHeld2 => ?_)
        clear hK K
        skip
        refine wpAnyH_ready (rs := [18]) (by kernel_rfl) (by simp) (AllReadyH.cons (by rfl) (fun K hK => ?_) AllReadyH.nil)
        refine step_append_lies _ (by rfl) _ _ 138 (by rfl) (V.heap.size + 1) 149 ii (.agg nil15) 25 424 Tryz.underlying138 iihii iihz0 iihz1 iihz2 (by rfl) (by decide) (.slice ta k tc) k (fl (l.take k)) (by rfl) hownA ⟨wr.drew.heap.size, 0, none⟩ 1 1 (flat15 1 xn xs) (by rfl) (by rfl) (World.news_of_block (cs := row15 1 xn xs (.slice none 0 0)) (new_heap wr.drew _)) (List.all_eq_true.1 (show (flat15 1 xn xs).all (·.oneCell') = true from rfl)) (by decide) (by unfold maxLen; omega) (by omega) (by simp at hsz ⊢; omega) _ rfl (fun g cap w' hown hgrow hat hlt => ?_)
        have hne : ∀ q, (Value.slice ta k tc).ownBlock = some q → V.heap.size + 1 ≤ q := fun q hq => (owns_lt hownA q hq).1
        refine hK.out _ _ ⟨cell_kept hHeld2.1 hgrow (fun e => by have := hne lb e; omega), cell_kept hHeld2.2.1 hgrow (fun e => by have := hne lb e; omega), cell_kept hHeld2.2.2 hgrow (fun e => by have := hne lb e; omega)⟩ (fun hHeld3 => ?_)
        clear hK K
        refine held_take 19 7 (.slice (some ⟨g, 0, none⟩) (k + 1) cap) rfl rfl (by kernel_rfl) (by kernel_rfl) (by kernel_rfl) (fun _ _ _ h => h) (Or.inl ⟨by rfl, fun w9 hSw => ?y19⟩) hHeld3 ?_
        case y19 =>
          obtain ⟨s0, s1, s2⟩ := hSw
          clear hHeld
          go_simp
        simp only [Act.put, List.setIfInBounds_toArray, List.set_cons_zero, List.set_cons_succ]
        have gE : (V.alloc (.cells nil47 77)).grownBy w' none := grown_by gA hgrow (fun q hq => by have := hne q hq; simp; omega)
        refine wpAnyH_done (by kernel_rfl) ?_ _
        clear hHeld hHeld2 hHeld3 hgrow hat hne gA gD hownA hownD
        go_wp2_with fail
        go_roundw
        case rel => exact ⟨k + 1, some ⟨g, 0, none⟩, cap, by omega, by go_num, rfl, Lib.hid (HA.out rfl), Lib.hid (by rw [HT.out]; exact hown), gE⟩
        case measure => simp [intOf]; omega
      · by_cases h2 : op = 2
        · subst h2
          go_wp2_with fail
          refine wp_region_held_drew (S := fun w9 => w9.cell? ⟨lb, off + k * 4, none⟩ = some (.int .i64 2) ∧ w9.cell? ⟨lb, off + k * 4 + 1, none⟩ = some (.int .i64 xn) ∧ w9.cell? ⟨lb, off + k * 4 + 2, none⟩ = some (.string xs)) (by kernel_rfl) ⟨c0, c1, c2⟩ (fun hHeld => ?_)
          refine held_take 0 36 (.slice ta k tc) rfl rfl (by kernel_rfl) (by kernel_rfl) (by kernel_rfl) (fun _ _ _ h => h) (Or.inl ⟨by rfl, fun w9 hSw => ?y0⟩) hHeld ?_
          case y0 =>
            obtain ⟨s0, s1, s2⟩ := hSw
            clear hHeld
            go_simp
          simp only [Act.put, List.setIfInBounds_toArray, List.set_cons_zero, List.set_cons_succ]
          refine held_take 1 37 (.slice (some ⟨lb, off, none⟩) l.length lc) rfl rfl (by kernel_rfl) (by kernel_rfl) (by kernel_rfl) (fun _ _ _ h => h) (Or.inl ⟨by rfl, fun w9 hSw => ?y1⟩) hHeld ?_
          case y1 =>
            obtain ⟨s0, s1, s2⟩ := hSw
            clear hHeld
            go_simp
          simp only [Act.put, List.setIfInBounds_toArray, List.set_cons_zero, List.set_cons_succ]
          refine held_take 2 38 (.int .i64 (k : Int)) rfl rfl (by kernel_rfl) (by kernel_rfl) (by kernel_rfl) (fun _ _ _ h => h) (Or.inl ⟨by rfl, fun w9 hSw => ?y2⟩) hHeld ?_
          case y2 =>
            obtain ⟨s0, s1, s2⟩ := hSw
            clear hHeld
            go_simp
          simp only [Act.put, List.setIfInBounds_toArray, List.set_cons_zero, List.set_cons_succ]
          refine held_take 3 39 (.pointer (some ⟨lb, off + k * 4, none⟩)) rfl rfl (by kernel_rfl) (by kernel_rfl) (by kernel_rfl) (fun _ _ _ h => h) (Or.inl ⟨by rfl, fun w9 hSw => ?y3⟩) hHeld ?_
          case y3 =>
            obtain ⟨s0, s1, s2⟩ := hSw
            clear hHeld
            go_simp
          simp only [Act.put, List.setIfInBounds_toArray, List.set_cons_zero, List.set_cons_succ]
          refine held_take 4 40 (.pointer (some ⟨lb, off + k * 4, none⟩)) rfl rfl (by kernel_rfl) (by kernel_rfl) (by kernel_rfl) (fun _ _ _ h => h) (Or.inl ⟨by rfl, fun w9 hSw => ?y4⟩) hHeld ?_
          case y4 =>
            obtain ⟨s0, s1, s2⟩ := hSw
            clear hHeld
            go_simp
          simp only [Act.put, List.setIfInBounds_toArray, List.set_cons_zero, List.set_cons_succ]
          refine held_take 5 41 (.int .i64 2) rfl rfl (by kernel_rfl) (by kernel_rfl) (by kernel_rfl) (fun _ _ _ h => h) (Or.inl ⟨by rfl, fun w9 hSw => ?y5⟩) hHeld ?_
          case y5 =>
            obtain ⟨s0, s1, s2⟩ := hSw
            clear hHeld
            go_simp
          simp only [Act.put, List.setIfInBounds_toArray, List.set_cons_zero, List.set_cons_succ]
          refine held_take 6 42 (.slice (some ⟨lb, off, none⟩) l.length lc) rfl rfl (by kernel_rfl) (by kernel_rfl) (by kernel_rfl) (fun _ _ _ h => h) (Or.inl ⟨by rfl, fun w9 hSw => ?y6⟩) hHeld ?_
          case y6 =>
            obtain ⟨s0, s1, s2⟩ := hSw
            clear hHeld
            go_simp
          simp only [Act.put, List.setIfInBounds_toArray, List.set_cons_zero, List.set_cons_succ]
          refine held_take 7 43 (.int .i64 (k : Int)) rfl rfl (by kernel_rfl) (by kernel_rfl) (by kernel_rfl) (fun _ _ _ h => h) (Or.inl ⟨by rfl, fun w9 hSw => ?y7⟩) hHeld ?_
          case y7 =>
            obtain ⟨s0, s1, s2⟩ := hSw
            clear hHeld
            go_simp
          simp only [Act.put, List.setIfInBounds_toArray, List.set_cons_zero, List.set_cons_succ]
          refine held_take 8 44 (.pointer (some ⟨lb, off + k * 4, none⟩)) rfl rfl (by kernel_rfl) (by kernel_rfl) (by kernel_rfl) (fun _ _ _ h => h) (Or.inl ⟨by rfl, fun w9 hSw => ?y8⟩) hHeld ?_
          case y8 =>
            obtain ⟨s0, s1, s2⟩ := hSw
            clear hHeld
            go_simp
          simp only [Act.put, List.setIfInBounds_toArray, List.set_cons_zero, List.set_cons_succ]
          refine held_take 9 45 (.pointer (some ⟨lb, off + k * 4 + 1, none⟩)) rfl rfl (by kernel_rfl) (by kernel_rfl) (by kernel_rfl) (fun _ _ _ h => h) (Or.inl ⟨by rfl, fun w9 hSw => ?y9⟩) hHeld ?_
          case y9 =>
            obtain ⟨s0, s1, s2⟩ := hSw
            clear hHeld
            go_simp
          simp only [Act.put, List.setIfInBounds_toArray, List.set_cons_zero, List.set_cons_succ]
          refine held_take 10 46 (.int .i64 xn) rfl rfl (by kernel_rfl) (by kernel_rfl) (by kernel_rfl) (fun _ _ _ h => h) (Or.inl ⟨by rfl, fun w9 hSw => ?y10⟩) hHeld ?_
          case y10 =>
            obtain ⟨s0, s1, s2⟩ := hSw
            clear hHeld
            go_simp
          simp only [Act.put, List.setIfInBounds_toArray, List.set_cons_zero, List.set_cons_succ]
          refine held_take 11 47 (.slice (some ⟨lb, off, none⟩) l.length lc) rfl rfl (by kernel_rfl) (by kernel_rfl) (by kernel_rfl) (fun _ _ _ h => h) (Or.inl ⟨by rfl, fun w9 hSw => ?y11⟩) hHeld ?_
          case y11 =>
            obtain ⟨s0, s1, s2⟩ := hSw
            clear hHeld
            go_simp
          simp only [Act.put, List.setIfInBounds_toArray, List.set_cons_zero, List.set_cons_succ]
          refine held_take 12 48 (.int .i64 (k : Int)) rfl rfl (by kernel_rfl) (by kernel_rfl) (by kernel_rfl) (fun _ _ _ h => h) (Or.inl ⟨by rfl, fun w9 hSw => ?y12⟩) hHeld ?_
          case y12 =>
            obtain ⟨s0, s1, s2⟩ := hSw
            clear hHeld
            go_simp
          simp only [Act.put, List.setIfInBounds_toArray, List.set_cons_zero, List.set_cons_succ]
          refine held_take 13 49 (.pointer (some ⟨lb, off + k * 4, none⟩)) rfl rfl (by kernel_rfl) (by kernel_rfl) (by kernel_rfl) (fun _ _ _ h => h) (Or.inl ⟨by rfl, fun w9 hSw => ?y13⟩) hHeld ?_
          case y13 =>
            obtain ⟨s0, s1, s2⟩ := hSw
            clear hHeld
            go_simp
          simp only [Act.put, List.setIfInBounds_toArray, List.set_cons_zero, List.set_cons_succ]
          refine held_take 14 50 (.pointer (some ⟨lb, off + k * 4 + 2, none⟩)) rfl rfl (by kernel_rfl) (by kernel_rfl) (by kernel_rfl) (fun _ _ _ h => h) (Or.inl ⟨by rfl, fun w9 hSw => ?y14⟩) hHeld ?_
          case y14 =>
            obtain ⟨s0, s1, s2⟩ := hSw
            clear hHeld
            go_simp
          simp only [Act.put, List.setIfInBounds_toArray, List.set_cons_zero, List.set_cons_succ]
          refine held_take 15 51 (.string xs) rfl rfl (by kernel_rfl) (by kernel_rfl) (by kernel_rfl) (fun _ _ _ h => h) (Or.inl ⟨by rfl, fun w9 hSw => ?y15⟩) hHeld ?_
          case y15 =>
            obtain ⟨s0, s1, s2⟩ := hSw
            clear hHeld
            go_simp
          simp only [Act.put, List.setIfInBounds_toArray, List.set_cons_zero, List.set_cons_succ]
          refine held_take 16 52 (.agg (row15 2 xn xs (.slice none 0 0))) rfl rfl (by kernel_rfl) (by kernel_rfl) (by kernel_rfl) (fun _ _ _ h => h) (Or.inl ⟨by rfl, fun w9 hSw => ?y16⟩) hHeld ?_
          case y16 =>
            obtain ⟨s0, s1, s2⟩ := hSw
            clear hHeld
            go_simp
            rfl
          simp only [Act.put, List.setIfInBounds_toArray, List.set_cons_zero, List.set_cons_succ]
          clear c0 c1 c2
          have gD := both HG.out (grown_drew wr)
          have hownD := owns_grown HO.out (grown_drew wr) (by nofun)
          have hownA := owns_grown hownD (grown_alloc wr.drew (.cells (row15 2 xn xs (.slice none 0 0)) 149)) (by nofun)
          have gA := both gD (grown_alloc wr.drew (.cells (row15 2 xn xs (.slice none 0 0)) 149))
          have hsz := gA.size
          refine wpAnyH_ready (rs := [17]) (by kernel_rfl) (by simp) (AllReadyH.cons (by rfl) (fun K hK => ?_) AllReadyH.nil)
          refine step15 (by rfl) _ (by rfl) _ (by rfl) (by rfl) ?_
          refine hK.out _ _ ⟨cell_alloc_some hHeld.1 _, cell_alloc_some hHeld.2.1 _, cell_alloc_some hHeld.2.2 _⟩ (fun hHeld2 => ?_)
          clear hK K
          skip
          refine wpAnyH_ready (rs := [18]) (by kernel_rfl) (by simp) (AllReadyH.cons (by rfl) (fun K hK => ?_) AllReadyH.nil)
          refine step_append_lies _ (by rfl) _ _ 138 (by rfl) (V.heap.size + 1) 149 ii (.agg nil15) 25 424 Tryz.underlying138 iihii iihz0 iihz1 iihz2 (by rfl) (by decide) (.slice ta k tc) k (fl (l.take k)) (by rfl) hownA ⟨wr.drew.heap.size, 0, none⟩ 1 1 (flat15 2 xn xs) (by rfl) (by rfl) (World.news_of_block (cs := row15 2 xn xs (.slice none 0 0)) (new_heap wr.drew _)) (List.all_eq_true.1 (show (flat15 2 xn xs).all (·.oneCell') = true from rfl)) (by decide) (by unfold maxLen; omega) (by omega) (by simp at hsz ⊢; omega) _ rfl (fun g cap w' hown hgrow hat hlt => ?_)
          have hne : ∀ q, (Value.slice ta k tc).ownBlock = some q → V.heap.size + 1 ≤ q := fun q hq => (owns_lt hownA q hq).1
          refine hK.out _ _ ⟨cell_kept hHeld2.1 hgrow (fun e => by have := hne lb e; omega), cell_kept hHeld2.2.1 hgrow (fun e => by have := hne lb e; omega), cell_kept hHeld2.2.2 hgrow (fun e => by have := hne lb e; omega)⟩ (fun hHeld3 => ?_)
          clear hK K
          refine held_take 19 7 (.slice (some ⟨g, 0, none⟩) (k + 1) cap) rfl rfl (by kernel_rfl) (by kernel_rfl) (by kernel_rfl) (fun _ _ _ h => h) (Or.inl ⟨by rfl, fun w9 hSw => ?y19⟩) hHeld3 ?_
          case y19 =>
            obtain ⟨s0, s1, s2⟩ := hSw
            clear hHeld
            go_simp
          simp only [Act.put, List.setIfInBounds_toArray, List.set_cons_zero, List.set_cons_succ]
          have gE : (V.alloc (.cells nil47 77)).grownBy w' none := grown_by gA hgrow (fun q hq => by have := hne q hq; simp; omega)
          refine wpAnyH_done (by kernel_rfl) ?_ _
          clear hHeld hHeld2 hHeld3 hgrow hat hne gA gD hownA hownD
          go_wp2_with fail
          go_roundw
          case rel => exact ⟨k + 1, some ⟨g, 0, none⟩, cap, by omega, by go_num, rfl, Lib.hid (HA.out rfl), Lib.hid (by rw [HT.out]; exact hown), gE⟩
          case measure => simp [intOf]; omega
        · have hb : l.all okX = false := HB.out (by simp [okX, ExpD.op, h1, h2])
          have hq : applyQ st (primQ n (l.map stripX)) = (default, stopP st 4 0) := by
            unfold primQ
            rw [all_okX, hb, if_pos rfl]
            rfl
          have hstop := stop47_any sb fv tv main fuel st (.slice oa st.out.length oc) 4 0 wr (HS.out.free (both g0 HG.out))
          have HSt := Lib.hid hstop
          have Hq := Lib.hid hq
          have e1 := ne_dec op 1 h1
          have e2 := ne_dec op 2 h2
          clear hstop hq hb HB HA HT c1 c2
          go_wp2_with (first
            | (go_at_call 58; refine HSt.out.mono ?_; rintro e w2 ⟨rfl, hs2, hE2⟩; obtain ⟨n2, hP⟩ := stuck_end (M := M) 4 0 Hq.out hsb HG.out hs2 hE2 HOV.out; have HP := Lib.hid hP; clear hP hs2 hE2)
            | (refine wpList_store_row rfl 77 _ _ rfl V.heap.size (nil47) rfl rfl 77 nil47 n2 info47 rfl (all_one _ rfl) ?_))
          exact bodyPost_ret (results_cell_row rfl _ _ V.heap.size 77 _ (0, 0) _ rfl (setRow_heap _ _ _ _ _ _ n2) Tryz.underlying77 rfl info47) rfl (HP.out)
    · have hkl' : k = l.length := by omega
      subst hkl'
      rw [List.take_length] at HO HOK
      obtain ⟨g, rfl, htc, hrf, hg1, hg2⟩ := owns_at HO.out hm1
      have HF := Lib.hid (fitL_any n l HM.out g tc wr hrf)
      have hall : (l.map stripX).all okOp = true := by rw [all_okX]; exact HOK.out
      have HALL := Lib.hid hall
      clear hall HOK HO
      generalize hfit : fitL n (l.map stripX) = fit at *
      have HFIT := Lib.hid hfit
      clear hfit
      cases fit
      · have hq : applyQ st (primQ n (l.map stripX)) = (default, stopP st 4 0) := by
          unfold primQ
          rw [if_neg (by rw [HALL.out]; decide), if_pos HFIT.out]
          rfl
        have Hq := Lib.hid hq
        have HSt := Lib.hid (stop47_any sb fv tv main fuel st (.slice oa st.out.length oc) 4 0 wr (HS.out.free (both g0 HG.out)))
        clear hq hrf
        go_wp2_with (first
          | (go_at_call 80; refine HF.out.mono ?_; rintro e w' ⟨rfl, rfl⟩)
          | (go_at_call 58; refine HSt.out.mono ?_; rintro e w2 ⟨rfl, hs2, hE2⟩; obtain ⟨n2, hP⟩ := stuck_end (M := M) 4 0 Hq.out hsb HG.out hs2 hE2 HOV.out; have HP := Lib.hid hP; clear hP hs2 hE2)
          | (refine wpList_store_row rfl 77 _ _ rfl V.heap.size (nil47) rfl rfl 77 nil47 n2 info47 rfl (all_one _ rfl) ?_))
        exact bodyPost_ret (results_cell_row rfl _ _ V.heap.size 77 _ (0, 0) _ rfl (setRow_heap _ _ _ _ _ _ n2) Tryz.underlying77 rfl info47) rfl (HP.out)
      · by_cases h14 : n = 14
        · have hq : primQ n (l.map stripX) = .print ((l.map stripX).headD default).s := by
            unfold primQ
            rw [if_neg (by rw [HALL.out]; decide), if_neg (by rw [HFIT.out]; decide), if_pos h14]
          have hs0 : ((l.map stripX).headD default).s = (l.getD 0 default).s := by
            cases l with
            | nil => simp at hm1
            | cons x r => simp [strip_s]
          rw [hs0] at hq
          have Hq := Lib.hid hq
          clear hq hs0 hrf
          subst h14
          obtain ⟨q0, q1, q2, q3, q4, q5, q6, q7⟩ := eight_cells (HS.out.free (both g0 HG.out)).blk
          by_cases hf : st.out.length = 1000
          · have hq2 : applyQ st (primQ 14 (l.map stripX)) = (default, stopP st 2 2) := by
              rw [Hq.out]
              unfold applyQ
              simp only [hf, if_true]
            have Hq2 := Lib.hid hq2
            have HSt := Lib.hid (stop47_any sb fv tv main fuel st (.slice oa st.out.length oc) 2 2 wr (HS.out.free (both g0 HG.out)))
            have hf2 : ((st.out.length : Nat) : Int) = 1000 := by omega
            clear hq2
            go_wp2_with (first
              | (go_at_call 80; refine HF.out.mono ?_; rintro e w' ⟨rfl, rfl⟩)
              | (go_at_call 58; refine HSt.out.mono ?_; rintro e w2 ⟨rfl, hs2, hE2⟩; obtain ⟨n2, hP⟩ := stuck_end (M := M) 2 2 Hq2.out hsb HG.out hs2 hE2 HOV.out; have HP := Lib.hid hP; clear hP hs2 hE2)
              | (refine wpList_store_row rfl 77 _ _ rfl V.heap.size (nil47) rfl rfl 77 nil47 n2 info47 rfl (all_one _ rfl) ?_))
            exact bodyPost_ret (results_cell_row rfl _ _ V.heap.size 77 _ (0, 0) _ rfl (setRow_heap _ _ _ _ _ _ n2) Tryz.underlying77 rfl info47) rfl (HP.out)
          · have hf2 : ¬ ((st.out.length : Nat) : Int) = 1000 := by omega
            have hlen := Ho.out
            have hbl := rowV_at (HL.out.kept (keepV_grown (both g0 HG.out))) 0 (by omega)
            obtain ⟨b, off', c', ha, _, _, _, _, _, c2, _⟩ := hbl
            obtain ⟨hq1, _, rfl⟩ := Value.slice.inj ha
            obtain ⟨rfl, rfl, _⟩ := Addr.mk.inj (Option.some.inj hq1)
            rw [Nat.zero_mul, Nat.add_zero] at c2
            clear ha hq1
            have hq2 : applyQ st (primQ 14 (l.map stripX)) = (.mk 3 0 ⟨#[]⟩ [], { st with out := st.out ++ [(l.getD 0 default).s] }) := by
              rw [Hq.out]
              exact if_neg hf
            have Hq2 := Lib.hid hq2
            clear hq2 Hq
            generalize (l.getD 0 default).s = xs at *
            have hnil : l ≠ [] := fun h => by rw [h] at hm1; simp at hm1
            go_wp2_with (go_at_call 80; refine HF.out.mono ?_; rintro e w' ⟨rfl, rfl⟩)
            refine wp_region_held_drew (S := fun w9 => w9.cell? ⟨lb, off + 2, none⟩ = some (.string xs)) (by kernel_rfl) c2 (fun hHeld => ?_)
            refine held_take 0 71 (.pointer (some ⟨sb, 0, none⟩)) rfl rfl (by kernel_rfl) (by kernel_rfl) (by kernel_rfl) (fun _ _ _ h => h) (Or.inl ⟨by rfl, fun w9 hSw => ?y0⟩) hHeld ?_
            case y0 =>
              have s1 : w9.cell? ⟨lb, off + 2, none⟩ = some (.string xs) := hSw
              clear hHeld
              go_simp
            simp only [Act.put, List.setIfInBounds_toArray, List.set_cons_zero, List.set_cons_succ]
            refine held_take 1 72 (.pointer (some ⟨sb, 0, none⟩)) rfl rfl (by kernel_rfl) (by kernel_rfl) (by kernel_rfl) (fun _ _ _ h => h) (Or.inl ⟨by rfl, fun w9 hSw => ?y1⟩) hHeld ?_
            case y1 =>
              have s1 : w9.cell? ⟨lb, off + 2, none⟩ = some (.string xs) := hSw
              clear hHeld
              go_simp
            simp only [Act.put, List.setIfInBounds_toArray, List.set_cons_zero, List.set_cons_succ]
            refine held_take 2 73 (.pointer (some ⟨sb, 0, none⟩)) rfl rfl (by kernel_rfl) (by kernel_rfl) (by kernel_rfl) (fun _ _ _ h => h) (Or.inl ⟨by rfl, fun w9 hSw => ?y2⟩) hHeld ?_
            case y2 =>
              have s1 : w9.cell? ⟨lb, off + 2, none⟩ = some (.string xs) := hSw
              clear hHeld
              go_simp
            simp only [Act.put, List.setIfInBounds_toArray, List.set_cons_zero, List.set_cons_succ]
            refine held_take 3 74 (.pointer (some ⟨sb, 5, none⟩)) rfl rfl (by kernel_rfl) (by kernel_rfl) (by kernel_rfl) (fun _ _ _ h => h) (Or.inl ⟨by rfl, fun w9 hSw => ?y3⟩) hHeld ?_
            case y3 =>
              have s1 : w9.cell? ⟨lb, off + 2, none⟩ = some (.string xs) := hSw
              clear hHeld
              go_simp
            simp only [Act.put, List.setIfInBounds_toArray, List.set_cons_zero, List.set_cons_succ]
            refine held_take 5 76 (.slice (some ⟨lb, off, none⟩) l.length lc) rfl rfl (by kernel_rfl) (by kernel_rfl) (by kernel_rfl) (fun _ _ _ h => h) (Or.inl ⟨by rfl, fun w9 hSw => ?y5⟩) hHeld ?_
            case y5 =>
              have s1 : w9.cell? ⟨lb, off + 2, none⟩ = some (.string xs) := hSw
              clear hHeld
              go_simp
            simp only [Act.put, List.setIfInBounds_toArray, List.set_cons_zero, List.set_cons_succ]
            refine held_take 6 77 (.pointer (some ⟨lb, off, none⟩)) rfl rfl (by kernel_rfl) (by kernel_rfl) (by kernel_rfl) (fun _ _ _ h => h) (Or.inl ⟨by rfl, fun w9 hSw => ?y6⟩) hHeld ?_
            case y6 =>
              have s1 : w9.cell? ⟨lb, off + 2, none⟩ = some (.string xs) := hSw
              clear hHeld
              go_simp
            simp only [Act.put, List.setIfInBounds_toArray, List.set_cons_zero, List.set_cons_succ]
            refine held_take 7 78 (.pointer (some ⟨lb, off + 2, none⟩)) rfl rfl (by kernel_rfl) (by kernel_rfl) (by kernel_rfl) (fun _ _ _ h => h) (Or.inl ⟨by rfl, fun w9 hSw => ?y7⟩) hHeld ?_
            case y7 =>
              have s1 : w9.cell? ⟨lb, off + 2, none⟩ = some (.string xs) := hSw
              clear hHeld
              go_simp
            simp only [Act.put, List.setIfInBounds_toArray, List.set_cons_zero, List.set_cons_succ]
            refine held_take 8 79 (.string xs) rfl rfl (by kernel_rfl) (by kernel_rfl) (by kernel_rfl) (fun _ _ _ h => h) (Or.inl ⟨by rfl, fun w9 hSw => ?y8⟩) hHeld ?_
            case y8 =>
              have s1 : w9.cell? ⟨lb, off + 2, none⟩ = some (.string xs) := hSw
              clear hHeld
              go_simp
            simp only [Act.put, List.setIfInBounds_toArray, List.set_cons_zero, List.set_cons_succ]
            clear q0 q1 q2 q3 q4 q6 q7 c2
            have hSt := HS.out.free (both (both g0 HG.out) (grown_drew wr))
            have hSt2 := hSt.free (grown_alloc wr.drew (.cells #[.string xs] 9))
            have gA := both (both (both g0 HG.out) (grown_drew wr)) (grown_alloc wr.drew (.cells #[.string xs] 9))
            have gA1 := both (both HG.out (grown_drew wr)) (grown_alloc wr.drew (.cells #[.string xs] 9))
            have hsz := gA.size
            have hA1 := (eight_cells hSt.blk).2.2.2.2.2.1
            have hA2 : (wr.alloc (.cells #[.string xs] 9)).drew.cell? ⟨sb, 5, none⟩ = some (.slice oa st.out.length oc) := (eight_cells hSt2.blk).2.2.2.2.2.1
            refine wpAnyH_ready (rs := [4, 9]) (by kernel_rfl) (by simp) (AllReadyH.cons (by rfl) (fun K hK => ?_) (AllReadyH.cons (by rfl) (fun K hK => ?_) AllReadyH.nil))
            · go_simp
              refine hK.out _ _ hHeld (fun hHeld2 => ?_)
              clear hK K
              refine wpAnyH_ready (rs := [9]) (by kernel_rfl) (by simp) (AllReadyH.cons (by rfl) (fun K hK => ?_) AllReadyH.nil)
              go_simp
              refine hK.out _ _ (cell_alloc_some hHeld _) (fun hHeld2 => ?_)
              clear hK K
              refine wpAnyH_ready (rs := [10]) (by kernel_rfl) (by simp) (AllReadyH.cons (by rfl) (fun K hK => ?_) AllReadyH.nil)
              refine step_append_lies _ (by rfl) _ _ 34 (by rfl) (sb + 1) 9 is0 (.string ⟨#[]⟩) 1 16 Tryz.underlying34 his isz0 isz1 isz2 (by rfl) (by decide) (.slice oa st.out.length oc) st.out.length (strCells st.out) (by rfl) hSt2.own ⟨wr.drew.heap.size, 0, none⟩ 1 1 [.string xs] (by rfl) (by rfl) (World.news_of_block (cs := #[.string xs]) (new_heap wr.drew _)) (by intro u hu; simp at hu; subst hu; rfl) (by decide) (by unfold maxLen; omega) (by omega) (by simp at hsz ⊢; omega) _ rfl (fun g' cap w' hown hgrow hat hlt => ?_)
              have hne : ∀ q, (Value.slice oa st.out.length oc).ownBlock = some q → sb + 1 ≤ q := fun q hq => (owns_lt hSt2.own q hq).1
              have hlt2 : ∀ q, (Value.slice oa st.out.length oc).ownBlock = some q → q < V.heap.size := fun q hq => HOV.out q hq
              have hne2 : ∀ q, (Value.slice oa st.out.length oc).ownBlock = some q → q ≠ lb := fun q hq e => by obtain ⟨cu, hcu⟩ := owns_block hSt2.own q hq; rw [e, (gA.block _ (heap_lt HLB.out) (by nofun)).trans HLB.out] at hcu; exact absurd (Obj.cells.inj (Option.some.inj hcu)).2.1 (by decide)
              have hblk : w'.heap[sb]? = _ := (hgrow.block sb (heap_lt hSt2.blk) (fun e => by have := hne sb e.symm; omega)).trans hSt2.blk
              obtain ⟨z0, z1, z2, z3, z4, z5, z6, z7⟩ := eight_cells hblk
              have zf := Lib.frozen_of_heap hblk 5
              refine hK.out _ _ (cell_kept hHeld2 hgrow (fun e => hne2 lb e rfl)) (fun hHeld3 => ?_)
              clear hK K
              refine held_take 11 82 (.pointer (some ⟨sb, 0, none⟩)) rfl rfl (by kernel_rfl) (by kernel_rfl) (by kernel_rfl) (fun _ _ _ h => h) (Or.inl ⟨by rfl, fun w9 hSw => ?y11⟩) hHeld3 ?_
              case y11 =>
                have s1 : w9.cell? ⟨lb, off + 2, none⟩ = some (.string xs) := hSw
                clear hHeld hHeld2 hHeld3
                go_simp
              simp only [Act.put, List.setIfInBounds_toArray, List.set_cons_zero, List.set_cons_succ]
              refine held_take 12 83 (.pointer (some ⟨sb, 5, none⟩)) rfl rfl (by kernel_rfl) (by kernel_rfl) (by kernel_rfl) (fun _ _ _ h => h) (Or.inl ⟨by rfl, fun w9 hSw => ?y12⟩) hHeld3 ?_
              case y12 =>
                have s1 : w9.cell? ⟨lb, off + 2, none⟩ = some (.string xs) := hSw
                clear hHeld hHeld2 hHeld3
                go_simp
              simp only [Act.put, List.setIfInBounds_toArray, List.set_cons_zero, List.set_cons_succ]
              refine wpAnyH_ready (rs := [13]) (by kernel_rfl) (by simp) (AllReadyH.cons (by rfl) (fun K hK => ?_) AllReadyH.nil)
              go_simp
              have gs := grown_set w' sb 5 (.slice (some ⟨g', 0, none⟩) (st.out.length + 1) cap)
              refine hK.out _ _ (cell_kept hHeld3 gs (fun e => by have h1 := Option.some.inj e; obtain ⟨cu, hcu⟩ : ∃ cu, V.heap[sb]? = some (.cells cu 74 (0, 0)) := ⟨_, HS.out.blk⟩; rw [h1] at hcu; dsimp only at hcu; rw [HLB.out] at hcu; exact absurd (Obj.cells.inj (Option.some.inj hcu)).2.1 (by decide))) (fun _ => ?_)
              clear hK K
              refine wpAnyH_done (by kernel_rfl) ?_ _
              have n1' := (gA1.block _ (heap_lt n0) (by nofun)).trans n0
              have n2' := (hgrow.block _ (heap_lt n1') (fun e => by have := hlt2 _ e.symm; omega)).trans n1'
              have n3' := (gs.block _ (heap_lt n2') (fun e => by have := Option.some.inj e; omega)).trans n2'
              have hR : Hid (PrimOk M sb fv tv main fuel st (.slice oa st.out.length oc) (primQ 14 (l.map stripX)) V (.returned (.agg unit47)) ((w'.setCell ⟨sb, 5, none⟩ (.slice (some ⟨g', 0, none⟩) (st.out.length + 1) cap)).setRow V.heap.size unit47)) := by
                have hk := print_end hblk hown hgrow (sb := sb) gA1 hat (by simp) HOV.out hsb (hn := n3')
                refine Lib.hid ⟨.mk 3 0 ⟨#[]⟩ (.slice none 0 0) [], .slice (some ⟨g', 0, none⟩) (st.out.length + 1) cap, rfl, ?_, isV_flat _ _ _ _ _, ?_, hk.2⟩
                · rw [Hq2.out, stripX_mk, stripL]
                · rw [Hq2.out]; exact hk.1
              clear hHeld hHeld2 hHeld3 hown hgrow hat hlt hblk z0 z1 z2 z3 z4 z5 z6 z7 zf gs hSt hSt2 gA gA1 hA1 hA2 q5
              go_wp2_with (refine wpList_store_row rfl 77 _ _ rfl V.heap.size (unit47) rfl rfl 77 nil47 n3' info47 rfl (all_one _ rfl) ?_)
              exact bodyPost_ret (results_cell_row rfl _ _ V.heap.size 77 _ (0, 0) _ rfl (setRow_heap _ _ _ _ _ _ n3') Tryz.underlying77 rfl info47) rfl hR.out
            · go_simp
              refine hK.out _ _ (cell_alloc_some hHeld _) (fun hHeld2 => ?_)
              clear hK K
              refine wpAnyH_ready (rs := [4]) (by kernel_rfl) (by simp) (AllReadyH.cons (by rfl) (fun K hK => ?_) AllReadyH.nil)
              go_simp
              refine hK.out _ _ hHeld2 (fun _ => ?_)
              clear hK K
              refine wpAnyH_ready (rs := [10]) (by kernel_rfl) (by simp) (AllReadyH.cons (by rfl) (fun K hK => ?_) AllReadyH.nil)
              refine step_append_lies _ (by rfl) _ _ 34 (by rfl) (sb + 1) 9 is0 (.string ⟨#[]⟩) 1 16 Tryz.underlying34 his isz0 isz1 isz2 (by rfl) (by decide) (.slice oa st.out.length oc) st.out.length (strCells st.out) (by rfl) hSt2.own ⟨wr.drew.heap.size, 0, none⟩ 1 1 [.string xs] (by rfl) (by rfl) (World.news_of_block (cs := #[.string xs]) (new_heap wr.drew _)) (by intro u hu; simp at hu; subst hu; rfl) (by decide) (by unfold maxLen; omega) (by omega) (by simp at hsz ⊢; omega) _ rfl (fun g' cap w' hown hgrow hat hlt => ?_)
              have hne : ∀ q, (Value.slice oa st.out.length oc).ownBlock = some q → sb + 1 ≤ q := fun q hq => (owns_lt hSt2.own q hq).1
              have hlt2 : ∀ q, (Value.slice oa st.out.length oc).ownBlock = some q → q < V.heap.size := fun q hq => HOV.out q hq
              have hne2 : ∀ q, (Value.slice oa st.out.length oc).ownBlock = some q → q ≠ lb := fun q hq e => by obtain ⟨cu, hcu⟩ := owns_block hSt2.own q hq; rw [e, (gA.block _ (heap_lt HLB.out) (by nofun)).trans HLB.out] at hcu; exact absurd (Obj.cells.inj (Option.some.inj hcu)).2.1 (by decide)
              have hblk : w'.heap[sb]? = _ := (hgrow.block sb (heap_lt hSt2.blk) (fun e => by have := hne sb e.symm; omega)).trans hSt2.blk
              obtain ⟨z0, z1, z2, z3, z4, z5, z6, z7⟩ := eight_cells hblk
              have zf := Lib.frozen_of_heap hblk 5
              refine hK.out _ _ (cell_kept hHeld2 hgrow (fun e => hne2 lb e rfl)) (fun hHeld3 => ?_)
              clear hK K
              refine held_take 11 82 (.pointer (some ⟨sb, 0, none⟩)) rfl rfl (by kernel_rfl) (by kernel_rfl) (by kernel_rfl) (fun _ _ _ h => h) (Or.inl ⟨by rfl, fun w9 hSw => ?y11⟩) hHeld3 ?_
              case y11 =>
                have s1 : w9.cell? ⟨lb, off + 2, none⟩ = some (.string xs) := hSw
                clear hHeld hHeld2 hHeld3
                go_simp
              simp only [Act.put, List.setIfInBounds_toArray, List.set_cons_zero, List.set_cons_succ]
              refine held_take 12 83 (.pointer (some ⟨sb, 5, none⟩)) rfl rfl (by kernel_rfl) (by kernel_rfl) (by kernel_rfl) (fun _ _ _ h => h) (Or.inl ⟨by rfl, fun w9 hSw => ?y12⟩) hHeld3 ?_
              case y12 =>
                have s1 : w9.cell? ⟨lb, off + 2, none⟩ = some (.string xs) := hSw
                clear hHeld hHeld2 hHeld3
                go_simp
              simp only [Act.put, List.setIfInBounds_toArray, List.set_cons_zero, List.set_cons_succ]
              refine wpAnyH_ready (rs := [13]) (by kernel_rfl) (by simp) (AllReadyH.cons (by rfl) (fun K hK => ?_) AllReadyH.nil)
              go_simp
              have gs := grown_set w' sb 5 (.slice (some ⟨g', 0, none⟩) (st.out.length + 1) cap)
              refine hK.out _ _ (cell_kept hHeld3 gs (fun e => by have h1 := Option.some.inj e; obtain ⟨cu, hcu⟩ : ∃ cu, V.heap[sb]? = some (.cells cu 74 (0, 0)) := ⟨_, HS.out.blk⟩; rw [h1] at hcu; dsimp only at hcu; rw [HLB.out] at hcu; exact absurd (Obj.cells.inj (Option.some.inj hcu)).2.1 (by decide))) (fun _ => ?_)
              clear hK K
              refine wpAnyH_done (by kernel_rfl) ?_ _
              have n1' := (gA1.block _ (heap_lt n0) (by nofun)).trans n0
              have n2' := (hgrow.block _ (heap_lt n1') (fun e => by have := hlt2 _ e.symm; omega)).trans n1'
              have n3' := (gs.block _ (heap_lt n2') (fun e => by have := Option.some.inj e; omega)).trans n2'
              have hR : Hid (PrimOk M sb fv tv main fuel st (.slice oa st.out.length oc) (primQ 14 (l.map stripX)) V (.returned (.agg unit47)) ((w'.setCell ⟨sb, 5, none⟩ (.slice (some ⟨g', 0, none⟩) (st.out.length + 1) cap)).setRow V.heap.size unit47)) := by
                have hk := print_end hblk hown hgrow (sb := sb) gA1 hat (by simp) HOV.out hsb (hn := n3')
                refine Lib.hid ⟨.mk 3 0 ⟨#[]⟩ (.slice none 0 0) [], .slice (some ⟨g', 0, none⟩) (st.out.length + 1) cap, rfl, ?_, isV_flat _ _ _ _ _, ?_, hk.2⟩
                · rw [Hq2.out, stripX_mk, stripL]
                · rw [Hq2.out]; exact hk.1
              clear hHeld hHeld2 hHeld3 hown hgrow hat hlt hblk z0 z1 z2 z3 z4 z5 z6 z7 zf gs hSt hSt2 gA gA1 hA1 hA2 q5
              go_wp2_with (refine wpList_store_row rfl 77 _ _ rfl V.heap.size (unit47) rfl rfl 77 nil47 n3' info47 rfl (all_one _ rfl) ?_)
              exact bodyPost_ret (results_cell_row rfl _ _ V.heap.size 77 _ (0, 0) _ rfl (setRow_heap _ _ _ _ _ _ n3') Tryz.underlying77 rfl info47) rfl hR.out
        · have e14 : (n == 14) = false := by simp [h14]
          have hn13 : n ≤ 13 := by have := Hn2.out; omega
          go_wp2_with (go_at_call 80; refine HF.out.mono ?_; rintro e w' ⟨rfl, rfl⟩)
          have HPr := Lib.hid (fun g cap wx => primL_any n l HM.out HFIT.out Hn1.out hn13 g cap wx)
          have hq : primQ n (l.map stripX) = if (l.map stripX).all flatB = false then .val default else ofR (r15 n (l.map stripX)) := by
            unfold primQ
            rw [if_neg (by rw [HALL.out]; decide), if_neg (by rw [HFIT.out]; decide), if_neg h14]
          have Hq := Lib.hid hq
          have HGa := HG
          clear hq hrf HF HFIT HALL hVw hg1 hg2 htc HG
          go_loopw [9, 10] (fun v9 i wq => ∃ (k : Nat) (ta : Option Addr) (tc : Nat), k ≤ l.length ∧ i = .int .i64 k ∧ v9 = .slice ta k tc ∧ Hid (wq.ownsRow (V.heap.size + 1) 48 5 (.slice ta k tc) k (ll (l.take k))) ∧ Hid ((V.alloc (.cells nil47 77)).grownBy wq none)) (fun _ i _ => l.length - (intOf i).toNat)
          case atStart => exact ⟨0, none, 0, Nat.zero_le _, rfl, rfl, Lib.hid ⟨rfl, .inl ⟨rfl, rfl⟩⟩, HGa⟩
          case round =>
            obtain ⟨k, ta, tc, hk, rfl, rfl, HO, HG⟩ := hrel
            have hVw := HG.out.size
            simp at hVw
            by_cases hkl : k < l.length
            · obtain ⟨b, off', c', ha, _, hnM, hbl, c0, c1, c2, c3⟩ := rowV_at (HL.out.kept (keepV_grown (both g0 HG.out))) k hkl
              obtain ⟨hq1, _, rfl⟩ := Value.slice.inj ha
              obtain ⟨rfl, rfl, _⟩ := Addr.mk.inj (Option.some.inj hq1)
              clear c3 ha hq1 hnM hbl
              have hT := take_one default l k hkl
              generalize l.getD k default = x at *
              obtain ⟨op, xn, xs, xv, xl⟩ := x
              change wr.cell? ⟨lb, off + k * 4, none⟩ = some (.int .i64 op) at c0
              change wr.cell? ⟨lb, off + k * 4 + 1, none⟩ = some (.int .i64 xn) at c1
              change wr.cell? ⟨lb, off + k * 4 + 2, none⟩ = some (.string xs) at c2
              have HT : Hid (ll (l.take (k + 1)) = ll (l.take k) ++ listV op xn xs) := Lib.hid (by rw [hT, ll_snoc]; rfl)
              have hw1 : IntKind.i64.wrap ((k : Int) + 1) = (k : Int) + 1 := wrap_ok _ (by omega) (by omega)
              clear hT
              go_wp2_with fail
              refine wp_region_held_drew (S := fun w9 => w9.cell? ⟨lb, off + k * 4, none⟩ = some (.int .i64 op) ∧ w9.cell? ⟨lb, off + k * 4 + 1, none⟩ = some (.int .i64 xn) ∧ w9.cell? ⟨lb, off + k * 4 + 2, none⟩ = some (.string xs)) (by kernel_rfl) ⟨c0, c1, c2⟩ (fun hHeld => ?_)
              refine held_take 0 91 (.slice ta k tc) rfl rfl (by kernel_rfl) (by kernel_rfl) (by kernel_rfl) (fun _ _ _ h => h) (Or.inl ⟨by rfl, fun w9 hSw => ?y0⟩) hHeld ?_
              case y0 =>
                obtain ⟨s0, s1, s2⟩ := hSw
                clear hHeld
                go_simp
              simp only [Act.put, List.setIfInBounds_toArray, List.set_cons_zero, List.set_cons_succ]
              refine held_take 1 92 (.slice (some ⟨lb, off, none⟩) l.length lc) rfl rfl (by kernel_rfl) (by kernel_rfl) (by kernel_rfl) (fun _ _ _ h => h) (Or.inl ⟨by rfl, fun w9 hSw => ?y1⟩) hHeld ?_
              case y1 =>
                obtain ⟨s0, s1, s2⟩ := hSw
                clear hHeld
                go_simp
              simp only [Act.put, List.setIfInBounds_toArray, List.set_cons_zero, List.set_cons_succ]
              refine held_take 2 93 (.int .i64 (k : Int)) rfl rfl (by kernel_rfl) (by kernel_rfl) (by kernel_rfl) (fun _ _ _ h => h) (Or.inl ⟨by rfl, fun w9 hSw => ?y2⟩) hHeld ?_
              case y2 =>
                obtain ⟨s0, s1, s2⟩ := hSw
                clear hHeld
                go_simp
              simp only [Act.put, List.setIfInBounds_toArray, List.set_cons_zero, List.set_cons_succ]
              refine held_take 3 94 (.pointer (some ⟨lb, off + k * 4, none⟩)) rfl rfl (by kernel_rfl) (by kernel_rfl) (by kernel_rfl) (fun _ _ _ h => h) (Or.inl ⟨by rfl, fun w9 hSw => ?y3⟩) hHeld ?_
              case y3 =>
                obtain ⟨s0, s1, s2⟩ := hSw
                clear hHeld
                go_simp
              simp only [Act.put, List.setIfInBounds_toArray, List.set_cons_zero, List.set_cons_succ]
              refine held_take 4 95 (.pointer (some ⟨lb, off + k * 4, none⟩)) rfl rfl (by kernel_rfl) (by kernel_rfl) (by kernel_rfl) (fun _ _ _ h => h) (Or.inl ⟨by rfl, fun w9 hSw => ?y4⟩) hHeld ?_
              case y4 =>
                obtain ⟨s0, s1, s2⟩ := hSw
                clear hHeld
                go_simp
              simp only [Act.put, List.setIfInBounds_toArray, List.set_cons_zero, List.set_cons_succ]
              refine held_take 5 96 (.int .i64 op) rfl rfl (by kernel_rfl) (by kernel_rfl) (by kernel_rfl) (fun _ _ _ h => h) (Or.inl ⟨by rfl, fun w9 hSw => ?y5⟩) hHeld ?_
              case y5 =>
                obtain ⟨s0, s1, s2⟩ := hSw
                clear hHeld
                go_simp
              simp only [Act.put, List.setIfInBounds_toArray, List.set_cons_zero, List.set_cons_succ]
              refine held_take 6 97 (.slice (some ⟨lb, off, none⟩) l.length lc) rfl rfl (by kernel_rfl) (by kernel_rfl) (by kernel_rfl) (fun _ _ _ h => h) (Or.inl ⟨by rfl, fun w9 hSw => ?y6⟩) hHeld ?_
              case y6 =>
                obtain ⟨s0, s1, s2⟩ := hSw
                clear hHeld
                go_simp
              simp only [Act.put, List.setIfInBounds_toArray, List.set_cons_zero, List.set_cons_succ]
              refine held_take 7 98 (.int .i64 (k : Int)) rfl rfl (by kernel_rfl) (by kernel_rfl) (by kernel_rfl) (fun _ _ _ h => h) (Or.inl ⟨by rfl, fun w9 hSw => ?y7⟩) hHeld ?_
              case y7 =>
                obtain ⟨s0, s1, s2⟩ := hSw
                clear hHeld
                go_simp
              simp only [Act.put, List.setIfInBounds_toArray, List.set_cons_zero, List.set_cons_succ]
              refine held_take 8 99 (.pointer (some ⟨lb, off + k * 4, none⟩)) rfl rfl (by kernel_rfl) (by kernel_rfl) (by kernel_rfl) (fun _ _ _ h => h) (Or.inl ⟨by rfl, fun w9 hSw => ?y8⟩) hHeld ?_
              case y8 =>
                obtain ⟨s0, s1, s2⟩ := hSw
                clear hHeld
                go_simp
              simp only [Act.put, List.setIfInBounds_toArray, List.set_cons_zero, List.set_cons_succ]
              refine held_take 9 100 (.pointer (some ⟨lb, off + k * 4 + 1, none⟩)) rfl rfl (by kernel_rfl) (by kernel_rfl) (by kernel_rfl) (fun _ _ _ h => h) (Or.inl ⟨by rfl, fun w9 hSw => ?y9⟩) hHeld ?_
              case y9 =>
                obtain ⟨s0, s1, s2⟩ := hSw
                clear hHeld
                go_simp
              simp only [Act.put, List.setIfInBounds_toArray, List.set_cons_zero, List.set_cons_succ]
              refine held_take 10 101 (.int .i64 xn) rfl rfl (by kernel_rfl) (by kernel_rfl) (by kernel_rfl) (fun _ _ _ h => h) (Or.inl ⟨by rfl, fun w9 hSw => ?y10⟩) hHeld ?_
              case y10 =>
                obtain ⟨s0, s1, s2⟩ := hSw
                clear hHeld
                go_simp
              simp only [Act.put, List.setIfInBounds_toArray, List.set_cons_zero, List.set_cons_succ]
              refine held_take 11 102 (.slice (some ⟨lb, off, none⟩) l.length lc) rfl rfl (by kernel_rfl) (by kernel_rfl) (by kernel_rfl) (fun _ _ _ h => h) (Or.inl ⟨by rfl, fun w9 hSw => ?y11⟩) hHeld ?_
              case y11 =>
                obtain ⟨s0, s1, s2⟩ := hSw
                clear hHeld
                go_simp
              simp only [Act.put, List.setIfInBounds_toArray, List.set_cons_zero, List.set_cons_succ]
              refine held_take 12 103 (.int .i64 (k : Int)) rfl rfl (by kernel_rfl) (by kernel_rfl) (by kernel_rfl) (fun _ _ _ h => h) (Or.inl ⟨by rfl, fun w9 hSw => ?y12⟩) hHeld ?_
              case y12 =>
                obtain ⟨s0, s1, s2⟩ := hSw
                clear hHeld
                go_simp
              simp only [Act.put, List.setIfInBounds_toArray, List.set_cons_zero, List.set_cons_succ]
              refine held_take 13 104 (.pointer (some ⟨lb, off + k * 4, none⟩)) rfl rfl (by kernel_rfl) (by kernel_rfl) (by kernel_rfl) (fun _ _ _ h => h) (Or.inl ⟨by rfl, fun w9 hSw => ?y13⟩) hHeld ?_
              case y13 =>
                obtain ⟨s0, s1, s2⟩ := hSw
                clear hHeld
                go_simp
              simp only [Act.put, List.setIfInBounds_toArray, List.set_cons_zero, List.set_cons_succ]
              refine held_take 14 105 (.pointer (some ⟨lb, off + k * 4 + 2, none⟩)) rfl rfl (by kernel_rfl) (by kernel_rfl) (by kernel_rfl) (fun _ _ _ h => h) (Or.inl ⟨by rfl, fun w9 hSw => ?y14⟩) hHeld ?_
              case y14 =>
                obtain ⟨s0, s1, s2⟩ := hSw
                clear hHeld
                go_simp
              simp only [Act.put, List.setIfInBounds_toArray, List.set_cons_zero, List.set_cons_succ]
              refine held_take 15 106 (.string xs) rfl rfl (by kernel_rfl) (by kernel_rfl) (by kernel_rfl) (fun _ _ _ h => h) (Or.inl ⟨by rfl, fun w9 hSw => ?y15⟩) hHeld ?_
              case y15 =>
                obtain ⟨s0, s1, s2⟩ := hSw
                clear hHeld
                go_simp
              simp only [Act.put, List.setIfInBounds_toArray, List.set_cons_zero, List.set_cons_succ]
              refine held_take 16 107 (.agg (#[.int .i64 op, .int .i64 xn, .string xs, .slice none 0 0, .slice none 0 0])) rfl rfl (by kernel_rfl) (by kernel_rfl) (by kernel_rfl) (fun _ _ _ h => h) (Or.inl ⟨by rfl, fun w9 hSw => ?y16⟩) hHeld ?_
              case y16 =>
                obtain ⟨s0, s1, s2⟩ := hSw
                clear hHeld
                go_simp
              simp only [Act.put, List.setIfInBounds_toArray, List.set_cons_zero, List.set_cons_succ]
              clear c0 c1 c2
              have gD := both HG.out (grown_drew wr)
              have hownD := owns_grown HO.out (grown_drew wr) (by nofun)
              have hownA := owns_grown hownD (grown_alloc wr.drew (.cells (#[.int .i64 op, .int .i64 xn, .string xs, .slice none 0 0, .slice none 0 0]) 48)) (by nofun)
              have gA := both gD (grown_alloc wr.drew (.cells (#[.int .i64 op, .int .i64 xn, .string xs, .slice none 0 0, .slice none 0 0]) 48))
              have hsz := gA.size
              refine wpAnyH_ready (rs := [17]) (by kernel_rfl) (by simp) (AllReadyH.cons (by rfl) (fun K hK => ?_) AllReadyH.nil)
              go_simp
              refine hK.out _ _ ⟨cell_alloc_some hHeld.1 _, cell_alloc_some hHeld.2.1 _, cell_alloc_some hHeld.2.2 _⟩ (fun hHeld2 => ?_)
              clear hK K
              skip
              refine wpAnyH_ready (rs := [18]) (by kernel_rfl) (by simp) (AllReadyH.cons (by rfl) (fun K hK => ?_) AllReadyH.nil)
              refine step_append_lies _ (by rfl) _ _ 46 (by rfl) (V.heap.size + 1) 48 ia (.agg #[.int .i64 0, .int .i64 0, .string ⟨#[]⟩, .slice none 0 0, .slice none 0 0]) 5 80 Tryz.underlying46 iahii iahz0 iahz1 iahz2 (by rfl) (by decide) (.slice ta k tc) k (ll (l.take k)) (by rfl) hownA ⟨wr.drew.heap.size, 0, none⟩ 1 1 (listV op xn xs) (by rfl) (by rfl) (World.news_of_block (cs := #[.int .i64 op, .int .i64 xn, .string xs, .slice none 0 0, .slice none 0 0]) (new_heap wr.drew _)) (List.all_eq_true.1 (show (listV op xn xs).all (·.oneCell') = true from rfl)) (by decide) (by unfold maxLen; omega) (by omega) (by simp at hsz ⊢; omega) _ rfl (fun g cap w' hown hgrow hat hlt => ?_)
              have hne : ∀ q, (Value.slice ta k tc).ownBlock = some q → V.heap.size + 1 ≤ q := fun q hq => (owns_lt hownA q hq).1
              refine hK.out _ _ ⟨cell_kept hHeld2.1 hgrow (fun e => by have := hne lb e; omega), cell_kept hHeld2.2.1 hgrow (fun e => by have := hne lb e; omega), cell_kept hHeld2.2.2 hgrow (fun e => by have := hne lb e; omega)⟩ (fun hHeld3 => ?_)
              clear hK K
              refine held_take 19 9 (.slice (some ⟨g, 0, none⟩) (k + 1) cap) rfl rfl (by kernel_rfl) (by kernel_rfl) (by kernel_rfl) (fun _ _ _ h => h) (Or.inl ⟨by rfl, fun w9 hSw => ?y19⟩) hHeld3 ?_
              case y19 =>
                obtain ⟨s0, s1, s2⟩ := hSw
                clear hHeld
                go_simp
              simp only [Act.put, List.setIfInBounds_toArray, List.set_cons_zero, List.set_cons_succ]
              have gE : (V.alloc (.cells nil47 77)).grownBy w' none := grown_by gA hgrow (fun q hq => by have := hne q hq; simp; omega)
              refine wpAnyH_done (by kernel_rfl) ?_ _
              clear hHeld hHeld2 hHeld3 hgrow hat hne gA gD hownA hownD
              go_wp2_with fail
              go_roundw
              case rel => exact ⟨k + 1, some ⟨g, 0, none⟩, cap, by omega, by go_num, rfl, Lib.hid (by rw [HT.out]; exact hown), gE⟩
              case measure => simp [intOf]; omega
            · have hkl' : k = l.length := by omega
              subst hkl'
              rw [List.take_length] at HO
              obtain ⟨gq, rfl, htc, hrf, hg1, hg2⟩ := owns_at HO.out hm1
              have HP := HPr.out gq tc wr hrf htc
              clear HO hrf HPr htc hg1 hg2
              generalize (l.map stripX).all flatB = okf at *
              have hr0 : ∀ c, r15 n (l.map stripX) = .fail c → c ≠ 0 := fun c h => r15_fail n _ c h
              generalize r15 n (l.map stripX) = r at *
              go_wp2_with fail
              refine HP.mono ?_
              rintro e w5 ⟨g5, hP⟩
              have G5 := both HG.out g5
              have n5 := (G5.block _ (heap_lt n0) (by nofun)).trans n0
              have hVw5 := heap_lt n5
              clear HP
              cases okf
              · rw [if_pos rfl] at hP
                subst hP
                have Hq2 : Hid (applyQ st (primQ n (l.map stripX)) = (default, st)) := Lib.hid (by rw [Hq.out, if_pos rfl]; rfl)
                have hdef : stripX (.mk 0 0 ⟨#[]⟩ (.slice none 0 0) []) = default := default_strip
                go_upto_region 21 with (refine wpList_store_row rfl 48 _ _ rfl w5.heap.size (rowV 0 0 ⟨#[]⟩ (.slice none 0 0)) rfl rfl 48 _ (heap_alloc_new w5 _) infoV rfl (all_one _ rfl) ?_)
                have gN := grown_setRow (grown_alloc w5 (.cells (rowV 0 0 ⟨#[]⟩ (.slice none 0 0)) 48)) (Nat.le_refl _) (rowV 0 0 ⟨#[]⟩ (.slice none 0 0))
                have nN := setRow_heap _ _ _ (rowV 0 0 ⟨#[]⟩ (.slice none 0 0)) _ _ (heap_alloc_new w5 (.cells (rowV 0 0 ⟨#[]⟩ (.slice none 0 0)) 48))
                change Code.wp _ _ _ _ ((w5.alloc (.cells (rowV 0 0 ⟨#[]⟩ (.slice none 0 0)) 48)).setRow w5.heap.size (rowV 0 0 ⟨#[]⟩ (.slice none 0 0)))
                generalize (w5.alloc (.cells (rowV 0 0 ⟨#[]⟩ (.slice none 0 0)) 48)).setRow w5.heap.size (rowV 0 0 ⟨#[]⟩ (.slice none 0 0)) = Y at *
                obtain ⟨v0, v1, v2, v3, v4⟩ := val_cells nN
                have nY := (gN.block _ (heap_lt n5) (by nofun)).trans n5
                have GY := both G5 gN
                have gF := grown_setRow (both g0 GY) (Nat.le_refl _) (#[.int .i64 0, .int .i64 0, .string ⟨#[]⟩, .slice none 0 0])
                have hR : Hid (PrimOk M sb fv tv main fuel st (.slice oa st.out.length oc) (primQ n (l.map stripX)) V (.returned (.agg (#[.int .i64 0, .int .i64 0, .string ⟨#[]⟩, .slice none 0 0]))) (Y.setRow V.heap.size (#[.int .i64 0, .int .i64 0, .string ⟨#[]⟩, .slice none 0 0]))) := Lib.hid ⟨_, _, rfl, by rw [Hq2.out]; exact hdef, isV_flat _ _ _ _ _, by rw [Hq2.out]; exact HS.out.free gF, Em.free gF⟩
                clear gN nN GY G5 g5 hr0 HG gF
                go_wp2_with (refine wpList_store_row rfl 77 _ _ rfl V.heap.size (#[.int .i64 0, .int .i64 0, .string ⟨#[]⟩, .slice none 0 0]) rfl rfl 77 nil47 nY info47 rfl (all_one _ rfl) ?_)
                exact bodyPost_ret (results_cell_row rfl _ _ V.heap.size 77 _ (0, 0) _ rfl (setRow_heap _ _ _ _ _ _ nY) Tryz.underlying77 rfl info47) rfl hR.out
              · rw [if_neg (by decide)] at hP
                have Hq1 : Hid (primQ n (l.map stripX) = ofR r) := Lib.hid (by rw [Hq.out, if_neg (by decide)])
                cases r with
                | fail c =>
                  subst hP
                  have hc0 := hr0 c rfl
                  have Hq2 : Hid (applyQ st (primQ n (l.map stripX)) = (default, stopP st 2 c)) := Lib.hid (by rw [Hq1.out]; rfl)
                  go_upto_region 21 with (refine wpList_store_row rfl 48 _ _ rfl w5.heap.size (rowV 0 0 ⟨#[]⟩ (.slice none 0 0)) rfl rfl 48 _ (heap_alloc_new w5 _) infoV rfl (all_one _ rfl) ?_)
                  have gN := grown_setRow (grown_alloc w5 (.cells (rowV 0 0 ⟨#[]⟩ (.slice none 0 0)) 48)) (Nat.le_refl _) (rowV 0 0 ⟨#[]⟩ (.slice none 0 0))
                  change Code.wp _ _ _ _ ((w5.alloc (.cells (rowV 0 0 ⟨#[]⟩ (.slice none 0 0)) 48)).setRow w5.heap.size (rowV 0 0 ⟨#[]⟩ (.slice none 0 0)))
                  generalize (w5.alloc (.cells (rowV 0 0 ⟨#[]⟩ (.slice none 0 0)) 48)).setRow w5.heap.size (rowV 0 0 ⟨#[]⟩ (.slice none 0 0)) = Y at *
                  have GY := both G5 gN
                  have HSt := Lib.hid (stop47_any sb fv tv main fuel st (.slice oa st.out.length oc) 2 c Y (HS.out.free (both g0 GY)))
                  have HGY := Lib.hid GY
                  clear gN GY G5 g5 hr0 HG
                  go_wp2_with (first
                    | (go_at_call 58; refine HSt.out.mono ?_; rintro e w2 ⟨rfl, hs2, hE2⟩; obtain ⟨n2, hP⟩ := stuck_end (M := M) 2 c Hq2.out hsb HGY.out hs2 hE2 HOV.out; have HP := Lib.hid hP; clear hP hs2 hE2)
                    | (refine wpList_store_row rfl 77 _ _ rfl V.heap.size (nil47) rfl rfl 77 nil47 n2 info47 rfl (all_one _ rfl) ?_))
                  exact bodyPost_ret (results_cell_row rfl _ _ V.heap.size 77 _ (0, 0) _ rfl (setRow_heap _ _ _ _ _ _ n2) Tryz.underlying77 rfl info47) rfl (HP.out)
                | num m =>
                  subst hP
                  have Hq2 : Hid (applyQ st (primQ n (l.map stripX)) = (.mk 1 m ⟨#[]⟩ [], st)) := Lib.hid (by rw [Hq1.out]; rfl)
                  have hdef : stripX (.mk 1 m ⟨#[]⟩ (.slice none 0 0) []) = .mk 1 m ⟨#[]⟩ [] := by rw [stripX_mk, stripL]
                  go_upto_region 21 with (refine wpList_store_row rfl 48 _ _ rfl w5.heap.size (rowV 1 m ⟨#[]⟩ (.slice none 0 0)) rfl rfl 48 _ (heap_alloc_new w5 _) infoV rfl (all_one _ rfl) ?_)
                  have gN := grown_setRow (grown_alloc w5 (.cells (rowV 0 0 ⟨#[]⟩ (.slice none 0 0)) 48)) (Nat.le_refl _) (rowV 1 m ⟨#[]⟩ (.slice none 0 0))
                  have nN := setRow_heap _ _ _ (rowV 1 m ⟨#[]⟩ (.slice none 0 0)) _ _ (heap_alloc_new w5 (.cells (rowV 0 0 ⟨#[]⟩ (.slice none 0 0)) 48))
                  change Code.wp _ _ _ _ ((w5.alloc (.cells (rowV 0 0 ⟨#[]⟩ (.slice none 0 0)) 48)).setRow w5.heap.size (rowV 1 m ⟨#[]⟩ (.slice none 0 0)))
                  generalize (w5.alloc (.cells (rowV 0 0 ⟨#[]⟩ (.slice none 0 0)) 48)).setRow w5.heap.size (rowV 1 m ⟨#[]⟩ (.slice none 0 0)) = Y at *
                  obtain ⟨v0, v1, v2, v3, v4⟩ := val_cells nN
                  have nY := (gN.block _ (heap_lt n5) (by nofun)).trans n5
                  have GY := both G5 gN
                  have gF := grown_setRow (both g0 GY) (Nat.le_refl _) (#[.int .i64 1, .int .i64 m, .string ⟨#[]⟩, .slice none 0 0])
                  have hR : Hid (PrimOk M sb fv tv main fuel st (.slice oa st.out.length oc) (primQ n (l.map stripX)) V (.returned (.agg (#[.int .i64 1, .int .i64 m, .string ⟨#[]⟩, .slice none 0 0]))) (Y.setRow V.heap.size (#[.int .i64 1, .int .i64 m, .string ⟨#[]⟩, .slice none 0 0]))) := Lib.hid ⟨_, _, rfl, by rw [Hq2.out]; exact hdef, isV_flat _ _ _ _ _, by rw [Hq2.out]; exact HS.out.free gF, Em.free gF⟩
                  clear gN nN GY G5 g5 hr0 HG gF
                  go_wp2_with (refine wpList_store_row rfl 77 _ _ rfl V.heap.size (#[.int .i64 1, .int .i64 m, .string ⟨#[]⟩, .slice none 0 0]) rfl rfl 77 nil47 nY info47 rfl (all_one _ rfl) ?_)
                  exact bodyPost_ret (results_cell_row rfl _ _ V.heap.size 77 _ (0, 0) _ rfl (setRow_heap _ _ _ _ _ _ nY) Tryz.underlying77 rfl info47) rfl hR.out
                | txt t =>
                  subst hP
                  have Hq2 : Hid (applyQ st (primQ n (l.map stripX)) = (.mk 2 0 t [], st)) := Lib.hid (by rw [Hq1.out]; rfl)
                  have hdef : stripX (.mk 2 0 t (.slice none 0 0) []) = .mk 2 0 t [] := by rw [stripX_mk, stripL]
                  go_upto_region 21 with (refine wpList_store_row rfl 48 _ _ rfl w5.heap.size (rowV 2 0 t (.slice none 0 0)) rfl rfl 48 _ (heap_alloc_new w5 _) infoV rfl (all_one _ rfl) ?_)
                  have gN := grown_setRow (grown_alloc w5 (.cells (rowV 0 0 ⟨#[]⟩ (.slice none 0 0)) 48)) (Nat.le_refl _) (rowV 2 0 t (.slice none 0 0))
                  have nN := setRow_heap _ _ _ (rowV 2 0 t (.slice none 0 0)) _ _ (heap_alloc_new w5 (.cells (rowV 0 0 ⟨#[]⟩ (.slice none 0 0)) 48))
                  change Code.wp _ _ _ _ ((w5.alloc (.cells (rowV 0 0 ⟨#[]⟩ (.slice none 0 0)) 48)).setRow w5.heap.size (rowV 2 0 t (.slice none 0 0)))
                  generalize (w5.alloc (.cells (rowV 0 0 ⟨#[]⟩ (.slice none 0 0)) 48)).setRow w5.heap.size (rowV 2 0 t (.slice none 0 0)) = Y at *
                  obtain ⟨v0, v1, v2, v3, v4⟩ := val_cells nN
                  have nY := (gN.block _ (heap_lt n5) (by nofun)).trans n5
                  have GY := both G5 gN
                  have gF := grown_setRow (both g0 GY) (Nat.le_refl _) (#[.int .i64 2, .int .i64 0, .string t, .slice none 0 0])
                  have hR : Hid (PrimOk M sb fv tv main fuel st (.slice oa st.out.length oc) (primQ n (l.map stripX)) V (.returned (.agg (#[.int .i64 2, .int .i64 0, .string t, .slice none 0 0]))) (Y.setRow V.heap.size (#[.int .i64 2, .int .i64 0, .string t, .slice none 0 0]))) := Lib.hid ⟨_, _, rfl, by rw [Hq2.out]; exact hdef, isV_flat _ _ _ _ _, by rw [Hq2.out]; exact HS.out.free gF, Em.free gF⟩
                  clear gN nN GY G5 g5 hr0 HG gF
                  go_wp2_with (refine wpList_store_row rfl 77 _ _ rfl V.heap.size (#[.int .i64 2, .int .i64 0, .string t, .slice none 0 0]) rfl rfl 77 nil47 nY info47 rfl (all_one _ rfl) ?_)
                  exact bodyPost_ret (results_cell_row rfl _ _ V.heap.size 77 _ (0, 0) _ rfl (setRow_heap _ _ _ _ _ _ nY) Tryz.underlying77 rfl info47) rfl hR.out
                | bool b =>
                  obtain ⟨q, c, rfl, hcq⟩ := hP
                  have hcq : Hid (w5.cell? ⟨q, 2, none⟩ = some (.string (if b then ⟨#[84, 114, 117, 101]⟩ else ⟨#[70, 97, 108, 115, 101]⟩))) := Lib.hid hcq
                  cases b
                  · have Hq2 : Hid (applyQ st (primQ n (l.map stripX)) = (.mk 4 0 ⟨#[]⟩ [.mk 3 0 ⟨#[]⟩ []], st)) := Lib.hid (by rw [Hq1.out]; rfl)
                    have hcq2 : w5.cell? ⟨q, 2, none⟩ = some (.string ⟨#[70, 97, 108, 115, 101]⟩) := hcq.out
                    go_upto_region 21 with (refine wpList_store_row rfl 48 _ _ rfl w5.heap.size (rowV 5 0 ⟨#[]⟩ (.slice (some ⟨q, 0, none⟩) 1 c)) rfl rfl 48 _ (heap_alloc_new w5 _) infoV rfl (all_one _ rfl) ?_)
                    have gN := grown_setRow (grown_alloc w5 (.cells (rowV 0 0 ⟨#[]⟩ (.slice none 0 0)) 48)) (Nat.le_refl _) (rowV 5 0 ⟨#[]⟩ (.slice (some ⟨q, 0, none⟩) 1 c))
                    have nN := setRow_heap _ _ _ (rowV 5 0 ⟨#[]⟩ (.slice (some ⟨q, 0, none⟩) 1 c)) _ _ (heap_alloc_new w5 (.cells (rowV 0 0 ⟨#[]⟩ (.slice none 0 0)) 48))
                    change Code.wp _ _ _ _ ((w5.alloc (.cells (rowV 0 0 ⟨#[]⟩ (.slice none 0 0)) 48)).setRow w5.heap.size (rowV 5 0 ⟨#[]⟩ (.slice (some ⟨q, 0, none⟩) 1 c)))
                    generalize (w5.alloc (.cells (rowV 0 0 ⟨#[]⟩ (.slice none 0 0)) 48)).setRow w5.heap.size (rowV 5 0 ⟨#[]⟩ (.slice (some ⟨q, 0, none⟩) 1 c)) = Y at *
                    obtain ⟨v0, v1, v2, v3, v4⟩ := val_cells nN
                    have hcY := cell_grown hcq2 gN
                    have nY := (gN.block _ (heap_lt n5) (by nofun)).trans n5
                    have GY := Lib.hid (both G5 gN)
                    clear gN nN G5 g5 hr0 HG hcq2 hcq
                    go_wp2_with (first | (go_at_call 82; refine (truth47_any _ _).mono ?_; rintro e w6 ⟨p, rfl, g6, hp, hu⟩; have n6 := (g6.block _ (heap_lt nY) (by nofun)).trans nY; simp only [if_true, Bool.false_eq_true, if_false]) | (refine wpList_store_row rfl 77 _ _ rfl V.heap.size #[.int .i64 4, .int .i64 0, .string ⟨#[]⟩, .slice (some ⟨p, 0, none⟩) 1 1] rfl rfl 77 nil47 n6 info47 rfl (all_one _ rfl) ?_))
                    refine bodyPost_ret (results_cell_row rfl _ _ V.heap.size 77 _ (0, 0) _ rfl (setRow_heap _ _ _ _ _ _ n6) Tryz.underlying77 rfl info47) rfl ?_
                    have gF := grown_setRow (both g0 (both GY.out g6)) (Nat.le_refl _) #[.int .i64 4, .int .i64 0, .string ⟨#[]⟩, .slice (some ⟨p, 0, none⟩) 1 1]
                    have hzY := heap_lt nY
                    exact ⟨.mk 4 0 ⟨#[]⟩ (.slice (some ⟨p, 0, none⟩) 1 1) [.mk 3 0 ⟨#[]⟩ (.slice none 0 0) []], _, rfl, by rw [Hq2.out, stripX_mk, stripL, stripL, stripX_mk, stripL], truth_isV (by have := GY.out.size; simp at this; omega) HM2.out (by rw [setRow_other _ _ _ _ (by omega)]; exact hu), by rw [Hq2.out]; exact HS.out.free gF, Em.free gF⟩
                  · have Hq2 : Hid (applyQ st (primQ n (l.map stripX)) = (.mk 4 1 ⟨#[]⟩ [.mk 3 0 ⟨#[]⟩ []], st)) := Lib.hid (by rw [Hq1.out]; rfl)
                    have hcq2 : w5.cell? ⟨q, 2, none⟩ = some (.string ⟨#[84, 114, 117, 101]⟩) := hcq.out
                    go_upto_region 21 with (refine wpList_store_row rfl 48 _ _ rfl w5.heap.size (rowV 5 0 ⟨#[]⟩ (.slice (some ⟨q, 0, none⟩) 1 c)) rfl rfl 48 _ (heap_alloc_new w5 _) infoV rfl (all_one _ rfl) ?_)
                    have gN := grown_setRow (grown_alloc w5 (.cells (rowV 0 0 ⟨#[]⟩ (.slice none 0 0)) 48)) (Nat.le_refl _) (rowV 5 0 ⟨#[]⟩ (.slice (some ⟨q, 0, none⟩) 1 c))
                    have nN := setRow_heap _ _ _ (rowV 5 0 ⟨#[]⟩ (.slice (some ⟨q, 0, none⟩) 1 c)) _ _ (heap_alloc_new w5 (.cells (rowV 0 0 ⟨#[]⟩ (.slice none 0 0)) 48))
                    change Code.wp _ _ _ _ ((w5.alloc (.cells (rowV 0 0 ⟨#[]⟩ (.slice none 0 0)) 48)).setRow w5.heap.size (rowV 5 0 ⟨#[]⟩ (.slice (some ⟨q, 0, none⟩) 1 c)))
                    generalize (w5.alloc (.cells (rowV 0 0 ⟨#[]⟩ (.slice none 0 0)) 48)).setRow w5.heap.size (rowV 5 0 ⟨#[]⟩ (.slice (some ⟨q, 0, none⟩) 1 c)) = Y at *
                    obtain ⟨v0, v1, v2, v3, v4⟩ := val_cells nN
                    have hcY := cell_grown hcq2 gN
                    have nY := (gN.block _ (heap_lt n5) (by nofun)).trans n5
                    have GY := Lib.hid (both G5 gN)
                    clear gN nN G5 g5 hr0 HG hcq2 hcq
                    go_wp2_with (first | (go_at_call 82; refine (truth47_any _ _).mono ?_; rintro e w6 ⟨p, rfl, g6, hp, hu⟩; have n6 := (g6.block _ (heap_lt nY) (by nofun)).trans nY; simp only [if_true, Bool.false_eq_true, if_false]) | (refine wpList_store_row rfl 77 _ _ rfl V.heap.size #[.int .i64 4, .int .i64 1, .string ⟨#[]⟩, .slice (some ⟨p, 0, none⟩) 1 1] rfl rfl 77 nil47 n6 info47 rfl (all_one _ rfl) ?_))
                    refine bodyPost_ret (results_cell_row rfl _ _ V.heap.size 77 _ (0, 0) _ rfl (setRow_heap _ _ _ _ _ _ n6) Tryz.underlying77 rfl info47) rfl ?_
                    have gF := grown_setRow (both g0 (both GY.out g6)) (Nat.le_refl _) #[.int .i64 4, .int .i64 1, .string ⟨#[]⟩, .slice (some ⟨p, 0, none⟩) 1 1]
                    have hzY := heap_lt nY
                    exact ⟨.mk 4 1 ⟨#[]⟩ (.slice (some ⟨p, 0, none⟩) 1 1) [.mk 3 0 ⟨#[]⟩ (.slice none 0 0) []], _, rfl, by rw [Hq2.out, stripX_mk, stripL, stripL, stripX_mk, stripL], truth_isV (by have := GY.out.size; simp at this; omega) HM2.out (by rw [setRow_other _ _ _ _ (by omega)]; exact hu), by rw [Hq2.out]; exact HS.out.free gF, Em.free gF⟩
end Go.Proofs.YtidolpcbbbakmaaGreat

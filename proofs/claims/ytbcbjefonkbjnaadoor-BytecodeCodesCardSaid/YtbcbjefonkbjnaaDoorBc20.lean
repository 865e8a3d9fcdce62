/- BytecodeInstrs: the walk. -/
import Derived.Test.YtbcbjefonkbjnaaDoorBc19
import Derived.Test.YtbcbjefonkbjnaaDoorBc4
namespace Go.Proofs.YtbcbjefonkbjnaaDoor
open Go Go.RowKit

theorem tgL_len (i : Ins) (k : Nat) (h : ¬ (i.op = 13 ∧ inB i.b 1 1000 = false)) : (tgL i k).length ≤ 100000 := by
  unfold tgL
  split
  · simp
  · split
    · simp
    · split
      · rename_i h13
        have hb : inB i.b 1 1000 = true := by
          cases hb : inB i.b 1 1000
          · exact absurd ⟨h13, hb⟩ h
          · rfl
        simp [inB] at hb
        simp; omega
      · simp
theorem tgT_len (code : List Ins) (at_ : Int) : (tgT code at_).1.length ≤ 100000 := by
  unfold tgT
  split
  · simp
  · simp only []
    split
    · simp
    · split
      · simp
      · rename_i h4
        split
        · simp
        · exact tgL_len _ _ h4
/-- slices.Equal of two rows of the same numbers. -/
theorem equal_same (v1 v2 : Value) (l : List Int) (w : World) (hl : l.length ≤ 100000) (h1 : IsRow w v1 l.length (ints l)) (h2 : IsRow w v2 l.length (ints l)) :
    Calls Tryd.prog 16 #[v1, v2] w fun e w' => e = .returned (.bool true) ∧ Below w.heap.size w w' := by
  obtain ⟨a1, c1, rfl, hc1, hx1⟩ := h1
  obtain ⟨a2, c2, rfl, hc2, hx2⟩ := h2
  by_cases hn : l.length = 0
  · rw [hn]
    refine (Tryd.slices_Equal_int_empty a1 a2 c1 0 c2 w (by decide)).mono ?_
    rintro e w' ⟨rfl, rfl⟩
    exact ⟨rfl, Below.refl _ _⟩
  · obtain ⟨b1, o1, rfl, _, g1⟩ := hx1 (by omega)
    obtain ⟨b2, o2, rfl, _, g2⟩ := hx2 (by omega)
    refine (Tryd.slices_Equal_int b1 o1 l.length c1 b2 o2 l.length c2 l l w (Nat.le_refl _) (Nat.le_refl _) (by omega) (by omega) (fun j hj => by rw [g1 j (by rw [ints_length]; exact hj), ints_at l j hj]) (fun j hj => by rw [g2 j (by rw [ints_length]; exact hj), ints_at l j hj])).mono ?_
    rintro e w' ⟨rfl, q, rfl⟩
    exact ⟨by rw [beq_self_eq_true], bdrewN (Below.refl _ _) q⟩
theorem fun_cells {w : World} {q : Nat} {x y z u : Value} {t : TypeId} (h : w.heap[q]? = some (.cells #[x, y, z, u] t (0, 0))) : w.cell? ⟨q, 0, none⟩ = some x ∧ w.cell? ⟨q, 1, none⟩ = some y ∧ w.cell? ⟨q, 2, none⟩ = some z ∧ w.cell? ⟨q, 3, none⟩ = some u := by
  simp [World.cell?, h]
set_option maxHeartbeats 2000000 in
set_option maxRecDepth 100000 in
theorem instrs_walk (op a b c l d k : Int) (v : Value) (code : List Ins) (w : World) (h : IsCode w v code) :
    Calls Tryd.prog 4 #[.agg #[.int .i64 op, .int .i64 a, .int .i64 b], .agg #[.int .i64 c, .int .i64 l, .int .i64 d, v], .int .i64 k] w fun e w' => e = .returned (.bool true) ∧ Below w.heap.size w w' := by
  have Hc := Lib.hid h
  have hI : ((w.alloc (.cells #[.int .i64 op, .int .i64 a, .int .i64 b] 32)).alloc (.cells #[.int .i64 c, .int .i64 l, .int .i64 d, v] 30)).heap[w.heap.size]? = some (.cells #[.int .i64 op, .int .i64 a, .int .i64 b] 32 (0, 0)) := (Below.heap_alloc _ _ _ (by simp)).trans (new_heap w _)
  have hF : ((w.alloc (.cells #[.int .i64 op, .int .i64 a, .int .i64 b] 32)).alloc (.cells #[.int .i64 c, .int .i64 l, .int .i64 d, v] 30)).heap[w.heap.size + 1]? = some (.cells #[.int .i64 c, .int .i64 l, .int .i64 d, v] 30 (0, 0)) := (congrArg _ (by simp)).trans (new_heap (w.alloc (.cells #[.int .i64 op, .int .i64 a, .int .i64 b] 32)) _)
  have hb0 : Below w.heap.size w ((w.alloc (.cells #[.int .i64 op, .int .i64 a, .int .i64 b] 32)).alloc (.cells #[.int .i64 c, .int .i64 l, .int .i64 d, v] 30)) := ((Below.refl _ _).alloc (Nat.le_refl _) _).alloc (by simp) _
  obtain ⟨ca, cc, hv, hcc, _⟩ := h
  have hvv : v = .slice ca code.length cc := hv
  clear hv
  subst hvv
  go_enter Tryd.func4, Tryd.ntmps4
  go_wp2_with fail
  generalize ((w.alloc (.cells #[.int .i64 op, .int .i64 a, .int .i64 b] 32)).alloc (.cells #[.int .i64 c, .int .i64 l, .int .i64 d, .slice ca code.length cc] 30)) = W0 at *
  refine (awake_any _).mono ?_
  rintro e w1 ⟨rfl, hb1⟩
  have hI1 := (hb1.block _ (heap_lt hI)).trans hI
  have hF1 := (hb1.block _ (heap_lt hF)).trans hF
  have hbb1 : Below w.heap.size w w1 := hb0.trans (hb1.mono hb0.size)
  obtain ⟨i0, i1, i2⟩ := ins_cells hI1
  obtain ⟨f0, f1, f2, f3⟩ := fun_cells hF1
  clear hI hF hb0 hb1
  by_cases h60 : 60 < code.length
  · go_wp2_with fail
    go_ret
    exact ⟨rfl, hbb1⟩
  · go_wp2_with fail
    refine (effect_any _ _ _ _).mono ?_
    rintro e w2 ⟨rfl, hb2⟩
    have hI2 := (hb2.block _ (heap_lt hI1)).trans hI1
    have hF2 := (hb2.block _ (heap_lt hF1)).trans hF1
    have hbb2 : Below w.heap.size w w2 := hbb1.trans (hb2.mono hbb1.size)
    obtain ⟨j0, j1, j2⟩ := ins_cells hI2
    obtain ⟨x0, x1, x2, hE⟩ : ∃ x0 x1 x2 : Int, effV op a b = .tuple #[.int .i64 x0, .int .i64 x1, .int .i64 x2] := ⟨_, _, _, rfl⟩
    rw [hE]
    have HE := Lib.hid hE
    clear hE hI1 hF1 hbb1 hb2 i0 i1 i2 f0 f1 f2 f3
    go_wp2_with fail
    refine (rEffect_any _ _ _ _).mono ?_
    rintro e w3 ⟨rfl, hb3⟩
    rw [HE.out]
    have hF3 := (hb3.block _ (heap_lt hF2)).trans hF2
    have hbb3 : Below w.heap.size w w3 := hbb2.trans (hb3.mono hbb2.size)
    obtain ⟨f0, f1, f2, f3⟩ := fun_cells hF3
    have hT := targets_any c l d k _ code w3 (IsRow.below Hc.out hbb3) (by omega)
    have hlen := tgT_len code k
    have HR := Lib.hid (fun w hw => rTargets_any c l d k (.slice ca code.length cc) code w hw (by omega))
    unfold TgOk at hT
    obtain ⟨tl, te, ht⟩ : ∃ tl te, tgT code k = (tl, te) := ⟨_, _, rfl⟩
    rw [ht] at hT hlen
    have HTT := Lib.hid ht
    have HT := Lib.hid hT
    clear hT ht HE hI2 hF2 hbb2 hb3 j0 j1 j2
    go_wp2_with fail
    refine HT.out.mono ?_
    rintro e w4 ⟨v1, rfl, hr1, hb4⟩
    have hF4 := (hb4.block _ (heap_lt hF3)).trans hF3
    have hbb4 : Below w.heap.size w w4 := hbb3.trans (hb4.mono hbb3.size)
    have Hr1 := Lib.hid hr1
    obtain ⟨f0, f1, f2, f3⟩ := fun_cells hF4
    clear HT hF3 hbb3 hb4 hr1
    go_wp2_with fail
    refine (HR.out w4 (IsRow.below Hc.out hbb4)).mono ?_
    rintro e w5 ⟨v2, rfl, hr2, hb5⟩
    rw [HTT.out] at hr2 ⊢
    have hbb5 : Below w.heap.size w w5 := hbb4.trans (hb5.mono hbb4.size)
    have HQ := Lib.hid (equal_same v1 v2 tl w5 hlen (IsRow.below Hr1.out hb5) hr2)
    clear hF4 hbb4 hb5 hr2 Hr1 HR HTT f0 f1 f2 f3
    go_wp2_with fail
    refine HQ.out.mono ?_
    rintro e w6 ⟨rfl, hb6⟩
    have hbb6 : Below w.heap.size w w6 := hbb5.trans (hb6.mono hbb5.size)
    go_wp2_with fail
    go_ret
    exact ⟨rfl, hbb6⟩
end Go.Proofs.YtbcbjefonkbjnaaDoor

/- The reader's count. -/
import Derived.Test.YtbcbjefonkbjnaaDoorBc35
namespace Go.Proofs.YtbcbjefonkbjnaaDoor
open Go Go.RowKit

theorem getF_rest : ∀ (f : Nat) (z p : Int) (b : Bool) (l : List Int) (n : Int) (l' : List Int), getF f z p b l = some (n, l') → ∃ k, 0 < k ∧ k ≤ l.length ∧ l' = l.drop k
  | 0, _, _, _, _, _, _, h => by simp [getF] at h
  | _ + 1, _, _, _, [], _, _, h => by simp [getF] at h
  | f + 1, z, p, b, c :: l, n, l', h => by
    rw [getF] at h
    split at h
    · obtain ⟨k, h1, h2, h3⟩ := getF_rest f _ _ _ l n l' h
      exact ⟨k + 1, by omega, by simp; omega, by rw [h3]; rfl⟩
    · split at h
      · cases h
      · simp only [Option.some.injEq, Prod.mk.injEq] at h
        exact ⟨1, by decide, by simp, h.2.symm⟩
theorem numT_rest (l : List Int) (bad : Bool) : ∃ k, (numT l bad).2.1 = l.drop k := by
  cases h : rawGet l with
  | none => rw [numT_none l bad h]; exact ⟨l.length, by simp⟩
  | some x =>
    obtain ⟨n, l'⟩ := x
    rw [numT_some l bad n l' h]
    obtain ⟨k, _, _, hk⟩ := getF_rest _ _ _ _ _ _ _ h
    exact ⟨k, hk⟩
theorem numT_len (l : List Int) (bad : Bool) : (numT l bad).2.1.length ≤ l.length := by
  obtain ⟨k, h⟩ := numT_rest l bad
  rw [h, List.length_drop]; omega
theorem numT_bytes (l : List Int) (bad : Bool) (hb : AreBytes l) : AreBytes (numT l bad).2.1 := by
  obtain ⟨k, h⟩ := numT_rest l bad
  rw [h]; exact fun x hx => hb x (List.mem_of_mem_drop hx)
/-- What count answers, and what it leaves. -/
def cntT (l : List Int) (bad : Bool) (least : Nat) : Int × List Int × Bool :=
  let t := numT l bad
  let bad' := t.2.2 || (decide (t.1 < 0) || decide (((t.2.1.length / least : Nat) : Int) < t.1))
  (if bad' then 0 else t.1, t.2.1, bad')
set_option maxHeartbeats 2000000 in
set_option maxRecDepth 100000 in
theorem count_any (rb : Nat) (l : List Int) (bad : Bool) (least : Nat) (w : World) (h : RdAt w rb l bad) (hb : AreBytes l) (hl : l.length ≤ 1000000) (h0 : 0 < least) (h1 : least ≤ 4) :
    Calls Tryd.prog 65 #[.pointer (some ⟨rb, 0, none⟩), .int .i64 least] w (NumOk rb (cntT l bad least) w) := by
  have HN := Lib.hid (number_any rb l bad w h hb hl)
  obtain ⟨n, l', b', ht⟩ : ∃ n l' b', numT l bad = (n, l', b') := ⟨_, _, _, rfl⟩
  have Hc : Hid (cntT l bad least = (if b' || (decide (n < 0) || decide (((l'.length / least : Nat) : Int) < n)) then 0 else n, l', b' || (decide (n < 0) || decide (((l'.length / least : Nat) : Int) < n)))) := by
    show _ = _; unfold cntT; rw [ht]
  have hll : l'.length ≤ 1000000 := by have := numT_len l bad; rw [ht] at this; simp only at this; omega
  have HT := Lib.hid ht
  clear h ht
  go_enter Tryd.func65, Tryd.ntmps65
  go_wp2_with fail
  refine HN.out.mono ?_
  rintro e w1 ⟨rfl, hr1, hO1⟩
  rw [HT.out] at hr1 ⊢
  obtain ⟨a, c, hr, hlc, hx⟩ := hr1
  have Hr := Lib.hid hr
  have HX := Lib.hid hx
  obtain ⟨r0, r1⟩ := two_cells hr
  have fz1 : w1.frozen? ⟨rb, 1, none⟩ = false := Lib.frozen_of_heap hr 1
  simp only at hr r0 r1 hlc
  clear hx hr HN HT
  have hlz : (least : Int) ≠ 0 := by omega
  have hkeep : RdAt w1 rb l' b' := ⟨a, c, Hr.out, hlc, HX.out⟩
  have hset : RdAt (w1.setCell ⟨rb, 1, none⟩ (.bool true)) rb l' true := by
    refine ⟨a, c, by rw [heap_set_same Hr.out]; rfl, hlc, fun h => ?_⟩
    obtain ⟨b, off, ha, hbr, hcx⟩ := HX.out h
    exact ⟨b, off, ha, hbr, fun j hj => by rw [(OnlyAt.set w1 rb 1 _).cell (a := ⟨b, off + j, none⟩) (Nat.ne_of_lt hbr)]; exact hcx j hj⟩
  have hOs : OnlyAt rb w (w1.setCell ⟨rb, 1, none⟩ (.bool true)) := hO1.trans (OnlyAt.set _ _ _ _)
  have hq : (l'.length : Int) / (least : Int) = ((l'.length / least : Nat) : Int) := by simp
  have hq1 : l'.length / least ≤ 1000000 := Nat.le_trans (Nat.div_le_self _ _) hll
  generalize l'.length / least = q at *
  by_cases hn : n < 0
  · have hD : Hid (cntT l bad least = (0, l', true)) := by show _ = _; rw [Hc.out, decide_eq_true hn]; simp
    go_wp2_with fail
    go_ret
    exact ⟨by rw [hD.out]; rfl, by rw [hD.out]; exact hset, hOs⟩
  · by_cases hm : (q : Int) < n
    · have hD : Hid (cntT l bad least = (0, l', true)) := by show _ = _; rw [Hc.out, decide_eq_true hm]; simp
      have hm' : ((q : Int) < n) = True := eq_true hm
      go_wp2_with fail
      go_ret
      exact ⟨by rw [hD.out]; rfl, by rw [hD.out]; exact hset, hOs⟩
    · have hm' : ((q : Int) < n) = False := eq_false hm
      cases b'
      · have hD : Hid (cntT l bad least = (n, l', false)) := by show _ = _; rw [Hc.out, decide_eq_false hn, decide_eq_false hm]; rfl
        clear hm
        go_wp2_with fail
        go_ret
        exact ⟨by rw [hD.out]; rfl, by rw [hD.out]; exact hkeep, hO1⟩
      · have hD : Hid (cntT l bad least = (0, l', true)) := by show _ = _; rw [Hc.out]; rfl
        clear hm
        go_wp2_with fail
        go_ret
        exact ⟨by rw [hD.out]; rfl, by rw [hD.out]; exact hkeep, hO1⟩
end Go.Proofs.YtbcbjefonkbjnaaDoor

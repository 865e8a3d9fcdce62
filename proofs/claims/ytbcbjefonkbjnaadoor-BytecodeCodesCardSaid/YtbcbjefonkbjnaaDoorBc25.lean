/- BytecodeFlow's look at the targets. -/
import Derived.Test.YtbcbjefonkbjnaaDoorBc24
namespace Go.Proofs.YtbcbjefonkbjnaaDoor
open Go Go.RowKit

theorem flow1_any (n cp lc dp : Int) (len : Nat) (p : Addr) (w : World) (_ : len ≤ 1000000) (a : Option Addr) (c : Nat)
    (hp : w.heap[p.block]? = some (.cells #[.int .i64 cp, .int .i64 lc, .int .i64 dp, .slice a len c] 30 (0, 0))) (hp0 : p = ⟨p.block, 0, none⟩) :
    Calls Tryd.prog 13 #[.int .i64 n, .pointer (some p)] w fun e w' => e = .returned (.bool (outB len n)) ∧ w = w' := by
  obtain ⟨b, o, sp⟩ := p
  obtain ⟨rfl, rfl⟩ : o = 0 ∧ sp = none := by simpa using hp0
  have hc : w.cell? ⟨b, 3, none⟩ = some (.slice a len c) := by simp only at hp; simp [World.cell?, hp]
  clear hp hp0
  go_enter Tryd.func13, Tryd.ntmps13
  go_wp2_with fail
  all_goals
    go_ret
    refine ⟨ret_bool ?_, rfl⟩
    unfold outB inB
    by_cases h1 : 0 ≤ n <;> by_cases h2 : n ≤ (len : Int) - 1 <;> simp [h1, h2] <;> omega

theorem indexF_any (v : Value) (l : List Int) (cp lc dp : Int) (len : Nat) (B : Nat) (w : World) (hlen : len ≤ 1000000) (a : Option Addr) (c : Nat) (h : IsRow w v l.length (ints l)) (hl : l.length ≤ 1000000)
    (hp : w.heap[B]? = some (.cells #[.int .i64 cp, .int .i64 lc, .int .i64 dp, .slice a len c] 30 (0, 0))) :
    Calls Tryd.prog 38 #[v, .func (.func 13) #[] #[.pointer (some ⟨B, 0, none⟩)]] w (AnyOk (l.any (outB len)) w) := by
  have HT : Hid (∀ n : Int, Calls Tryd.prog 13 #[.int .i64 n, .pointer (some ⟨B, 0, none⟩)] w fun e w' => e = .returned (.bool (outB len n)) ∧ w = w') :=
    fun n => flow1_any n cp lc dp len ⟨B, 0, none⟩ w hlen a c hp rfl
  clear hp
  obtain ⟨a', c', rfl, hlc, hcell⟩ := h
  by_cases hne : l.length = 0
  · have hnil : l = [] := List.length_eq_zero_iff.1 hne
    subst hnil
    clear hcell
    go_enter Tryd.func38, Tryd.ntmps38
    go_wp2_with fail
    go_loop [8] (fun i => i = .int .i64 0) (fun i => 0)
    case atStart => rfl
    case round =>
      subst hrel
      go_wp2_with fail
      go_ret
      exact ⟨-1, rfl, rfl, rfl⟩
  · obtain ⟨b, off, rfl, hlt, hc⟩ := hcell (by omega)
    have Hc : Hid (∀ k, k < l.length → w.cell? ⟨b, off + k, none⟩ = some (.int .i64 (l.getD k 0))) := fun k hk => by rw [hc k (by rw [ints_length]; exact hk), ints_at l k hk]
    clear hcell hc
    go_enter Tryd.func38, Tryd.ntmps38
    go_wp2_with fail
    go_loop [8] (fun i => ∃ k : Nat, k ≤ l.length ∧ i = .int .i64 k ∧ Hid ((l.take k).any (outB len) = false)) (fun i => l.length - (intOf i).toNat)
    case atStart => exact ⟨0, Nat.zero_le _, rfl, rfl⟩
    case round =>
      obtain ⟨k, hk, rfl, hno⟩ := hrel
      by_cases hkl : k < l.length
      · have hc := Hc.out k hkl
        have Hn := Lib.hid (any_next 0 l (outB len) k hkl hno.out)
        have Hy := Lib.hid (any_hit 0 l (outB len) k hkl)
        generalize l.getD k 0 = x at *
        go_wp2_with fail
        refine (HT.out x).mono ?_
        rintro e w' ⟨rfl, rfl⟩
        obtain ⟨bb, hbb⟩ : ∃ bb, outB len x = bb := ⟨_, rfl⟩
        have Hbb := Lib.hid hbb
        rw [hbb]
        clear hbb
        cases bb
        · have hN : Hid ((l.take (k + 1)).any (outB len) = false) := Hn.out Hbb.out
          go_wp2_with fail
          go_round
          case rel => exact ⟨k + 1, by omega, by go_num, hN⟩
          case measure => simp [intOf]; omega
        · go_wp2_with fail
          go_ret
          exact ⟨k, rfl, by rw [Hy.out Hbb.out]; simp, rfl⟩
      · go_wp2_with fail
        go_ret
        refine ⟨-1, rfl, ?_, rfl⟩
        have := hno.out
        rw [List.take_of_length_le (by omega)] at this
        rw [this]; rfl
theorem containsF_any (v : Value) (l : List Int) (cp lc dp : Int) (len : Nat) (B : Nat) (w : World) (hlen : len ≤ 1000000) (a : Option Addr) (c : Nat) (h : IsRow w v l.length (ints l)) (hl : l.length ≤ 1000000)
    (hp : w.heap[B]? = some (.cells #[.int .i64 cp, .int .i64 lc, .int .i64 dp, .slice a len c] 30 (0, 0))) :
    Calls Tryd.prog 12 #[v, .func (.func 13) #[] #[.pointer (some ⟨B, 0, none⟩)]] w fun e w' => e = .returned (.bool (l.any (outB len))) ∧ w = w' := by
  have H := Lib.hid (indexF_any v l cp lc dp len B w hlen a c h hl hp)
  clear hp
  go_enter Tryd.func12, Tryd.ntmps12
  go_wp2_with fail
  refine H.out.mono ?_
  rintro e w' ⟨r, rfl, hr, rfl⟩
  have Hr := Lib.hid hr
  clear hr
  go_wp2_with fail
  go_ret
  exact ⟨ret_bool Hr.out, rfl⟩

end Go.Proofs.YtbcbjefonkbjnaaDoor

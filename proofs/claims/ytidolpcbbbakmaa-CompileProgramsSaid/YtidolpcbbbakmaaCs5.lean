/- form at a closure: with the look of Valid, and with that of Locals (printed by gen_f24.py). -/
import Derived.Test.YtidolpcbbbakmaaCs4
namespace Go.Proofs.Ytidolpcbbbakmaa
open Go Go.RowKit

/-- What is asked of the function that looks at closures: it keeps J, turns the block r at most, and answers clo. -/
structure Clo (F : FuncId) (p : Value) (J : World → Prop) (r : Option Nat) (clo : Int → Int → Bool) (ok : Int → Int → Prop) : Prop where
  call : ∀ (w : World) (n parts : Int), J w → ok n parts → Calls Try.prog F #[.int .i64 n, .int .i64 parts, p] w fun e w' => e = .returned (.bool (clo n parts)) ∧ J w' ∧ w.grownBy w' r
  kept : ∀ (w w' : World), J w → w.grownBy w' none → J w'
  low : ∀ (w : World), J w → ∀ k, r = some k → k < w.heap.size
theorem grown_drew (w : World) : w.grownBy w.drew none := grown_below (Below.refl _ _).drew
def F24Ok (J : World → Prop) (r : Option Nat) (b : Bool) (w : World) (e : Ending) (w' : World) : Prop := e = .returned (.bool b) ∧ J w' ∧ w.grownBy w' r
set_option maxHeartbeats 1000000 in
set_option maxRecDepth 100000 in
theorem form_24V (p : Value) (J : World → Prop) (r : Option Nat) (clo : Int → Int → Bool) (ok : Int → Int → Prop) (H : Clo 40 p J r clo ok) (cb : Nat) (caps : Int) (n loc : Int) (s : ByteArray) (a : Option Addr) (k c : Nat) (w : World) (hs : s.size = 0)
    (hC : w.heap[cb]? = some (.cells #[.int .i64 caps, .func (.func 40) #[] #[p]] 105 (0, 0))) (hJ : J w) (hok : ok n k) (hr : r ≠ some cb) :
    Calls Try.prog 77 #[.pointer (some ⟨cb, 0, none⟩), .agg #[.int .i64 24, .int .i64 n, .string s, .slice a k c], .int .i64 loc] w (F24Ok J r (formB caps clo loc 24 n s k) w) := by
  have hE : Hid (formB caps clo loc 24 n s k = _) := formE_24 (.inr hs)
  obtain rfl := size_zero hs
  clear hs
  have hg := grown_alloc w (.cells #[.int .i64 24, .int .i64 n, .string ⟨#[]⟩, .slice a k c] 36)
  have gP := new_heap w (.cells #[.int .i64 24, .int .i64 n, .string ⟨#[]⟩, .slice a k c] 36)
  obtain ⟨e0, e1, e2, e3⟩ := exp_box gP
  have hC2 := (hg.block _ (heap_lt hC) (by nofun)).trans hC
  have g1 : (w.alloc (.cells #[.int .i64 24, .int .i64 n, .string ⟨#[]⟩, .slice a k c] 36)).cell? ⟨cb, 1, none⟩ = some (.func (.func 40) #[] #[p]) := by simp only [World.cell?, hC2]; rfl
  have hJ2 := Lib.hid (H.kept _ _ hJ hg)
  have hr2 : r ≠ some w.heap.size := fun e => by have := H.low w hJ _ e; omega
  have HG := Lib.hid hg
  clear hC hC2 hg hJ gP
  by_cases hk : (k : Int) ≤ 1000
  · have hk2 := Lib.hid (decide_eq_true (show k ≤ 1000 by omega))
    go_enter Try.func77, Try.ntmps77
    go_upto_region 30 with fail
    generalize w.alloc (.cells #[.int .i64 24, .int .i64 n, .string ⟨#[]⟩, .slice a k c] 36) = W at *
    have hJd := H.kept _ _ hJ2.out (grown_drew W)
    go_region_held3 (fun w' => w'.cell? ⟨cb, 1, none⟩ = some (.func (.func 40) #[] #[p]) ∧ w'.cell? ⟨w.heap.size, 1, none⟩ = some (.int .i64 n)) (first | exact ⟨g1, e1⟩ | exact ⟨k1, k2⟩)
      ((go_at_call 40; refine (H.call _ n k hJd hok).mono ?_; rintro e w3 ⟨rfl, hJ3, hg3⟩; have k1 := World.grownBy.cell (a := ⟨cb, 1, none⟩) hg3 g1 (fun e => hr e.symm); have k2 := World.grownBy.cell (a := ⟨w.heap.size, 1, none⟩) hg3 e1 (fun e => hr2 e.symm)))
    all_goals
      have hgf := both (both (free_of HG.out r) (free_of (grown_drew W) r)) hg3
      go_wp2_with fail
      go_ret
      exact ⟨by rw [hE.out, hk2.out]; rfl, hJ3, hgf⟩
  · have hk2 := Lib.hid (decide_eq_false (show ¬ k ≤ 1000 by omega))
    go_enter Try.func77, Try.ntmps77
    go_upto_region 30 with fail
    generalize w.alloc (.cells #[.int .i64 24, .int .i64 n, .string ⟨#[]⟩, .slice a k c] 36) = W at *
    go_quiet (fail)
    go_wp2_with fail
    go_ret
    refine ⟨by rw [hE.out, hk2.out]; rfl, H.kept _ _ hJ2.out ?_, both (free_of HG.out r) (free_of ?_ r)⟩
    · exact grown_below (bdrewN (Below.refl _ _) _)
    · exact grown_below (bdrewN (Below.refl _ _) _)
set_option maxHeartbeats 1000000 in
set_option maxRecDepth 100000 in
theorem form_24L (p : Value) (J : World → Prop) (r : Option Nat) (clo : Int → Int → Bool) (ok : Int → Int → Prop) (H : Clo 55 p J r clo ok) (cb : Nat) (caps : Int) (n loc : Int) (s : ByteArray) (a : Option Addr) (k c : Nat) (w : World) (hs : s.size = 0)
    (hC : w.heap[cb]? = some (.cells #[.int .i64 caps, .func (.func 55) #[] #[p]] 105 (0, 0))) (hJ : J w) (hok : ok n k) (hr : r ≠ some cb) :
    Calls Try.prog 77 #[.pointer (some ⟨cb, 0, none⟩), .agg #[.int .i64 24, .int .i64 n, .string s, .slice a k c], .int .i64 loc] w (F24Ok J r (formB caps clo loc 24 n s k) w) := by
  have hE : Hid (formB caps clo loc 24 n s k = _) := formE_24 (.inr hs)
  obtain rfl := size_zero hs
  clear hs
  have hg := grown_alloc w (.cells #[.int .i64 24, .int .i64 n, .string ⟨#[]⟩, .slice a k c] 36)
  have gP := new_heap w (.cells #[.int .i64 24, .int .i64 n, .string ⟨#[]⟩, .slice a k c] 36)
  obtain ⟨e0, e1, e2, e3⟩ := exp_box gP
  have hC2 := (hg.block _ (heap_lt hC) (by nofun)).trans hC
  have g1 : (w.alloc (.cells #[.int .i64 24, .int .i64 n, .string ⟨#[]⟩, .slice a k c] 36)).cell? ⟨cb, 1, none⟩ = some (.func (.func 55) #[] #[p]) := by simp only [World.cell?, hC2]; rfl
  have hJ2 := Lib.hid (H.kept _ _ hJ hg)
  have hr2 : r ≠ some w.heap.size := fun e => by have := H.low w hJ _ e; omega
  have HG := Lib.hid hg
  clear hC hC2 hg hJ gP
  by_cases hk : (k : Int) ≤ 1000
  · have hk2 := Lib.hid (decide_eq_true (show k ≤ 1000 by omega))
    go_enter Try.func77, Try.ntmps77
    go_upto_region 30 with fail
    generalize w.alloc (.cells #[.int .i64 24, .int .i64 n, .string ⟨#[]⟩, .slice a k c] 36) = W at *
    have hJd := H.kept _ _ hJ2.out (grown_drew W)
    go_region_held3 (fun w' => w'.cell? ⟨cb, 1, none⟩ = some (.func (.func 55) #[] #[p]) ∧ w'.cell? ⟨w.heap.size, 1, none⟩ = some (.int .i64 n)) (first | exact ⟨g1, e1⟩ | exact ⟨k1, k2⟩)
      ((go_at_call 55; refine (H.call _ n k hJd hok).mono ?_; rintro e w3 ⟨rfl, hJ3, hg3⟩; have k1 := World.grownBy.cell (a := ⟨cb, 1, none⟩) hg3 g1 (fun e => hr e.symm); have k2 := World.grownBy.cell (a := ⟨w.heap.size, 1, none⟩) hg3 e1 (fun e => hr2 e.symm)))
    all_goals
      have hgf := both (both (free_of HG.out r) (free_of (grown_drew W) r)) hg3
      go_wp2_with fail
      go_ret
      exact ⟨by rw [hE.out, hk2.out]; rfl, hJ3, hgf⟩
  · have hk2 := Lib.hid (decide_eq_false (show ¬ k ≤ 1000 by omega))
    go_enter Try.func77, Try.ntmps77
    go_upto_region 30 with fail
    generalize w.alloc (.cells #[.int .i64 24, .int .i64 n, .string ⟨#[]⟩, .slice a k c] 36) = W at *
    go_quiet (fail)
    go_wp2_with fail
    go_ret
    refine ⟨by rw [hE.out, hk2.out]; rfl, H.kept _ _ hJ2.out ?_, both (free_of HG.out r) (free_of ?_ r)⟩
    · exact grown_below (bdrewN (Below.refl _ _) _)
    · exact grown_below (bdrewN (Below.refl _ _) _)
end Go.Proofs.Ytidolpcbbbakmaa

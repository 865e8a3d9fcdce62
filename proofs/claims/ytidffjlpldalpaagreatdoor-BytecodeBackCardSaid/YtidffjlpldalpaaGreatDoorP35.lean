/- Decode of the program. The program's Parse. -/
import Derived.Test.YtidffjlpldalpaaGreatDoorP32
import Derived.Test.YtidffjlpldalpaaGreatDoorP31
import Derived.Test.YtidffjlpldalpaaGreatDoorP34
set_option linter.unusedVariables false
set_option linter.unusedSimpArgs false
namespace Go.Proofs.YtidffjlpldalpaaGreatDoor
open Go Go.RowKit

theorem decT_short (l : List Int) (h : l.length < 2) : decT l = (zeroS, 4) := by unfold decT; rw [if_pos h]
theorem decT_sum (l : List Int) (n : Nat) (hn : l.length = n + 2) (h : sumK l n ≠ l.getD n 0 * 256 + l.getD (n + 1) 0) : decT l = (zeroS, 29) := by
  unfold decT
  rw [if_neg (by omega), show l.length - 2 = n by omega, if_pos h]
theorem decT_go (l : List Int) (n : Nat) (hn : l.length = n + 2) (h : sumK l n = l.getD n 0 * 256 + l.getD (n + 1) 0) (p : ProgD) (ok : Bool) (hp : pBody (l.take n) = if ok = true then some (strip p) else none) : decT l = chkT ok (strip p) := by
  unfold decT
  rw [if_neg (by omega), show l.length - 2 = n by omega, if_neg (fun e => e h), hp]
  cases ok
  · rfl
  · rfl
theorem isProg_slices {w : World} {fv tv : Value} {p : ProgD} (h : IsProg w fv tv p) : ∃ fa fc ta tc, fv = .slice fa p.funs.length fc ∧ tv = .slice ta p.texts.length tc := by
  obtain ⟨⟨⟨fa, fc, h1, _⟩, _⟩, ⟨ta, tc, h2, _⟩⟩ := h
  exact ⟨fa, fc, ta, tc, h1, h2⟩
theorem small_take (l : List Int) (n : Nat) (h : Small l) : Small (l.take n) := ⟨fun x hx => h.1 x (List.mem_of_mem_take hx), by rw [List.length_take]; have := h.2; omega⟩
theorem body_sizes (l : List Int) (p : ProgD) (ok : Bool) (hs : Small l) (hp : pBody l = if ok = true then some (strip p) else none) (h : ok = true) : p.funs.length ≤ 1000000 ∧ p.texts.length ≤ 1000000 := by
  subst h
  have := pBody_sizes l (strip p) hp
  have h2 := strip_sizes p _ this
  have := hs.2
  exact ⟨by omega, by omega⟩
theorem cell_three {w : World} {R o : Nat} {x1 x2 : Option Addr} {n1 n2 c1 c2 : Nat} {z : Int} {T : TypeId} {u : Value} (hR : w.heap[R]? = some (.cells #[.slice x1 n1 c1, .slice x2 n2 c2, .int .i64 z] T (0, 0))) (h : w.cell? ⟨R, o, none⟩ = some u) : (o < 2 ∧ ∃ a n c, u = .slice a n c) ∨ (o = 2 ∧ u = .int .i64 z) := by
  simp only [World.cell?, hR] at h
  rcases (by omega : o = 0 ∨ o = 1 ∨ o = 2 ∨ 3 ≤ o) with rfl | rfl | rfl | ho
  · exact .inl ⟨by decide, _, _, _, (by simpa using h.symm)⟩
  · exact .inl ⟨by decide, _, _, _, (by simpa using h.symm)⟩
  · exact .inr ⟨rfl, (by simpa using h.symm)⟩
  · rw [Array.getElem?_eq_none (by simpa using ho)] at h; cases h
theorem IsRow.away {w V : World} {R : Nat} {v : Value} {n : Nat} {xs : List Value} (h : IsRow w v n xs) (hg : w.grownBy V (some R)) (hne : 0 < n → ∀ b off, v = .slice (some ⟨b, off, none⟩) n (match v with | .slice _ _ c => c | _ => 0) → (∀ j, j < xs.length → w.cell? ⟨b, off + j, none⟩ = some (xs.getD j undef)) → b ≠ R) : IsRow V v n xs := by
  obtain ⟨a, c, rfl, hlc, hl⟩ := h
  refine ⟨a, c, rfl, hlc, fun h0 => ?_⟩
  obtain ⟨b, off, rfl, hlt, hc⟩ := hl h0
  have hb := hne h0 b off rfl hc
  exact ⟨b, off, rfl, Nat.lt_of_lt_of_le hlt hg.size, fun j hj => (World.cell?_of_block (a := ⟨b, off + j, none⟩) (hg.block b hlt (fun e => hb (Option.some.inj e)))).trans (hc j hj)⟩
theorem IsProg.store {w V : World} {R : Nat} {fv tv : Value} {p : ProgD} {x1 x2 : Option Addr} {n1 n2 c1 c2 : Nat} {z : Int} (h : IsProg w fv tv p) (hR : w.heap[R]? = some (.cells #[.slice x1 n1 c1, .slice x2 n2 c2, .int .i64 z] 25 (0, 0))) (hg : w.grownBy V (some R)) : IsProg V fv tv p := by
  have two : ∀ off : Nat, ∀ a b : Int, w.cell? ⟨R, off + 0, none⟩ = some (.int .i64 a) → w.cell? ⟨R, off + 1, none⟩ = some (.int .i64 b) → False := fun off a b h0 h1 => by
    rcases cell_three hR h0 with ⟨_, _, _, _, e⟩ | ⟨e, _⟩
    · cases e
    · rcases cell_three hR h1 with ⟨e1, _⟩ | ⟨e1, _⟩ <;> omega
  have code : ∀ f ∈ p.funs, IsCode V f.v f.code := fun f hf => (h.1.2 f hf).away hg (fun h0 b off _ hc e => by
    subst e
    obtain ⟨i0, i1, _⟩ := insCells_at f.code 0 h0
    have hl := insCells_length f.code
    exact two off _ _ ((hc 0 (by omega)).trans (congrArg some i0)) ((hc 1 (by omega)).trans (congrArg some i1)))
  refine ⟨⟨h.1.1.away hg (fun h0 b off _ hc e => ?_), code⟩, IsRow.away h.2 hg (fun h0 b off _ hc e => ?_)⟩
  · subst e
    obtain ⟨i0, i1, _, _⟩ := funCells_at p.funs 0 h0
    have hl := funCells_length p.funs
    exact two off _ _ ((hc 0 (by omega)).trans (congrArg some i0)) ((hc 1 (by omega)).trans (congrArg some i1))
  · subst e
    have i0 := strCells_at p.texts 0 h0
    rcases cell_three hR ((hc 0 (by rw [strCells_length]; exact h0)).trans (congrArg some i0)) with ⟨_, _, _, _, e⟩ | ⟨_, e⟩ <;> cases e
set_option maxHeartbeats 1000000 in
set_option maxRecDepth 100000 in
theorem decode_end (v : Value) (l : List Int) (w : World) (hn : l.length < 2) (h : IsRow w v l.length (u8s l)) :
    Calls Tryz.prog 15 #[v] w (AnsOk (decT l) w) := by
  rw [decT_short l hn]
  obtain ⟨a, c, rfl, hlc, _⟩ := h
  generalize l.length = m at *
  have hb0 : Below w.heap.size w (w.alloc (.cells #[.slice none 0 0, .slice none 0 0, .int .i64 0] 25)) := (Below.refl _ _).alloc (Nat.le_refl _) _
  have gB : (w.alloc (.cells #[.slice none 0 0, .slice none 0 0, .int .i64 0] 25)).heap[w.heap.size]? = some (.cells #[.slice none 0 0, .slice none 0 0, .int .i64 0] 25 (0, 0)) := new_heap w _
  have hj1 : IntKind.i64.wrap ((m : Int) - 2) = (m : Int) - 2 := wrap_ok _ (by omega) (by omega)
  have hj2 : ((m : Int) - 2 < 0) = True := eq_true (by omega)
  go_enter Tryz.func15, Tryz.ntmps15
  go_upto_region 1 with fail
  generalize w.alloc (.cells #[.slice none 0 0, .slice none 0 0, .int .i64 0] 25) = W at *
  obtain ⟨z0, z1, z2⟩ := ins_cells gB
  have fz0 : W.frozen? ⟨w.heap.size, 0, none⟩ = false := Lib.frozen_of_heap gB 0
  have fz1 : W.frozen? ⟨w.heap.size, 1, none⟩ = false := Lib.frozen_of_heap gB 1
  have fz2 : W.frozen? ⟨w.heap.size, 2, none⟩ = false := Lib.frozen_of_heap gB 2
  have hlt := heap_lt gB
  obtain ⟨hr, hg⟩ := set3 gB (.slice none 0 0) (.slice none 0 0) (.int .i64 0)
  have hbe := hb0.trans (grown_under hg (by omega) (fun k hk => by cases hk; omega))
  have HBE := Lib.hid hbe
  have HR := Lib.hid hr
  clear hr hg hbe
  go_wp2_with fail
  refine bodyPost_ret (v := .tuple #[zeroP, .int .i64 4]) ?_ rfl ⟨_, _, ⟨[], [], 0⟩, 4, rfl, HBE.out, isProg_zero _, rfl⟩
  rw [results_cell_tmp (p := 2) (u := 3) (ty := 25) rfl]
  simp [asAddr, run_loadVar_row _ _ _ _ _ _ _ HR.out Tryz.underlying25 rfl prog_info, Result.andThen, zeroP]
set_option maxHeartbeats 2000000 in
set_option maxRecDepth 100000 in
theorem decode_go (v : Value) (l : List Int) (m n : Nat) (w : World) (hmn : m = n + 2) (hn : l.length = m) (hs : Small l) (h : IsRow w v m (u8s l)) (heq : sumK l n = l.getD n 0 * 256 + l.getD (n + 1) 0) :
    Calls Tryz.prog 15 #[v] w (AnsOk (decT l) w) := by
  have hb := hs.1
  have hl : n ≤ 200000 := by have := hs.2; omega
  obtain ⟨a, c, rfl, hlc, hcell⟩ := h
  obtain ⟨b, off, rfl, hlt, hc⟩ := hcell (by omega)
  have hb0 : Below w.heap.size w (w.alloc (.cells #[.slice none 0 0, .slice none 0 0, .int .i64 0] 25)) := (Below.refl _ _).alloc (Nat.le_refl _) _
  have gB : (w.alloc (.cells #[.slice none 0 0, .slice none 0 0, .int .i64 0] 25)).heap[w.heap.size]? = some (.cells #[.slice none 0 0, .slice none 0 0, .int .i64 0] 25 (0, 0)) := new_heap w _
  have hT : IsRow (w.alloc (.cells #[.slice none 0 0, .slice none 0 0, .int .i64 0] 25)) (.slice (some ⟨b, off, none⟩) n c) (l.take n).length (u8s (l.take n)) := by
    have ht : (l.take n).length = n := by rw [List.length_take]; omega
    refine ⟨_, c, by rw [ht], by omega, fun _ => ⟨b, off, rfl, by simp; omega, fun j hj => ?_⟩⟩
    rw [u8s_length, ht] at hj
    rw [hb0.cell (p := ⟨b, off + j, none⟩) hlt, hc j (by rw [u8s_length]; omega), u8s_at l j (by omega), u8s_at _ j (by omega)]
    simp [List.getD, hj]
  have ht : (l.take n).length = n := by rw [List.length_take]; omega
  have HS : Hid (∀ w', IsRow w' (.slice (some ⟨b, off, none⟩) n c) (l.take n).length (u8s (l.take n)) → _) := fun w' hr => sum_any _ (l.take n) w' (by omega) (fun x hx => hb x (List.mem_of_mem_take hx)) hr
  have HBd : Hid (∀ w', IsRow w' (.slice (some ⟨b, off, none⟩) n c) (l.take n).length (u8s (l.take n)) → _) := fun w' hr => body_any _ (l.take n) w' hr (small_take l n hs) quoted_any
  have HT := Lib.hid hT
  have hse : sumK (l.take n) (l.take n).length = sumK l n := by
    rw [ht]
    exact sumK_le _ _ n (fun j hj => by simp [List.getD, hj]) n (Nat.le_refl _)
  have d0 : (w.alloc (.cells #[.slice none 0 0, .slice none 0 0, .int .i64 0] 25)).cell? ⟨b, off + n, none⟩ = some (.int .u8 (l.getD n 0)) := by
    rw [hb0.cell (p := ⟨b, off + n, none⟩) hlt, hc n (by rw [u8s_length]; omega), u8s_at l n (by omega)]
  have d1 : (w.alloc (.cells #[.slice none 0 0, .slice none 0 0, .int .i64 0] 25)).cell? ⟨b, off + (n + 1), none⟩ = some (.int .u8 (l.getD (n + 1) 0)) := by
    rw [hb0.cell (p := ⟨b, off + (n + 1), none⟩) hlt, hc (n + 1) (by rw [u8s_length]; omega), u8s_at l (n + 1) (by omega)]
  obtain ⟨x0, x1⟩ := hb.at n (by omega)
  obtain ⟨y0, y1⟩ := hb.at (n + 1) (by omega)
  have Hse := Lib.hid hse
  have HG : Hid (∀ (p : ProgD) (ok : Bool), pBody (l.take n) = (if ok = true then some (strip p) else none) → decT l = chkT ok (strip p)) := fun p ok hp => decT_go l n (by omega) heq p ok hp
  have HZ : Hid (∀ (p : ProgD) (ok : Bool), pBody (l.take n) = (if ok = true then some (strip p) else none) → ok = true → p.funs.length ≤ 1000000 ∧ p.texts.length ≤ 1000000) := fun p ok hp => body_sizes _ p ok (small_take l n hs) hp
  generalize l.getD n 0 = x at *
  generalize l.getD (n + 1) 0 = y at *
  generalize hs' : sumK l n = s at *
  have hsb : (s == x * 256 + y) = true := beq_iff_eq.2 heq
  have hmi : (m : Int) - 2 = (n : Int) := by omega
  have hm1 : m ≤ 200002 := by omega
  have hm2 : n < m := by omega
  have hm3 : n + 1 < m := by omega
  have hnc : n ≤ c := by omega
  have hj0 : (0 : Int) ≤ (n : Int) := by omega
  have hj1 : (n : Int) ≤ (c : Int) := by omega
  have hj2 : (n : Int) < (m : Int) := by omega
  have hj3 : (n : Int) + 1 < (m : Int) := by omega
  have hj4 : (0 : Int) ≤ (n : Int) + 1 := by omega
  have hj5 : IntKind.i64.wrap ((n : Int) + 1) = (n : Int) + 1 := wrap_ok _ (by omega) (by omega)
  have hj6 : IntKind.i64.wrap x = x := wrap_ok _ (by omega) (by omega)
  have hj7 : IntKind.i64.wrap y = y := wrap_ok _ (by omega) (by omega)
  have hj8 : IntKind.i64.wrap (x * 256) = x * 256 := wrap_ok _ (by omega) (by omega)
  have hj9 : IntKind.i64.wrap (x * 256 + y) = x * 256 + y := wrap_ok _ (by omega) (by omega)
  clear hcell hc hT hse heq hs' hs hmn hn ht
  go_enter Tryz.func15, Tryz.ntmps15
  go_wp2_with fail
  go_region_held3 (fun w' => w'.cell? ⟨b, off + n, none⟩ = some (.int .u8 x) ∧ w'.cell? ⟨b, off + (n + 1), none⟩ = some (.int .u8 y)) (exact ⟨d0, d1⟩)
    ((go_at_call 48; refine (HS.out _ (by exact HT.out)).mono ?_; rintro e w' ⟨rfl, rfl⟩; rw [Hse.out]))
  go_wp2_with fail
  refine (HBd.out _ (by exact HT.out)).mono ?_
  rintro e w2 ⟨fv, tv, p, ok, rfl, hb2, hp2, hpb⟩
  have hb2' := hb0.trans ((Below.refl _ _).drew.trans (hb2.mono hb0.size))
  have gB2 := (hb2.block w.heap.size (heap_lt gB)).trans gB
  have HCk := Lib.hid (checked_any fv tv p ok w2 hp2 (HZ.out p ok hpb))
  have HD := Lib.hid (HG.out p ok hpb)
  clear hb2 hp2 hpb hb0 gB d0 d1
  go_wp2_with fail
  refine HCk.out.mono ?_
  rintro e w3 ⟨fv', tv', p', err, rfl, hb3, hp3, ht3⟩
  have hb3' := hb2'.trans (hb3.mono hb2'.size)
  have gB3 := (hb3.block w.heap.size (heap_lt gB2)).trans gB2
  obtain ⟨fa, fc, ta, tc, rfl, rfl⟩ := isProg_slices hp3
  obtain ⟨z0, z1, z2⟩ := ins_cells gB3
  have fz0 : w3.frozen? ⟨w.heap.size, 0, none⟩ = false := Lib.frozen_of_heap gB3 0
  have fz1 : w3.frozen? ⟨w.heap.size, 1, none⟩ = false := Lib.frozen_of_heap gB3 1
  have fz2 : w3.frozen? ⟨w.heap.size, 2, none⟩ = false := Lib.frozen_of_heap gB3 2
  have hlt3 := heap_lt gB3
  obtain ⟨hr, hg⟩ := set3 gB3 (.slice fa p'.funs.length fc) (.slice ta p'.texts.length tc) (.int .i64 p'.main)
  have hbe := hb3'.trans (grown_under hg (by omega) (fun k hk => by cases hk; omega))
  have HBE := Lib.hid hbe
  have HPE := Lib.hid (hp3.store gB3 hg)
  have HE := Lib.hid (ht3.trans HD.out.symm)
  have HR := Lib.hid hr
  clear hr hg hbe hp3 gB3 gB2 hb2' hb3' hb3 HCk HD
  go_wp2_with fail
  refine bodyPost_ret (v := .tuple #[.agg #[.slice fa p'.funs.length fc, .slice ta p'.texts.length tc, .int .i64 p'.main], .int .i64 err]) ?_ rfl ⟨_, _, p', err, rfl, HBE.out, HPE.out, HE.out⟩
  rw [results_cell_tmp (p := 2) (u := 3) (ty := 25) rfl]
  simp [asAddr, run_loadVar_row _ _ _ _ _ _ _ HR.out Tryz.underlying25 rfl prog_info, Result.andThen]
theorem zeroP_ans {w w' : World} (err : Int) (hb : Below w.heap.size w w') (t : ProgS × Int) (ht : (zeroS, err) = t) : AnsOk t w (.returned (.tuple #[zeroP, .int .i64 err])) w' := ⟨_, _, ⟨[], [], 0⟩, err, rfl, hb, isProg_zero _, ht⟩
theorem decode_any (v : Value) (l : List Int) (w : World) (hs : Small l) (h : IsRow w v l.length (u8s l)) :
    Calls Tryz.prog 15 #[v] w (AnsOk (decT l) w) := by
  by_cases h2 : l.length < 2
  · exact decode_end v l w h2 h
  · obtain ⟨n, hn⟩ : ∃ n, l.length = n + 2 := ⟨l.length - 2, by omega⟩
    by_cases hq : sumK l n = l.getD n 0 * 256 + l.getD (n + 1) 0
    · exact decode_go v l _ n w hn rfl hs h hq
    · refine (decode_sum v l _ n w hn rfl (by have := hs.2; omega) hs.1 h hq).mono ?_
      rintro e w' ⟨rfl, hb⟩
      exact zeroP_ans 29 hb _ (decT_sum l n hn hq).symm

theorem parT_of (l : List UInt8) (p : ProgD) (ok : Bool) (h : readT l = if ok = true then some (strip p) else none) : parT l = chkT ok (strip p) := by
  unfold parT
  cases ok
  · rw [h, if_neg (by decide)]; rfl
  · rw [h, if_pos rfl]
set_option maxHeartbeats 1000000 in
set_option maxRecDepth 100000 in
theorem parse_any (s : ByteArray) (w : World) (hE : EnvN w) (hs : s.size ≤ 1000000) :
    Calls Tryz.prog 11 #[.string s] w (AnsOk (parT s.data.toList) w) := by
  have hb0 : Below w.heap.size w (w.alloc (.cells #[.slice none 0 0, .slice none 0 0, .int .i64 0] 25)) := (Below.refl _ _).alloc (Nat.le_refl _) _
  have gB : (w.alloc (.cells #[.slice none 0 0, .slice none 0 0, .int .i64 0] 25)).heap[w.heap.size]? = some (.cells #[.slice none 0 0, .slice none 0 0, .int .i64 0] 25 (0, 0)) := new_heap w _
  have HR := Lib.hid (read_any s (w.alloc (.cells #[.slice none 0 0, .slice none 0 0, .int .i64 0] 25)) (hE.below hb0) hs)
  have hdl := data_len s
  go_enter Tryz.func11, Tryz.ntmps11
  go_wp2_with fail
  generalize w.alloc (.cells #[.slice none 0 0, .slice none 0 0, .int .i64 0] 25) = W0 at *
  refine HR.out.mono ?_
  clear HR
  rintro e w2 ⟨fv, tv, p, ok, rfl, hb2, hp2, hpb, hsz⟩
  have hb2' := hb0.trans (hb2.mono hb0.size)
  have gB2 := (hb2.block w.heap.size (heap_lt gB)).trans gB
  have HCk := Lib.hid (checked_any fv tv p ok w2 hp2 (fun h => ⟨by have := (hsz h).1; omega, by have := (hsz h).2; omega⟩))
  have HD := Lib.hid (parT_of _ p ok hpb)
  clear hb2 hp2 hpb hb0 gB hsz
  go_wp2_with fail
  refine HCk.out.mono ?_
  rintro e w3 ⟨fv', tv', p', err, rfl, hb3, hp3, ht3⟩
  have hb3' := hb2'.trans (hb3.mono hb2'.size)
  have gB3 := (hb3.block w.heap.size (heap_lt gB2)).trans gB2
  obtain ⟨fa, fc, ta, tc, rfl, rfl⟩ := isProg_slices hp3
  obtain ⟨z0, z1, z2⟩ := ins_cells gB3
  have fz0 : w3.frozen? ⟨w.heap.size, 0, none⟩ = false := Lib.frozen_of_heap gB3 0
  have fz1 : w3.frozen? ⟨w.heap.size, 1, none⟩ = false := Lib.frozen_of_heap gB3 1
  have fz2 : w3.frozen? ⟨w.heap.size, 2, none⟩ = false := Lib.frozen_of_heap gB3 2
  have hlt3 := heap_lt gB3
  obtain ⟨hr, hg⟩ := set3 gB3 (.slice fa p'.funs.length fc) (.slice ta p'.texts.length tc) (.int .i64 p'.main)
  have hbe := hb3'.trans (grown_under hg (by omega) (fun k hk => by cases hk; omega))
  have HBE := Lib.hid hbe
  have HPE := Lib.hid (hp3.store gB3 hg)
  have HE := Lib.hid (ht3.trans HD.out.symm)
  have HR := Lib.hid hr
  clear hr hg hbe hp3 gB3 gB2 hb2' hb3' hb3 HCk HD
  go_wp2_with fail
  refine bodyPost_ret (v := .tuple #[.agg #[.slice fa p'.funs.length fc, .slice ta p'.texts.length tc, .int .i64 p'.main], .int .i64 err]) ?_ rfl ⟨_, _, p', err, rfl, HBE.out, HPE.out, HE.out⟩
  rw [results_cell_tmp (p := 2) (u := 3) (ty := 25) rfl]
  simp [asAddr, run_loadVar_row _ _ _ _ _ _ _ HR.out Tryz.underlying25 rfl prog_info, Result.andThen]
end Go.Proofs.YtidffjlpldalpaaGreatDoor

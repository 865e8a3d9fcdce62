/- Programs, texts, and codes belong together: the plain law. Decode of the program. The program's Parse. -/
import Derived.Test.YtidffjlpldalpaaGreatDoorT27
import Derived.Test.YtidffjlpldalpaaGreatDoorT30
import Derived.Test.YtidffjlpldalpaaGreatDoorT29
set_option linter.unusedVariables false
set_option linter.unusedSimpArgs false
namespace Go.Proofs.YtidffjlpldalpaaGreatDoor
open Go Go.RowKit

theorem right_good {nt : Nat} {fs : List FunD} {c l : Int} {code : List Ins} {k : Nat} {i : Ins} (hc : c ≤ 1000) (hl : l ≤ 4096) (hcode : code.length ≤ 16384) (hnt : nt ≤ 1000) (hfs : fs.length ≤ 4096) (hfc : ∀ f ∈ fs, headB f = true) (h : rightI nt fs c l code k i = true) : InsOk i := by
  obtain ⟨op, a, b⟩ := i
  by_cases hkn : knownB op = false
  · simp [rightI, hkn] at h
  · have hkn' : knownB op = true := by simpa using hkn
    have hop : 1 ≤ op ∧ op ≤ 16 := by simpa [knownB, inB] using hkn'
    have hfb : inB a 0 ((fs.length : Int) - 1) = true → (fs.getD a.toNat default).c ≤ 1000 ∧ 0 ≤ (fs.getD a.toNat default).c := fun ha => by
      have ha' : 0 ≤ a ∧ a ≤ (fs.length : Int) - 1 := by simpa [inB] using ha
      have := hfc _ (getD_mem default fs a.toNat (by omega))
      simp only [headB, inB, Bool.and_eq_true, decide_eq_true_eq] at this
      exact ⟨this.1.2, this.1.1⟩
    have ht : tightI ⟨op, a, b⟩ := by
      unfold rightI at h
      rw [if_neg (by simp [hkn'])] at h
      by_cases h2 : opnds op < 1 ∧ a ≠ 0 ∨ opnds op < 2 ∧ b ≠ 0
      · rw [if_pos h2] at h; cases h
      · refine ⟨fun h3 => ?_, fun h3 => ?_⟩
        · show a = 0
          exact Classical.byContradiction fun h4 => h2 (.inl ⟨h3, h4⟩)
        · show b = 0
          exact Classical.byContradiction fun h4 => h2 (.inr ⟨h3, h4⟩)
    have hab : Num52 a ∧ Num52 b := by
      unfold Num52
      simp only [rightI, hkn] at h
      rcases op_cases op with rfl | rfl | rfl | rfl | rfl | rfl | rfl | rfl | rfl | rfl | rfl | rfl | rfl | rfl | rfl | rfl | hno
      rotate_left 16
      · exfalso; omega
      all_goals
        simp [opnds, inB] at h hfb
        refine ⟨⟨?_, ?_⟩, ⟨?_, ?_⟩⟩ <;> omega
    exact ⟨hop.1, hop.2, hab.1, hab.2, ht⟩
theorem fit_52 {n : Int} : fitB n = true ↔ Num52 n := by
  unfold fitB inB Num52
  simp
theorem valid_good {p : ProgD} (h : validB p = true) : TextsOk (strip p) ∧ CodesOk (strip p) := by
  obtain ⟨h1, h2, h3, h4, h5, h6, h7⟩ := valid_parts p h
  have hq : ∀ s ∈ p.texts, quotedB s = true := by
    unfold validB at h
    simp only [Bool.and_eq_true, Bool.not_eq_true', List.any_eq_false] at h
    intro s hs
    have := h.2.2.1 s hs
    simpa [notQ] using this
  have hh : ∀ f ∈ p.funs, (0 ≤ f.c ∧ f.c ≤ 1000) ∧ (1 ≤ f.l ∧ f.l ≤ 4096) ∧ (0 ≤ f.d ∧ f.d ≤ 4096) ∧ f.code.length ≤ 16384 := fun f hf => by
    have := h4 f hf
    simp only [headB, inB, Bool.and_eq_true, decide_eq_true_eq] at this
    obtain ⟨a, b, c, d⟩ := this
    exact ⟨a, b, c, by omega⟩
  have hm : Num52 p.main := by unfold Num52; omega
  have hi : ∀ f ∈ (strip p).funs, ∀ i ∈ f.code, InsOk i := fun f hf i hi => by
    obtain ⟨g, hg, rfl⟩ := List.mem_map.1 hf
    obtain ⟨k, hk, rfl⟩ := List.mem_iff_getElem.1 hi
    have hr := h5 g hg
    unfold rightsB at hr
    have := List.all_eq_true.1 hr k (List.mem_range.2 hk)
    rw [rightB_eq] at this
    have e : g.code.getD k default = g.code[k]'hk := by simp [List.getD, show k < g.code.length from hk]; rfl
    rw [e] at this
    have hg' := hh g hg
    exact right_good hg'.1.2 hg'.2.1.2 hg'.2.2.2 h3 h1 h4 this
  have hf : ∀ f ∈ (strip p).funs, (0 ≤ f.c ∧ f.c ≤ 1000) ∧ (1 ≤ f.l ∧ f.l ≤ 4096) ∧ (0 ≤ f.d ∧ f.d ≤ 4096) ∧ f.code.length ≤ 16384 := fun f hf => by
    obtain ⟨g, hg, rfl⟩ := List.mem_map.1 hf
    exact hh g hg
  refine ⟨⟨hm, fun s hs => ?_, fun f hg => ?_, hi⟩, ⟨fit_52.2 hm, ?_, ?_, hq, fun f hg => ?_, fun f hg i hi' => ?_⟩⟩
  · have := hq s hs
    unfold quotedB at this
    simpa using this
  · have := hf f hg
    unfold Num52; omega
  · rw [fit_52]; unfold Num52; show _ ∧ ((p.texts.length : Nat) : Int) ≤ _; constructor
    · show _ ≤ ((p.texts.length : Nat) : Int); omega
    · omega
  · rw [fit_52]; unfold Num52
    have e : (strip p).funs.length = p.funs.length := by simp [strip]
    rw [e]
    constructor <;> omega
  · have := hf f hg
    refine ⟨fit_52.2 ?_, fit_52.2 ?_, fit_52.2 ?_, fit_52.2 ?_⟩ <;> (unfold Num52; omega)
  · have := hi f hg i hi'
    have h1 := this.lo; have h2 := this.hi
    exact ⟨fit_52.2 (by unfold Num52; omega), fit_52.2 this.a, fit_52.2 this.b⟩
/-- What Parse answers. -/
def parT (s : List UInt8) : ProgS × Int := match readT s with
  | none => chkT false zeroS
  | some p => chkT true p

theorem isProg_slices {w : World} {fv tv : Value} {p : ProgD} (h : IsProg w fv tv p) : ∃ fa fc ta tc, fv = .slice fa p.funs.length fc ∧ tv = .slice ta p.texts.length tc := by
  obtain ⟨⟨⟨fa, fc, h1, _⟩, _⟩, ⟨ta, tc, h2, _⟩⟩ := h
  exact ⟨fa, fc, ta, tc, h1, h2⟩
theorem cell_three {w : World} {R o : Nat} {x1 x2 : Option Addr} {n1 n2 c1 c2 : Nat} {z : Int} {T : TypeId} {u : Value} (hR : w.heap[R]? = some (.cells #[.slice x1 n1 c1, .slice x2 n2 c2, .int .i64 z] T (0, 0))) (h : w.cell? ⟨R, o, none⟩ = some u) : (o < 2 ∧ ∃ a n c, u = .slice a n c) ∨ (o = 2 ∧ u = .int .i64 z) := by
  simp only [World.cell?, hR] at h
  rcases (by omega : o = 0 ∨ o = 1 ∨ o = 2 ∨ 3 ≤ o) with rfl | rfl | rfl | ho
  · exact .inl ⟨by decide, _, _, _, (by simpa using h.symm)⟩
  · exact .inl ⟨by decide, _, _, _, (by simpa using h.symm)⟩
  · exact .inr ⟨rfl, (by simpa using h.symm)⟩
  · rw [Array.getElem?_eq_none (by simpa using ho)] at h; cases h
theorem IsRow.away {w V : World} {R : Nat} {v : Value} {n : Nat} {xs : List Value} (h : IsRow w v n xs) (hg : w.grownBy V (some R)) (hne : 0 < n → ∀ b off, v = .slice (some ⟨b, off, none⟩) n (match v with | .slice _ _ c => c | _ => 0) → (∀ j, j < xs.length → w.cell? ⟨b, off + j, none⟩ = some (xs.getD j undef)) → b ≠ R) : IsRow V v n xs := by
  obtain ⟨a, c, rfl, hlc, hl⟩ := h
  refine ⟨a, c, rfl, hlc, fun h0 => ?_⟩
  obtain ⟨b, off, rfl, hlt, hc⟩ := hl h0
  have hb := hne h0 b off rfl hc
  exact ⟨b, off, rfl, Nat.lt_of_lt_of_le hlt hg.size, fun j hj => (World.cell?_of_block (a := ⟨b, off + j, none⟩) (hg.block b hlt (fun e => hb (Option.some.inj e)))).trans (hc j hj)⟩
theorem IsProg.store {w V : World} {R : Nat} {fv tv : Value} {p : ProgD} {x1 x2 : Option Addr} {n1 n2 c1 c2 : Nat} {z : Int} (h : IsProg w fv tv p) (hR : w.heap[R]? = some (.cells #[.slice x1 n1 c1, .slice x2 n2 c2, .int .i64 z] 25 (0, 0))) (hg : w.grownBy V (some R)) : IsProg V fv tv p := by
  have two : ∀ off : Nat, ∀ a b : Int, w.cell? ⟨R, off + 0, none⟩ = some (.int .i64 a) → w.cell? ⟨R, off + 1, none⟩ = some (.int .i64 b) → False := fun off a b h0 h1 => by
    rcases cell_three hR h0 with ⟨_, _, _, _, e⟩ | ⟨e, _⟩
    · cases e
    · rcases cell_three hR h1 with ⟨e1, _⟩ | ⟨e1, _⟩ <;> omega
  have code : ∀ f ∈ p.funs, IsCode V f.v f.code := fun f hf => (h.1.2 f hf).away hg (fun h0 b off _ hc e => by
    subst e
    obtain ⟨i0, i1, _⟩ := insCells_at f.code 0 h0
    have hl := insCells_length f.code
    exact two off _ _ ((hc 0 (by omega)).trans (congrArg some i0)) ((hc 1 (by omega)).trans (congrArg some i1)))
  refine ⟨⟨h.1.1.away hg (fun h0 b off _ hc e => ?_), code⟩, IsRow.away h.2 hg (fun h0 b off _ hc e => ?_)⟩
  · subst e
    obtain ⟨i0, i1, _, _⟩ := funCells_at p.funs 0 h0
    have hl := funCells_length p.funs
    exact two off _ _ ((hc 0 (by omega)).trans (congrArg some i0)) ((hc 1 (by omega)).trans (congrArg some i1))
  · subst e
    have i0 := strCells_at p.texts 0 h0
    rcases cell_three hR ((hc 0 (by rw [strCells_length]; exact h0)).trans (congrArg some i0)) with ⟨_, _, _, _, e⟩ | ⟨_, e⟩ <;> cases e

theorem parT_of (l : List UInt8) (p : ProgD) (ok : Bool) (h : readT l = if ok = true then some (strip p) else none) : parT l = chkT ok (strip p) := by
  unfold parT
  cases ok
  · rw [h, if_neg (by decide)]; rfl
  · rw [h, if_pos rfl]
set_option maxHeartbeats 1000000 in
set_option maxRecDepth 100000 in
theorem parse_any (s : ByteArray) (w : World) (hE : EnvN w) (hs : s.size ≤ 1000000) :
    Calls Tryz.prog 11 #[.string s] w (AnsOk (parT s.data.toList) w) := by
  have hb0 : Below w.heap.size w (w.alloc (.cells #[.slice none 0 0, .slice none 0 0, .int .i64 0] 25)) := (Below.refl _ _).alloc (Nat.le_refl _) _
  have gB : (w.alloc (.cells #[.slice none 0 0, .slice none 0 0, .int .i64 0] 25)).heap[w.heap.size]? = some (.cells #[.slice none 0 0, .slice none 0 0, .int .i64 0] 25 (0, 0)) := new_heap w _
  have HR := Lib.hid (read_any s (w.alloc (.cells #[.slice none 0 0, .slice none 0 0, .int .i64 0] 25)) (hE.below hb0) hs)
  have hdl := data_len s
  go_enter Tryz.func11, Tryz.ntmps11
  go_wp2_with fail
  generalize w.alloc (.cells #[.slice none 0 0, .slice none 0 0, .int .i64 0] 25) = W0 at *
  refine HR.out.mono ?_
  clear HR
  rintro e w2 ⟨fv, tv, p, ok, rfl, hb2, hp2, hpb, hsz⟩
  have hb2' := hb0.trans (hb2.mono hb0.size)
  have gB2 := (hb2.block w.heap.size (heap_lt gB)).trans gB
  have HCk := Lib.hid (checked_any fv tv p ok w2 hp2 (fun h => ⟨by have := (hsz h).1; omega, by have := (hsz h).2; omega⟩))
  have HD := Lib.hid (parT_of _ p ok hpb)
  clear hb2 hp2 hpb hb0 gB hsz
  go_wp2_with fail
  refine HCk.out.mono ?_
  rintro e w3 ⟨fv', tv', p', err, rfl, hb3, hp3, ht3⟩
  have hb3' := hb2'.trans (hb3.mono hb2'.size)
  have gB3 := (hb3.block w.heap.size (heap_lt gB2)).trans gB2
  obtain ⟨fa, fc, ta, tc, rfl, rfl⟩ := isProg_slices hp3
  obtain ⟨z0, z1, z2⟩ := ins_cells gB3
  have fz0 : w3.frozen? ⟨w.heap.size, 0, none⟩ = false := Lib.frozen_of_heap gB3 0
  have fz1 : w3.frozen? ⟨w.heap.size, 1, none⟩ = false := Lib.frozen_of_heap gB3 1
  have fz2 : w3.frozen? ⟨w.heap.size, 2, none⟩ = false := Lib.frozen_of_heap gB3 2
  have hlt3 := heap_lt gB3
  obtain ⟨hr, hg⟩ := set3 gB3 (.slice fa p'.funs.length fc) (.slice ta p'.texts.length tc) (.int .i64 p'.main)
  have hbe := hb3'.trans (grown_under hg (by omega) (fun k hk => by cases hk; omega))
  have HBE := Lib.hid hbe
  have HPE := Lib.hid (hp3.store gB3 hg)
  have HE := Lib.hid (ht3.trans HD.out.symm)
  have HR := Lib.hid hr
  clear hr hg hbe hp3 gB3 gB2 hb2' hb3' hb3 HCk HD
  go_wp2_with fail
  refine bodyPost_ret (v := .tuple #[.agg #[.slice fa p'.funs.length fc, .slice ta p'.texts.length tc, .int .i64 p'.main], .int .i64 err]) ?_ rfl ⟨_, _, p', err, rfl, HBE.out, HPE.out, HE.out⟩
  rw [results_cell_tmp (p := 2) (u := 3) (ty := 25) rfl]
  simp [asAddr, run_loadVar_row _ _ _ _ _ _ _ HR.out Tryz.underlying25 rfl prog_info, Result.andThen]
end Go.Proofs.YtidffjlpldalpaaGreatDoor

/- The depth of code: what a list of work shows (plain law). Flat expressions as plain data; the code of an expression; the depth at each of its places (plain law). -/
import Derived.Test.YtidolpcbbbakmaaGreatM2
namespace Go.Proofs.YtidolpcbbbakmaaGreat
open Go Go.RowKit

def pops (code : List Ins) (at_ : Nat) : Int := (effT (code.getD at_ default).op (code.getD at_ default).a (code.getD at_ default).b).1
def pushes (code : List Ins) (at_ : Nat) : Int := (effT (code.getD at_ default).op (code.getD at_ default).a (code.getD at_ default).b).2.1
def effE (code : List Ins) (at_ : Nat) : Int := (effT (code.getD at_ default).op (code.getD at_ default).a (code.getD at_ default).b).2.2
def tgs (code : List Ins) (at_ : Nat) : List Int := (tgT code at_).1
def tgE (code : List Ins) (at_ : Nat) : Int := (tgT code at_).2
def OkAt (code : List Ins) (at_ : Nat) (d : Int) : Prop := effE code at_ = 0 ∧ tgE code at_ = 0 ∧ pops code at_ ≤ d
def aft (code : List Ins) (at_ : Nat) (d : Int) : Int := d - pops code at_ + pushes code at_
inductive Reach (code : List Ins) : Nat → Int → Prop
  | start : Reach code 0 0
  | step {at_ : Nat} {d t : Int} : Reach code at_ d → OkAt code at_ d → t ∈ tgs code at_ → Reach code t.toNat (aft code at_ d)
def Bad (code : List Ins) : Prop := (∃ a d, Reach code a d ∧ ¬ OkAt code a d) ∨ ∃ a d d', Reach code a d ∧ Reach code a d' ∧ d ≠ d'
def Most (code : List Ins) (m : Int) : Prop := 0 ≤ m ∧ (∀ a d, Reach code a d → d ≤ m ∧ aft code a d ≤ m) ∧ (m = 0 ∨ ∃ a d, Reach code a d ∧ (m = d ∨ m = aft code a d))
def DepOk (code : List Ins) (r e : Int) : Prop := if code.length = 0 then r = 0 ∧ e = 24 else (r = 0 ∧ e = 24 ∧ Bad code) ∨ (e = 0 ∧ ¬ Bad code ∧ Most code r)
theorem dep_one (code : List Ins) (r e r' e' : Int) (h : DepOk code r e) (h' : DepOk code r' e') : r = r' ∧ e = e' := by
  unfold DepOk at h h'
  by_cases h0 : code.length = 0
  · rw [if_pos h0] at h h'
    exact ⟨h.1.trans h'.1.symm, h.2.trans h'.2.symm⟩
  · rw [if_neg h0] at h h'
    rcases h with ⟨rfl, rfl, hb⟩ | ⟨rfl, hn, m1, m2, m3⟩
    · rcases h' with ⟨rfl, rfl, _⟩ | ⟨_, hn, _⟩
      · exact ⟨rfl, rfl⟩
      · exact absurd hb hn
    · rcases h' with ⟨_, _, hb⟩ | ⟨rfl, _, k1, k2, k3⟩
      · exact absurd hb hn
      · refine ⟨?_, rfl⟩
        have a1 : r ≤ r' := by
          rcases m3 with rfl | ⟨a, d, hr, h | h⟩
          · exact k1
          · rw [h]; exact (k2 a d hr).1
          · rw [h]; exact (k2 a d hr).2
        have a2 : r' ≤ r := by
          rcases k3 with rfl | ⟨a, d, hr, h | h⟩
          · exact m1
          · rw [h]; exact (m2 a d hr).1
          · rw [h]; exact (m2 a d hr).2
        omega
/-- What an instruction takes and puts lies in bounds. -/
theorem eff_bounds (op a b : Int) : 0 ≤ (effT op a b).1 ∧ (effT op a b).1 ≤ 1000 ∧ 0 ≤ (effT op a b).2.1 ∧ (effT op a b).2.1 ≤ 1 ∧ 0 ≤ (effT op a b).2.2 ∧ (effT op a b).2.2 ≤ 2 := by
  unfold effT
  repeat' split
  all_goals try decide
  all_goals rename_i h
  · unfold inB at h; simp at h; simp only; omega
  · unfold inB at h; simp at h; simp only; omega
  · have := (arity_pos a).2 h; simp only; omega
theorem pops_bounds (code : List Ins) (k : Nat) : 0 ≤ pops code k ∧ pops code k ≤ 1000 ∧ 0 ≤ pushes code k ∧ pushes code k ≤ 1 := by
  have := eff_bounds (code.getD k default).op (code.getD k default).a (code.getD k default).b
  exact ⟨this.1, this.2.1, this.2.2.1, this.2.2.2.1⟩
/-- Where code leads to, without a fault, is code. -/
theorem tgs_in (code : List Ins) (k : Nat) (h : tgE code k = 0) (t : Int) (ht : t ∈ tgs code k) : 0 ≤ t ∧ t < code.length := by
  have key : tgT code k = ([], 2) ∨ tgT code k = ([], 24) ∨ ((tgT code k).1.any (outB code.length) = false) := by
    unfold tgT
    by_cases c1 : ((k : Int) < 0 ∨ (code.length : Int) ≤ (k : Int))
    · rw [if_pos c1]; exact .inl rfl
    · rw [if_neg c1]
      simp only
      by_cases c2 : knownB (code.getD (k : Int).toNat default).op = false
      · rw [if_pos c2]; exact .inl rfl
      · rw [if_neg c2]
        by_cases c3 : (code.getD (k : Int).toNat default).op = 13 ∧ inB (code.getD (k : Int).toNat default).b 1 1000 = false
        · rw [if_pos c3]; exact .inr (.inl rfl)
        · rw [if_neg c3]
          cases c4 : (tgL (code.getD (k : Int).toNat default) (k : Int).toNat).any (outB code.length)
          · exact .inr (.inr (by simpa using c4))
          · exact .inr (.inl (by simp))
  unfold tgE at h
  unfold tgs at ht
  rcases key with e | e | e
  · rw [e] at h; cases h
  · rw [e] at h; cases h
  · have h4 := List.any_eq_false.1 e t ht
    unfold outB inB at h4
    simp at h4
    omega
theorem tgs_len (code : List Ins) (k : Nat) : (tgs code k).length ≤ 1000 := by
  unfold tgs tgT
  by_cases c1 : ((k : Int) < 0 ∨ (code.length : Int) ≤ (k : Int))
  · rw [if_pos c1]; simp
  · rw [if_neg c1]
    simp only
    by_cases c2 : knownB (code.getD (k : Int).toNat default).op = false
    · rw [if_pos c2]; simp
    · rw [if_neg c2]
      by_cases c3 : (code.getD (k : Int).toNat default).op = 13 ∧ inB (code.getD (k : Int).toNat default).b 1 1000 = false
      · rw [if_pos c3]; simp
      · rw [if_neg c3]
        by_cases c4 : (tgL (code.getD (k : Int).toNat default) (k : Int).toNat).any (outB code.length) = true
        · rw [if_pos c4]; simp
        · rw [if_neg c4]
          simp only
          unfold tgL
          split
          · simp
          · split
            · simp
            · split
              · rename_i h13
                simp only [List.length_map, List.length_range]
                have : inB (code.getD (k : Int).toNat default).b 1 1000 = true := by
                  cases h : inB (code.getD (k : Int).toNat default).b 1 1000
                  · exact absurd ⟨h13, h⟩ c3
                  · rfl
                unfold inB at this; simp only [Bool.and_eq_true, decide_eq_true_eq] at this; omega
              · simp
def unl (bs : List Int) : Nat := bs.count (-1)
/-- What holds of the labels, the places to do, and the greatest depth; 'cur' is at work: k of its targets are done. -/
structure Inv (code : List Ins) (bs : List Int) (todo : List Nat) (m : Int) (cur : Option Nat) (k : Nat) : Prop where
  len : bs.length = code.length
  zero : bs.getD 0 (-1) = 0
  lab : ∀ a, a < code.length → bs.getD a (-1) ≠ -1 → 0 ≤ bs.getD a (-1) ∧ Reach code a (bs.getD a (-1)) ∧ bs.getD a (-1) + (unl bs : Int) ≤ (code.length : Int) - 1
  inn : ∀ t ∈ todo, t < code.length ∧ bs.getD t (-1) ≠ -1
  done : ∀ a, a < code.length → bs.getD a (-1) ≠ -1 → a ∉ todo → cur ≠ some a → OkAt code a (bs.getD a (-1)) ∧ (∀ t ∈ tgs code a, bs.getD t.toNat (-1) = aft code a (bs.getD a (-1))) ∧ bs.getD a (-1) ≤ m ∧ aft code a (bs.getD a (-1)) ≤ m
  m0 : 0 ≤ m
  att : m = 0 ∨ ∃ a d, Reach code a d ∧ (m = d ∨ m = aft code a d)
  now : ∀ c, cur = some c → c < code.length ∧ bs.getD c (-1) ≠ -1 ∧ OkAt code c (bs.getD c (-1)) ∧ bs.getD c (-1) ≤ m ∧ aft code c (bs.getD c (-1)) ≤ m ∧ ∀ t ∈ (tgs code c).take k, bs.getD t.toNat (-1) = aft code c (bs.getD c (-1))
theorem aft_nonneg {code : List Ins} {a : Nat} {d : Int} (h : OkAt code a d) : 0 ≤ aft code a d := by
  have := pops_bounds code a; have := h.2.2; unfold aft; omega
theorem aft_le {code : List Ins} {a : Nat} {d : Int} : aft code a d ≤ d + 1 := by
  have := pops_bounds code a; unfold aft; omega
theorem start_unl (code : List Ins) (h : 0 < code.length) : unl ((List.replicate code.length (-1)).set 0 0) + 1 = code.length := by
  obtain ⟨n, hn⟩ : ∃ n, code.length = n + 1 := ⟨code.length - 1, by omega⟩
  rw [hn]
  show List.count (-1) (((-1 : Int) :: List.replicate n (-1)).set 0 0) + 1 = n + 1
  simp
theorem inv_start (code : List Ins) (h : 0 < code.length) : Inv code ((List.replicate code.length (-1)).set 0 0) [0] 0 none 0 := by
  have hg : ∀ a, ((List.replicate code.length (-1 : Int)).set 0 0).getD a (-1) = if a = 0 then 0 else -1 := fun a => by
    simp only [List.getD_eq_getElem?_getD, List.getElem?_set, List.length_replicate]
    by_cases ha : a = 0
    · subst ha; simp [h]
    · rw [if_neg (Ne.symm ha), if_neg ha]
      cases hq : (List.replicate code.length (-1 : Int))[a]? with
      | none => rfl
      | some x => have := List.mem_of_getElem? hq; rw [List.mem_replicate] at this; simpa using this.2
  have hu := start_unl code h
  refine ⟨by simp, by rw [hg]; rfl, fun a ha hne => ?_, fun t ht => ?_, fun a ha hne hnt _ => ?_, by decide, .inl rfl, fun c hc => by cases hc⟩
  · rw [hg] at hne ⊢
    by_cases h0 : a = 0
    · subst h0; rw [if_pos rfl]; exact ⟨by decide, .start, by omega⟩
    · rw [if_neg h0] at hne; exact absurd rfl hne
  · obtain rfl : t = 0 := by simpa using ht
    exact ⟨h, by rw [hg]; decide⟩
  · rw [hg] at hne
    by_cases h0 : a = 0
    · subst h0; exact absurd (List.mem_singleton.2 rfl) hnt
    · rw [if_neg h0] at hne; exact absurd rfl hne
/-- A place is taken up. -/
theorem Inv.take {code : List Ins} {bs : List Int} {todo rest : List Nat} {m : Int} (h : Inv code bs todo m none 0) (c : Nat) (hc : c ∈ todo) (h1 : ∀ t ∈ todo, t = c ∨ t ∈ rest) (h2 : ∀ t ∈ rest, t ∈ todo) (hok : OkAt code c (bs.getD c (-1))) (m' : Int) (hm : m' = max (max m (bs.getD c (-1))) (aft code c (bs.getD c (-1)))) : Inv code bs rest m' (some c) 0 := by
  obtain ⟨hl, hne⟩ := h.inn c hc
  have hlab := h.lab c hl hne
  refine ⟨h.len, h.zero, h.lab, fun t ht => h.inn t (h2 t ht), fun a ha hn hnt hca => ?_, by have := h.m0; omega, ?_, fun c' hc' => ?_⟩
  · have hnt' : a ∉ todo := fun ht => by
      rcases h1 a ht with e | e
      · exact hca (by rw [e])
      · exact hnt e
    obtain ⟨d1, d2, d3, d4⟩ := h.done a ha hn hnt' (by nofun)
    exact ⟨d1, d2, by omega, by omega⟩
  · rcases h.att with e | ⟨a, d, hr, hd⟩
    · by_cases q1 : m' = 0
      · exact .inl q1
      · refine .inr ⟨c, _, hlab.2.1, ?_⟩
        omega
    · by_cases q1 : m' = m
      · exact .inr ⟨a, d, hr, by rw [q1]; exact hd⟩
      · refine .inr ⟨c, _, hlab.2.1, ?_⟩
        omega
  · cases hc'
    exact ⟨hl, hne, hok, by omega, by omega, fun t ht => by simp at ht⟩
theorem Inv.reach {code : List Ins} {bs : List Int} {todo : List Nat} {m : Int} {k : Nat} {c : Nat} (h : Inv code bs todo m (some c) k) (t : Int) (ht : t ∈ tgs code c) : Reach code t.toNat (aft code c (bs.getD c (-1))) := by
  obtain ⟨hl, hne, hok, _⟩ := h.now c rfl
  exact .step (h.lab c hl hne).2.1 hok ht
/-- A target that is labelled alike. -/
theorem Inv.same {code : List Ins} {bs : List Int} {todo : List Nat} {m : Int} {k : Nat} {c : Nat} (h : Inv code bs todo m (some c) k) (hk : k < (tgs code c).length) (he : bs.getD ((tgs code c).getD k 0).toNat (-1) = aft code c (bs.getD c (-1))) : Inv code bs todo m (some c) (k + 1) := by
  refine ⟨h.len, h.zero, h.lab, h.inn, h.done, h.m0, h.att, fun c' hc' => ?_⟩
  cases hc'
  obtain ⟨n1, n2, n3, n4, n5, n6⟩ := h.now c rfl
  refine ⟨n1, n2, n3, n4, n5, fun t ht => ?_⟩
  rw [List.take_succ_eq_append_getElem hk] at ht
  rcases List.mem_append.1 ht with ht | ht
  · exact n6 t ht
  · obtain rfl : t = _ := by simpa using ht
    simpa [List.getD, hk] using he
/-- A target that has no label yet. -/
theorem Inv.fresh {code : List Ins} {bs : List Int} {todo todo' : List Nat} {m : Int} {k : Nat} {c : Nat} (h : Inv code bs todo m (some c) k) (hk : k < (tgs code c).length) (he : bs.getD ((tgs code c).getD k 0).toNat (-1) = -1)
    (h1 : ∀ t ∈ todo', t ∈ todo ∨ t = ((tgs code c).getD k 0).toNat) (h2 : ∀ t ∈ todo, t ∈ todo') (h3 : ((tgs code c).getD k 0).toNat ∈ todo') :
    Inv code (bs.set ((tgs code c).getD k 0).toNat (aft code c (bs.getD c (-1)))) todo' m (some c) (k + 1) ∧ unl (bs.set ((tgs code c).getD k 0).toNat (aft code c (bs.getD c (-1)))) + 1 = unl bs := by
  obtain ⟨n1, n2, n3, n4, n5, n6⟩ := h.now c rfl
  have hmem : (tgs code c).getD k 0 ∈ tgs code c := by simp only [List.getD_eq_getElem?_getD, List.getElem?_eq_getElem hk, Option.getD_some]; exact List.getElem_mem hk
  have hreach := h.reach _ hmem
  obtain ⟨t0, t1⟩ := tgs_in code c n3.2.1 _ hmem
  generalize hq : (tgs code c).getD k 0 = t at *
  have hq' : t.toNat < bs.length := by rw [h.len]; omega
  have hg : ∀ a, (bs.set t.toNat (aft code c (bs.getD c (-1)))).getD a (-1) = if a = t.toNat then aft code c (bs.getD c (-1)) else bs.getD a (-1) := fun a => by
    simp only [List.getD_eq_getElem?_getD, List.getElem?_set]
    by_cases ha : a = t.toNat
    · subst ha; simp [hq']
    · rw [if_neg (Ne.symm ha), if_neg ha]
  have hct : c ≠ t.toNat := fun e => n2 (by rw [e]; exact he)
  have h0t : t.toNat ≠ 0 := fun e => by rw [e, h.zero] at he; exact absurd he (by decide)
  have haft := aft_nonneg n3
  have hlab := h.lab c n1 n2
  have hu : unl (bs.set t.toNat (aft code c (bs.getD c (-1)))) + 1 = unl bs := by
    unfold unl
    have e1 := List.count_set (a := aft code c (bs.getD c (-1))) (b := (-1 : Int)) (l := bs) (i := t.toNat) hq'
    rw [e1]
    have e2 : bs[t.toNat] = -1 := by simpa [List.getD, hq'] using he
    have e3 : ¬ (aft code c (bs.getD c (-1)) = -1) := by omega
    have e4 : 0 < bs.count (-1) := List.count_pos_iff.2 (by rw [← e2]; exact List.getElem_mem hq')
    simp only [e2, beq_self_eq_true, if_pos, beq_iff_eq, if_neg e3]
    omega
  refine ⟨⟨by simp [h.len], by rw [hg, if_neg (Ne.symm h0t)]; exact h.zero, fun a ha hne => ?_, fun s hs => ?_, fun a ha hne hnt hca => ?_, h.m0, h.att, fun c' hc' => ?_⟩, hu⟩
  · rw [hg] at hne ⊢
    by_cases e : a = t.toNat
    · rw [if_pos e]
      refine ⟨haft, by rw [e]; exact hreach, ?_⟩
      have := aft_le (code := code) (a := c) (d := bs.getD c (-1)); omega
    · rw [if_neg e] at hne ⊢
      have := h.lab a ha hne
      exact ⟨this.1, this.2.1, by omega⟩
  · rw [hg]
    rcases h1 s hs with e | e
    · have := h.inn s e
      refine ⟨this.1, ?_⟩
      split
      · omega
      · exact this.2
    · rw [if_pos e]; exact ⟨by omega, by omega⟩
  · rw [hg] at hne ⊢
    by_cases e : a = t.toNat
    · rw [e] at hnt; exact absurd h3 hnt
    · rw [if_neg e] at hne ⊢
      obtain ⟨d1, d2, d3, d4⟩ := h.done a ha hne (fun q => hnt (h2 a q)) hca
      refine ⟨d1, fun s hs => ?_, d3, d4⟩
      have hd := d2 s hs
      rw [hg]
      split
      · rename_i e2
        have := aft_nonneg d1
        rw [e2, he] at hd; omega
      · exact hd
  · cases hc'
    rw [hg, if_neg hct]
    refine ⟨n1, n2, n3, n4, n5, fun s hs => ?_⟩
    rw [hg]
    split
    · rfl
    · rename_i e2
      rw [List.take_succ_eq_append_getElem hk] at hs
      rcases List.mem_append.1 hs with hs | hs
      · exact n6 s hs
      · obtain rfl : s = _ := by simpa using hs
        have : (tgs code c)[k] = t := by rw [← hq]; simp [List.getD, hk]
        rw [this] at e2; exact absurd rfl e2
theorem Inv.close {code : List Ins} {bs : List Int} {todo : List Nat} {m : Int} {k : Nat} {c : Nat} (h : Inv code bs todo m (some c) k) (hk : (tgs code c).length ≤ k) : Inv code bs todo m none 0 := by
  obtain ⟨n1, n2, n3, n4, n5, n6⟩ := h.now c rfl
  rw [List.take_of_length_le hk] at n6
  refine ⟨h.len, h.zero, h.lab, h.inn, fun a ha hne hnt _ => ?_, h.m0, h.att, fun c' hc' => by cases hc'⟩
  by_cases e : c = a
  · subst e; exact ⟨n3, n6, n4, n5⟩
  · exact h.done a ha hne hnt (fun q => e (Option.some.inj q))
/-- Two depths at one place. -/
theorem Inv.clash {code : List Ins} {bs : List Int} {todo : List Nat} {m : Int} {k : Nat} {c : Nat} (h : Inv code bs todo m (some c) k) (hk : k < (tgs code c).length) (he : bs.getD ((tgs code c).getD k 0).toNat (-1) ≠ -1) (hne : bs.getD ((tgs code c).getD k 0).toNat (-1) ≠ aft code c (bs.getD c (-1))) : Bad code := by
  obtain ⟨n1, n2, n3, _⟩ := h.now c rfl
  have hmem : (tgs code c).getD k 0 ∈ tgs code c := by simp only [List.getD_eq_getElem?_getD, List.getElem?_eq_getElem hk, Option.getD_some]; exact List.getElem_mem hk
  obtain ⟨t0, t1⟩ := tgs_in code c n3.2.1 _ hmem
  exact .inr ⟨_, _, _, (h.lab _ (by omega) he).2.1, h.reach _ hmem, hne⟩
theorem Inv.fault {code : List Ins} {bs : List Int} {todo : List Nat} {m : Int} {c : Nat} (h : Inv code bs todo m none 0) (hc : c ∈ todo) (hno : ¬ OkAt code c (bs.getD c (-1))) : Bad code := by
  obtain ⟨hl, hne⟩ := h.inn c hc
  exact .inl ⟨c, _, (h.lab c hl hne).2.1, hno⟩
theorem Inv.all {code : List Ins} {bs : List Int} {m : Int} (h : Inv code bs [] m none 0) (h0 : 0 < code.length) : ∀ a d, Reach code a d → a < code.length ∧ bs.getD a (-1) = d ∧ 0 ≤ d := by
  intro a d hr
  induction hr with
  | start => exact ⟨h0, h.zero, by decide⟩
  | @step b e t hb hok ht ih =>
    obtain ⟨i1, i2, i3⟩ := ih
    have hne : bs.getD b (-1) ≠ -1 := by omega
    obtain ⟨d1, d2, _⟩ := h.done b i1 hne (by simp) (by nofun)
    rw [i2] at d1 d2
    obtain ⟨t0, t1⟩ := tgs_in code b hok.2.1 _ ht
    exact ⟨by omega, d2 t ht, aft_nonneg hok⟩
theorem Inv.end {code : List Ins} {bs : List Int} {m : Int} (h : Inv code bs [] m none 0) (h0 : 0 < code.length) : DepOk code m 0 := by
  have hall := h.all h0
  unfold DepOk
  rw [if_neg (by omega)]
  refine .inr ⟨rfl, fun hb => ?_, h.m0, fun a d hr => ?_, h.att⟩
  · rcases hb with ⟨a, d, hr, hno⟩ | ⟨a, d, d', hr, hr', hne⟩
    · obtain ⟨i1, i2, i3⟩ := hall a d hr
      have := (h.done a i1 (by omega) (by simp) (by nofun)).1
      rw [i2] at this; exact hno this
    · exact hne ((hall a d hr).2.1.symm.trans (hall a d' hr').2.1)
  · obtain ⟨i1, i2, i3⟩ := hall a d hr
    have := h.done a i1 (by omega) (by simp) (by nofun)
    rw [i2] at this; exact ⟨this.2.2.1, this.2.2.2⟩
theorem dep_bad {code : List Ins} (h0 : 0 < code.length) (h : Bad code) : DepOk code 0 24 := by
  unfold DepOk; rw [if_neg (by omega)]; exact .inl ⟨rfl, rfl, h⟩

/-- An expression: its operation, number, text, the slice of its parts as a value, its parts. -/
inductive ExpD where
  | mk : Int → Int → ByteArray → Value → List ExpD → ExpD
def ExpD.op : ExpD → Int | .mk o _ _ _ _ => o
def ExpD.n : ExpD → Int | .mk _ n _ _ _ => n
def ExpD.s : ExpD → ByteArray | .mk _ _ s _ _ => s
def ExpD.lv : ExpD → Value | .mk _ _ _ v _ => v
def ExpD.l : ExpD → List ExpD | .mk _ _ _ _ l => l
instance : Inhabited ExpD := ⟨.mk 0 0 ⟨#[]⟩ (.slice none 0 0) []⟩
theorem ExpD.induct {P : ExpD → Prop} (h : ∀ op n s lv l, (∀ y ∈ l, P y) → P (.mk op n s lv l)) (x : ExpD) : P x :=
  ExpD.rec (motive_1 := P) (motive_2 := fun l => ∀ y ∈ l, P y) (fun op n s lv l ih => h op n s lv l ih) (fun _ h => by cases h)
    (fun a l ha hl y hy => by rcases List.mem_cons.1 hy with rfl | hy; exact ha; exact hl y hy) x
mutual
def sizeX : ExpD → Nat
  | .mk _ _ _ _ l => sizeL l + 1
def sizeL : List ExpD → Nat
  | [] => 0
  | x :: r => sizeX x + sizeL r
end
mutual
def clenX : ExpD → Nat
  | .mk op _ _ _ l => if op = 9 then clenL l + 2 * (l.length - 1) else clenL l + 1
def clenL : List ExpD → Nat
  | [] => 0
  | x :: r => clenX x + clenL r
end
theorem clenL_cons (x : ExpD) (r : List ExpD) : clenL (x :: r) = clenX x + clenL r := by rw [clenL]
theorem clenL_nil : clenL [] = 0 := by rw [clenL]
theorem clenX_mk (op n : Int) (s : ByteArray) (v : Value) (l : List ExpD) : clenX (.mk op n s v l) = if op = 9 then clenL l + 2 * (l.length - 1) else clenL l + 1 := by rw [clenX]
def bump (op : Int) : Int := if op = 9 ∨ op = 11 then 1 else 0
/-- The instruction of a node, after its parts. -/
def lastI (T : ByteArray → Int) (op n : Int) (s : ByteArray) (k : Nat) : Ins :=
  if op = 2 then ⟨1, n, 0⟩ else if op = 3 then ⟨2, T s, 0⟩ else if op = 13 then ⟨16, n, 0⟩ else if op = 21 then ⟨3, n, 0⟩ else if op = 22 then ⟨6, 0, 0⟩ else if op = 23 then ⟨5, n, 0⟩
  else if op = 24 then ⟨7, n, k⟩ else if op = 25 then ⟨8, 0, 0⟩ else if op = 6 then ⟨10, k, 0⟩ else if op = 7 then ⟨11, n, 0⟩ else if op = 8 then ⟨12, n, 0⟩ else ⟨15, n, 0⟩
section
variable (C : List Ins) (T : ByteArray → Int)
mutual
/-- From this place on lies the code of an expression, with so many local variables around it. -/
def CodeX : Int → ExpD → Nat → Prop
  | loc, .mk op n s _ l, p =>
    if op = 11 then CodeLet loc l p else if op = 9 then CodeSw loc l p else CodeS loc l p ∧ C[p + clenL l]? = some (lastI T op n s l.length)
def CodeS : Int → List ExpD → Nat → Prop
  | _, [], _ => True
  | loc, x :: r, p => CodeX loc x p ∧ CodeS loc r (p + clenX x)
def CodeLet : Int → List ExpD → Nat → Prop
  | _, [], _ => False
  | loc, x :: r, p => CodeX loc x p ∧ C[p + clenX x]? = some ⟨4, loc, 0⟩ ∧ CodeS (loc + 1) r (p + clenX x + 1)
def CodeSw : Int → List ExpD → Nat → Prop
  | _, [], _ => False
  | loc, x :: r, p => CodeX loc x p ∧ C[p + clenX x]? = some ⟨13, loc, r.length⟩ ∧ CodeB (loc + 1) r (p + clenX x + 1) (p + clenX x + 1 + r.length) (p + clenX x + clenL r + 2 * r.length)
def CodeB : Int → List ExpD → Nat → Nat → Nat → Prop
  | _, [], _, _, _ => True
  | loc, y :: r, tab, p, e => C[tab]? = some ⟨14, p, 0⟩ ∧ CodeX loc y p ∧ (r ≠ [] → C[p + clenX y]? = some ⟨14, e, 0⟩) ∧ CodeB loc r (tab + 1) (p + clenX y + 1) e
end
end
mutual
/-- How many values lie on the stack ahead of a place of the code of an expression. -/
def dep : ExpD → Nat → Nat
  | .mk op _ _ _ l, o => if op = 11 then depLet l o else if op = 9 then depSw l o else depS 0 l o
def depS : Nat → List ExpD → Nat → Nat
  | k, [], o => if o = 0 then k else 1
  | k, x :: r, o => if o < clenX x then k + dep x o else depS (k + 1) r (o - clenX x)
def depLet : List ExpD → Nat → Nat
  | [], _ => 1
  | x :: r, o => if o < clenX x then dep x o else if o = clenX x then 1 else depS 0 r (o - clenX x - 1)
def depSw : List ExpD → Nat → Nat
  | [], _ => 1
  | x :: r, o => if o < clenX x then dep x o else if o = clenX x then 1 else if o < clenX x + 1 + r.length then 0 else depB r (o - clenX x - 1 - r.length)
def depB : List ExpD → Nat → Nat
  | [], _ => 1
  | y :: r, o => if o < clenX y then dep y o else if o = clenX y then 1 else depB r (o - clenX y - 1)
end
/-- A node has the form of its kind. -/
def formB (caps : Int) (clo : Int → Int → Bool) (loc op n : Int) (s : ByteArray) (k : Nat) : Bool :=
  if op ≠ 3 ∧ s.size ≠ 0 then false
  else if op = 2 then decide (k = 0) && inB n (-4503599627370496) 4503599627370496
  else if op = 3 then decide (k = 0) && (decide (n = 0) && decide (s.size ≤ 16384))
  else if op = 6 then decide (n = 0) && decide (k ≤ 1000)
  else if op = 7 ∨ op = 8 then decide (k = 1) && inB n 0 999
  else if op = 9 then decide (n = 0) && inB k 2 1001
  else if op = 11 ∨ op = 25 then decide (n = 0) && decide (k = 2)
  else if op = 12 then inB n 1 14 && decide ((k : Int) = ref46_arity n)
  else if op = 13 then decide (k = 0) && inB n 1 1000000
  else if op = 21 then decide (k = 0) && inB n 0 (loc - 1)
  else if op = 22 then decide (k = 0) && decide (n = 0)
  else if op = 23 then decide (k = 0) && inB n 0 (caps - 1)
  else if op = 24 then decide (k ≤ 1000) && clo n k
  else false
section
variable (caps : Int) (clo : Int → Int → Bool)
mutual
/-- An expression is flat, with so many local variables around it. -/
def flatX : Int → ExpD → Bool
  | loc, .mk op n s _ l => formB caps clo loc op n s l.length && flatL loc (loc + bump op) l
def flatL : Int → Int → List ExpD → Bool
  | _, _, [] => true
  | a, b, x :: r => flatX a x && flatL b b r
end
end
mutual
/-- The number of local variables, at most. -/
def locX : Int → ExpD → Int
  | loc, .mk op _ _ _ l => locL loc loc (loc + bump op) l
def locL : Int → Int → Int → List ExpD → Int
  | m, _, _, [] => m
  | m, a, b, x :: r => locL (max m (locX a x)) b b r
end
theorem bump_0 {op : Int} (h : op ≠ 9) (h' : op ≠ 11) : bump op = 0 := by unfold bump; rw [if_neg]; omega
theorem bump_1 {op : Int} (h : op = 9 ∨ op = 11) : bump op = 1 := by unfold bump; rw [if_pos h]
/-- What a form shows. -/
theorem form_let {caps : Int} {clo : Int → Int → Bool} {loc n : Int} {s : ByteArray} {k : Nat} (h : formB caps clo loc 11 n s k = true) : k = 2 := by
  unfold formB at h
  by_cases hs : (11 : Int) ≠ 3 ∧ s.size ≠ 0
  · rw [if_pos hs] at h; cases h
  · rw [if_neg hs, if_neg (by decide), if_neg (by decide), if_neg (by decide), if_neg (by decide), if_neg (by decide), if_pos (.inl rfl), Bool.and_eq_true] at h
    exact of_decide_eq_true h.2
theorem form_sw {caps : Int} {clo : Int → Int → Bool} {loc n : Int} {s : ByteArray} {k : Nat} (h : formB caps clo loc 9 n s k = true) : 2 ≤ k ∧ k ≤ 1001 := by
  unfold formB at h
  by_cases hs : (9 : Int) ≠ 3 ∧ s.size ≠ 0
  · rw [if_pos hs] at h; cases h
  · rw [if_neg hs, if_neg (by decide), if_neg (by decide), if_neg (by decide), if_neg (by decide), if_pos rfl, Bool.and_eq_true] at h
    have := h.2
    unfold inB at this
    simp only [Bool.and_eq_true, decide_eq_true_eq] at this
    omega
theorem len_two {α : Type} {l : List α} (h : l.length = 2) : ∃ x y, l = [x, y] := by
  match l, h with
  | [x, y], _ => exact ⟨x, y, rfl⟩
theorem len_one {α : Type} {l : List α} (h : 1 ≤ l.length) : ∃ x r, l = x :: r := by
  match l, h with
  | x :: r, _ => exact ⟨x, r, rfl⟩
theorem len_more {α : Type} {l : List α} (h : 2 ≤ l.length) : ∃ x y r, l = x :: y :: r := by
  match l, h with
  | x :: y :: r, _ => exact ⟨x, y, r, rfl⟩
theorem clenX_pos : ∀ x : ExpD, 0 < clenX x ∨ (x.op = 9 ∧ x.l.length ≤ 1) := by
  intro x
  cases x with
  | mk op n s lv l =>
    by_cases h : op = 9
    · by_cases hl : l.length ≤ 1
      · exact .inr ⟨h, hl⟩
      · left; rw [clenX_mk, if_pos h]; omega
    · left; rw [clenX_mk, if_neg h]; omega
theorem flat_pos {caps : Int} {clo : Int → Int → Bool} {loc : Int} {x : ExpD} (h : flatX caps clo loc x = true) : 0 < clenX x := by
  rcases clenX_pos x with h1 | ⟨h1, h2⟩
  · exact h1
  · cases x with
    | mk op n s lv l =>
      have h1 : op = 9 := h1
      have h2 : l.length ≤ 1 := h2
      subst h1
      unfold flatX at h
      rw [Bool.and_eq_true] at h
      have := form_sw h.1
      omega
theorem depS_0 {caps : Int} {clo : Int → Int → Bool} (k : Nat) (a b : Int) : ∀ l : List ExpD, (∀ y ∈ l, ∀ loc, flatX caps clo loc y = true → dep y 0 = 0) → flatL caps clo a b l = true → depS k l 0 = k
  | [], _, _ => by unfold depS; rfl
  | x :: r, h, hf => by
    unfold flatL at hf
    rw [Bool.and_eq_true] at hf
    unfold depS
    rw [if_pos (flat_pos hf.1), h x (List.mem_cons_self ..) _ hf.1]
    rfl
theorem dep_0 {caps : Int} {clo : Int → Int → Bool} (x : ExpD) : ∀ loc, flatX caps clo loc x = true → dep x 0 = 0 := by
  induction x using ExpD.induct with
  | h op n s lv l ih =>
    intro loc h
    unfold flatX at h
    rw [Bool.and_eq_true] at h
    obtain ⟨h1, h2⟩ := h
    unfold dep
    by_cases e1 : op = 11
    · subst e1
      rw [if_pos rfl]
      have hl := form_let h1
      obtain ⟨x, r, rfl⟩ := len_one (by omega : 1 ≤ l.length)
      unfold flatL at h2
      rw [Bool.and_eq_true] at h2
      unfold depLet
      rw [if_pos (flat_pos h2.1)]
      exact ih x (List.mem_cons_self ..) _ h2.1
    · rw [if_neg e1]
      by_cases e2 : op = 9
      · subst e2
        rw [if_pos rfl]
        have hl := form_sw h1
        obtain ⟨x, r, rfl⟩ := len_one (by omega : 1 ≤ l.length)
        unfold flatL at h2
        rw [Bool.and_eq_true] at h2
        unfold depSw
        rw [if_pos (flat_pos h2.1)]
        exact ih x (List.mem_cons_self ..) _ h2.1
      · rw [if_neg e2]
        exact depS_0 0 _ _ l (fun y hy loc hf => ih y hy loc hf) h2
theorem depS_end {caps : Int} {clo : Int → Int → Bool} (k : Nat) (a b : Int) : ∀ l : List ExpD, flatL caps clo a b l = true → depS k l (clenL l) = k + l.length ∧ depS k l (clenL l + 1) = 1
  | [], _ => by unfold clenL depS; simp
  | x :: r, hf => by
    unfold flatL at hf
    rw [Bool.and_eq_true] at hf
    obtain ⟨i1, i2⟩ := depS_end (k + 1) b b r hf.2
    rw [clenL_cons]
    unfold depS
    rw [if_neg (by omega), if_neg (by omega), show clenX x + clenL r - clenX x = clenL r by omega, show clenX x + clenL r + 1 - clenX x = clenL r + 1 by omega, i1, i2]
    simp; omega
theorem depB_end {caps : Int} {clo : Int → Int → Bool} (b : Int) : ∀ l : List ExpD, flatL caps clo b b l = true → l ≠ [] → depB l (clenL l + l.length - 1) = 1
  | [], _, h => absurd rfl h
  | [y], _, _ => by
    rw [clenL_cons, clenL_nil]
    unfold depB
    rw [if_neg (by simp), if_pos (by simp)]
  | y :: z :: r, hf, _ => by
    unfold flatL at hf
    rw [Bool.and_eq_true] at hf
    have ih := depB_end b (z :: r) hf.2 (by simp)
    rw [clenL_cons]
    unfold depB
    have hp : 0 < clenX z := by unfold flatL at hf; simp only [Bool.and_eq_true] at hf; exact flat_pos hf.2.1
    have e0 : clenL (z :: r) = clenX z + clenL r := by rw [clenL_cons]
    simp only [List.length_cons] at ih ⊢
    rw [if_neg (by omega), if_neg (by omega), show clenX y + clenL (z :: r) + (r.length + 1 + 1) - 1 - clenX y - 1 = clenL (z :: r) + (r.length + 1) - 1 by omega]
    exact ih
theorem dep_end {caps : Int} {clo : Int → Int → Bool} (x : ExpD) (loc : Int) (h : flatX caps clo loc x = true) : dep x (clenX x) = 1 := by
  cases x with
  | mk op n s lv l =>
    unfold flatX at h
    rw [Bool.and_eq_true] at h
    obtain ⟨h1, h2⟩ := h
    rw [clenX_mk]
    unfold dep
    by_cases e1 : op = 11
    · subst e1
      rw [if_pos rfl, if_neg (by decide)]
      have hl := form_let h1
      obtain ⟨x, y, rfl⟩ := len_two hl
      unfold flatL at h2
      rw [Bool.and_eq_true] at h2
      have hy : flatL caps clo (loc + bump 11) (loc + bump 11) [y] = true := h2.2
      unfold depLet
      have e0 : clenL [x, y] = clenX x + clenL [y] := clenL_cons _ _
      have e2 : clenL [y] = clenX y := by rw [clenL_cons, clenL_nil]; rfl
      have hp := flat_pos (by unfold flatL at hy; simp only [Bool.and_eq_true] at hy; exact hy.1)
      rw [if_neg (by omega), if_neg (by omega), show clenL [x, y] + 1 - clenX x - 1 = clenX y by omega]
      have := (depS_end 0 _ _ [y] hy).1
      rw [e2] at this
      rw [this]; rfl
    · rw [if_neg e1]
      by_cases e2 : op = 9
      · subst e2
        rw [if_pos rfl, if_pos rfl]
        have hl := form_sw h1
        obtain ⟨x, y, r, rfl⟩ := len_more hl.1
        unfold flatL at h2
        rw [Bool.and_eq_true] at h2
        unfold depSw
        have e0 : clenL (x :: y :: r) = clenX x + clenL (y :: r) := clenL_cons _ _
        have e3 : clenL (y :: r) = clenX y + clenL r := clenL_cons _ _
        have hp : 0 < clenX y := flat_pos (by have := h2.2; unfold flatL at this; simp only [Bool.and_eq_true] at this; exact this.1)
        simp only [List.length_cons]
        rw [if_neg (by omega), if_neg (by omega), if_neg (by omega)]
        have := depB_end _ (y :: r) h2.2 (by simp)
        simp only [List.length_cons] at this
        rw [show clenL (x :: y :: r) + 2 * (r.length + 1 + 1 - 1) - clenX x - 1 - (r.length + 1) = clenL (y :: r) + (r.length + 1) - 1 by omega]
        exact this
      · rw [if_neg e2, if_neg e2]
        exact (depS_end 0 _ _ l h2).2
end Go.Proofs.YtidolpcbbbakmaaGreat

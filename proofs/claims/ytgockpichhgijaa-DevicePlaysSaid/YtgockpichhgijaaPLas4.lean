/- What DeviceLasts says, of a device as plain data: no program in sight. -/
import Derived.Test.YtgockpichhgijaaDone4
namespace Go.Proofs.Ytgockpichhgijaa
open Go.RowKit Go.MapKept

theorem keepStep_cache (D : Dv) (n k : Int) : (keepStep D n).cache k = if k = n then none else D.cache k := by
  unfold keepStep
  by_cases e : k = n
  · subst e
    rw [if_pos rfl]
    cases h : D.cache k with
    | none => exact h
    | some l => exact upd_same _ _ _
  · rw [if_neg e]
    cases h : D.cache n with
    | none => rfl
    | some l => exact upd_ne _ _ e
theorem keepStep_last (D : Dv) (n k : Int) : (keepStep D n).last k = if k = n then joinM D.cache D.last k else D.last k := by
  unfold keepStep joinM
  by_cases e : k = n
  · subst e
    rw [if_pos rfl]
    cases h : D.cache k with
    | none => rfl
    | some l => exact upd_same _ _ _
  · rw [if_neg e]
    cases h : D.cache n with
    | none => rfl
    | some l => exact upd_ne _ _ e
theorem keepStep_n (D : Dv) (n : Int) : (keepStep D n).n = D.n := by unfold keepStep; split <;> rfl
theorem keepAll_cons (D : Dv) (n : Int) (K : List Int) : keepAll D (n :: K) = keepAll (keepStep D n) K := rfl
theorem keepAll_n (K : List Int) (D : Dv) : (keepAll D K).n = D.n := by
  induction K generalizing D with
  | nil => rfl
  | cons n K ih => rw [keepAll_cons, ih, keepStep_n]
theorem keepAll_cache (K : List Int) (D : Dv) (k : Int) : (keepAll D K).cache k = if k ∈ K then none else D.cache k := by
  induction K generalizing D with
  | nil => rfl
  | cons n K ih =>
    rw [keepAll_cons, ih, keepStep_cache]
    by_cases h1 : k ∈ K
    · rw [if_pos h1, if_pos (List.mem_cons_of_mem _ h1)]
    · rw [if_neg h1]
      by_cases h2 : k = n
      · rw [if_pos h2, if_pos (by rw [h2]; exact List.mem_cons_self)]
      · rw [if_neg h2, if_neg (by simp [h1, h2])]
theorem keepAll_last (K : List Int) (D : Dv) (k : Int) : (keepAll D K).last k = if k ∈ K then joinM D.cache D.last k else D.last k := by
  induction K generalizing D with
  | nil => rfl
  | cons n K ih =>
    have e : joinM (keepStep D n).cache (keepStep D n).last k = joinM D.cache D.last k := by
      conv => lhs; unfold joinM
      rw [keepStep_cache, keepStep_last]
      by_cases h : k = n
      · simp [h]
      · simp only [if_neg h]; rfl
    rw [keepAll_cons, ih, e, keepStep_last]
    by_cases h1 : k ∈ K
    · rw [if_pos h1, if_pos (List.mem_cons_of_mem _ h1)]
    · rw [if_neg h1]
      by_cases h2 : k = n
      · rw [if_pos h2, if_pos (by rw [h2]; exact List.mem_cons_self)]
      · rw [if_neg h2, if_neg (by simp [h1, h2])]

/-- A restart that keeps all that is cached is a sync, and the power is back. -/
theorem restart_all {D : Dv} {K : List Int} (hK : ∀ k, (D.cache k).isSome = true → k ∈ K) (t c : Int) :
    restartD D K t c = { n := D.n, last := joinM D.cache D.last, cache := fun _ => none, off := false, fuse := -1 } := by
  have hc : ∀ k, (keepAll D K).cache k = none := fun k => by
    rw [keepAll_cache]
    by_cases h : k ∈ K
    · rw [if_pos h]
    · rw [if_neg h]
      cases hd : D.cache k with
      | none => rfl
      | some l => exact absurd (hK k (by rw [hd]; rfl)) h
  have hl : (keepAll D K).last = joinM D.cache D.last := by
    funext k
    rw [keepAll_last]
    by_cases h : k ∈ K
    · rw [if_pos h]
    · rw [if_neg h]
      cases hd : D.cache k with
      | none => unfold joinM; rw [hd]
      | some l => exact absurd (hK k (by rw [hd]; rfl)) h
  unfold restartD tornD
  rw [hc]
  unfold wakeD
  rw [hl, keepAll_n]

theorem restart_quiet (n : Nat) (last : Int → Option (List UInt8)) (K : List Int) (t c : Int) :
    restartD { n := n, last := last, cache := fun _ => none, off := false, fuse := -1 } K t c = { n := n, last := last, cache := fun _ => none, off := false, fuse := -1 } :=
  restart_all (fun _ h => by cases h) t c

def moreD (D : Dv) (c : CallD) : Dv := if c.kind = 2 ∧ c.b.length ≤ 1024 then writeD D c.n c.b else D
theorem Calm.writeAny {D : Dv} (h : Calm D) (k : Int) (l : List UInt8) : Calm (writeD D k l) ∧ (writeD D k l).last = D.last ∧ (writeD D k l).n = D.n := by
  unfold writeD
  split
  · rw [h.actE, if_pos rfl, h.actD]
    exact ⟨⟨h.off, h.fuse⟩, rfl, rfl⟩
  · exact ⟨h, rfl, rfl⟩
theorem Calm.more {D : Dv} (h : Calm D) (c : CallD) : Calm (moreD D c) ∧ (moreD D c).last = D.last ∧ (moreD D c).n = D.n := by
  unfold moreD
  split
  · exact h.writeAny _ _
  · exact ⟨h, rfl, rfl⟩
theorem Calm.mores {D : Dv} (h : Calm D) (cs : List CallD) : Calm (cs.foldl moreD D) ∧ (cs.foldl moreD D).last = D.last ∧ (cs.foldl moreD D).n = D.n := by
  induction cs generalizing D with
  | nil => exact ⟨h, rfl, rfl⟩
  | cons c cs ih =>
    have h1 := h.more c
    have h2 := ih h1.1
    exact ⟨h2.1, h2.2.1.trans h1.2.1, h2.2.2.trans h1.2.2⟩
theorem moreD_step {D : Dv} {cs : List CallD} {k : Nat} (hk : k < cs.length) : (cs.take (k + 1)).foldl moreD D = moreD ((cs.take k).foldl moreD D) cs[k] := by
  rw [List.take_succ_eq_append_getElem hk, List.foldl_append]; rfl

theorem mem_cachedL {D : Dv} {t : Int × List UInt8} (h : t ∈ cachedL D) : D.cache t.1 = some t.2 := by
  unfold cachedL keptL at h
  obtain ⟨k, _, hk⟩ := List.mem_filterMap.1 h
  unfold keepSel at hk
  cases hc : D.cache k with
  | none => rw [hc] at hk; cases hk
  | some l => rw [hc] at hk; simp at hk; subst hk; exact hc
theorem cachedL_all {D : Dv} (hf : D.fine) {k : Int} (h : (D.cache k).isSome = true) : k ∈ (cachedL D).map (·.1) := by
  obtain ⟨l, hl⟩ := Option.isSome_iff_exists.1 h
  refine List.mem_map.2 ⟨(k, l), ?_, rfl⟩
  unfold cachedL keptL
  refine List.mem_filterMap.2 ⟨k, (mem_keysOf (fun k l h => ⟨(hf.keysC k l h).1, (hf.keysC k l h).2.1⟩)).2 h, ?_⟩
  unfold keepSel
  rw [hl]
  rfl

theorem lasts_plain {D : Dv} (hf : D.fine) (t c : Int) (keep : List Int) :
    ∃ E : Dv, restartD D ((cachedL D).map (·.1)) t c = E ∧ restartD E keep t c = E ∧ (cachedL E).length = 0 ∧ (lastingL E).length ≤ 4096 ∧ (∀ u ∈ cachedL D, useE E u.1 0 = 0 ∧ E.bytes u.1 = u.2) := by
  refine ⟨_, restart_all (fun k h => cachedL_all hf h) t c, restart_quiet _ _ _ _ _, by rw [cachedL_none (fun _ => rfl)]; rfl, keptL_length _ _ _ hf.n4, fun u hu => ?_⟩
  have hc := mem_cachedL hu
  have hk := hf.keysC _ _ hc
  refine ⟨?_, ?_⟩
  · unfold useE
    rw [if_neg (by simp), if_neg (by have := hk.1; have := hk.2.1; simp only; omega)]
  · refine (bytes_joined D u.1).trans ?_
    unfold Dv.bytes
    rw [hc]; rfl
end Go.Proofs.Ytgockpichhgijaa

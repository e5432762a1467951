/- The document's device: Restart, the plain law. -/
import Derived.Test.YtgockpichhgijaaRef4G
namespace Go.Proofs.Ytgockpichhgijaa
open Go.RowKit Go.MapKept

def tornB (D : Dv) (l : List UInt8) (j cut : Int) : List UInt8 := l.take (clampN cut) ++ ((D.last j).getD zeros).drop (clampN cut)
def rstLast (D : Dv) (keep : List Int) (torn cut j : Int) : Option (List UInt8) :=
  match D.cache j with
  | some l => if j ∈ keep then some l else if j = torn then some (tornB D l j cut) else D.last j
  | none => D.last j
/-- What a device is, when its first k sectors are restarted. -/
def rstUp (D : Dv) (keep : List Int) (torn cut : Int) (k : Nat) : Dv :=
  { D with last := fun j => if j ∈ upto k then rstLast D keep torn cut j else D.last j, cache := fun j => if j ∈ upto k then none else D.cache j }

theorem clampN_le (cut : Int) : clampN cut ≤ 1024 := by unfold clampN; omega
theorem tornB_length {D : Dv} (hf : D.fine) {l : List UInt8} (hl : l.length = 1024) (j cut : Int) : (tornB D l j cut).length = 1024 := by
  have h1 := clampN_le cut
  have h2 : ((D.last j).getD zeros).length = 1024 := by
    cases hd : D.last j with
    | none => exact zeros_length
    | some x => exact (hf.keysL _ _ hd).2.2
  unfold tornB
  rw [List.length_append, List.length_take, List.length_drop, h2, hl]
  omega
theorem mem_upto_succ {j : Int} {k : Nat} : j ∈ upto (k + 1) ↔ j ∈ upto k ∨ j = k := by rw [upto_succ, List.mem_append, List.mem_singleton]
theorem rstUp_zero (D : Dv) (keep : List Int) (torn cut : Int) : rstUp D keep torn cut 0 = D := by unfold rstUp upto; simp
theorem rstUp_at (D : Dv) (keep : List Int) (torn cut : Int) (k : Nat) : (rstUp D keep torn cut k).cache k = D.cache k ∧ (rstUp D keep torn cut k).last k = D.last k := by
  unfold rstUp
  simp only [if_neg (not_upto k)]
  exact ⟨trivial, trivial⟩
theorem rstUp_succ {D : Dv} {keep : List Int} {torn cut : Int} {k : Nat} :
    rstUp D keep torn cut (k + 1) = { rstUp D keep torn cut k with last := upd (rstUp D keep torn cut k).last k (rstLast D keep torn cut k), cache := upd (rstUp D keep torn cut k).cache k none } := by
  unfold rstUp
  congr 1 <;> funext j <;> by_cases e : j = (k : Int)
  · subst e; rw [upd_same, if_pos (mem_upto_succ.2 (.inr rfl))]
  · rw [upd_ne _ _ e]
    simp only
    by_cases hj : j ∈ upto k
    · rw [if_pos hj, if_pos (mem_upto_succ.2 (.inl hj))]
    · rw [if_neg hj, if_neg (fun h => (mem_upto_succ.1 h).elim hj e)]
  · subst e; rw [upd_same, if_pos (mem_upto_succ.2 (.inr rfl))]
  · rw [upd_ne _ _ e]
    simp only
    by_cases hj : j ∈ upto k
    · rw [if_pos hj, if_pos (mem_upto_succ.2 (.inl hj))]
    · rw [if_neg hj, if_neg (fun h => (mem_upto_succ.1 h).elim hj e)]
theorem upd_back {g : Int → Option (List UInt8)} {k : Int} {x : Option (List UInt8)} (h : g k = x) : upd g k x = g := by
  funext j
  by_cases e : j = k
  · subst e; rw [upd_same, h]
  · rw [upd_ne _ _ e]
/-- A round that keeps nothing. -/
theorem rstUp_none {D : Dv} {keep : List Int} {torn cut : Int} {k : Nat} (h : rstLast D keep torn cut k = D.last k) :
    rstUp D keep torn cut (k + 1) = { rstUp D keep torn cut k with cache := upd (rstUp D keep torn cut k).cache k none } := by
  rw [rstUp_succ, h, upd_back (rstUp_at D keep torn cut k).2]
theorem keepAll_fuse (K : List Int) (D : Dv) : (keepAll D K).off = D.off ∧ (keepAll D K).fuse = D.fuse := by
  induction K generalizing D with
  | nil => exact ⟨rfl, rfl⟩
  | cons n K ih =>
    rw [keepAll_cons]
    have h1 : (keepStep D n).off = D.off ∧ (keepStep D n).fuse = D.fuse := by unfold keepStep; split <;> exact ⟨rfl, rfl⟩
    exact ⟨(ih _).1.trans h1.1, (ih _).2.trans h1.2⟩
theorem rst_all {D : Dv} (hf : D.fine) (keep : List Int) (torn cut : Int) : wakeD (rstUp D keep torn cut D.n) = restartD D keep torn cut := by
  have hm : ∀ k, k ∉ upto D.n → D.cache k = none := fun k h => by
    cases hc : D.cache k with
    | none => rfl
    | some l =>
      have := hf.keysC k l hc
      exfalso
      apply h
      unfold upto
      exact List.mem_map.2 ⟨k.toNat, List.mem_range.2 (by omega), by show ((k.toNat : Nat) : Int) = k; omega⟩
  have hl : (rstUp D keep torn cut D.n).last = (tornD (keepAll D keep) torn cut).last := by
    funext j
    have e0 : (rstUp D keep torn cut D.n).last j = rstLast D keep torn cut j := by
      unfold rstUp
      simp only
      by_cases hj : j ∈ upto D.n
      · rw [if_pos hj]
      · rw [if_neg hj]; unfold rstLast; rw [hm j hj]
    rw [e0]
    unfold tornD
    rw [keepAll_cache]
    by_cases ht : torn ∈ keep
    · rw [if_pos ht]
      simp only
      rw [keepAll_last]
      unfold rstLast joinM
      cases hc : D.cache j with
      | none => by_cases hj : j ∈ keep <;> simp [hj, hc]
      | some l =>
        by_cases hj : j ∈ keep
        · simp [hj, hc]
        · have : j ≠ torn := fun e => hj (e ▸ ht)
          simp [hj, this]
    · rw [if_neg ht]
      cases hct : D.cache torn with
      | none =>
        simp only
        rw [keepAll_last]
        unfold rstLast joinM
        cases hc : D.cache j with
        | none => by_cases hj : j ∈ keep <;> simp [hj, hc]
        | some l =>
          by_cases hj : j ∈ keep
          · simp [hj, hc]
          · have : j ≠ torn := fun e => by rw [e, hct] at hc; cases hc
            simp [hj, this]
      | some l' =>
        simp only
        by_cases e : j = torn
        · subst e
          rw [upd_same, keepAll_last, if_neg ht]
          unfold rstLast tornB
          rw [hct]
          simp [ht]
        · rw [upd_ne _ _ e, keepAll_last]
          unfold rstLast joinM
          cases hc : D.cache j with
          | none => by_cases hj : j ∈ keep <;> simp [hj, hc]
          | some l => by_cases hj : j ∈ keep <;> simp [hj, hc, e]
  have hn : (tornD (keepAll D keep) torn cut).n = D.n := by
    have := keepAll_n keep D
    unfold tornD
    split <;> exact this
  unfold restartD wakeD
  rw [hl, hn]
  rfl
end Go.Proofs.Ytgockpichhgijaa

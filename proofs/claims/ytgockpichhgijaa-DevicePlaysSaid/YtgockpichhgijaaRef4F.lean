/- The document's device: Sync. -/
import Derived.Test.YtgockpichhgijaaRef4E
namespace Go.Proofs.Ytgockpichhgijaa
open Go.RowKit Go.MapKept

/-- A sector's content lasts, and is held no more. -/
theorem RefAt.toLast {w w3 : World} {r LB CB IB : Nat} {D : Dv} (h : RefAt w r LB CB IB D) {k : Nat} (hk : k < D.n) {v : Value} {l : List UInt8} (hf : Fr [] w w3) (hv : Bytes [r, LB, CB, IB] w3 v l) (hl : l.length = 1024) :
    RefAt ((w3.setCell ⟨LB, k, none⟩ v).setCell ⟨IB, k, none⟩ (.bool false)) r LB CB IB { D with last := upd D.last k (some l), cache := upd D.cache k none } ∧ Fr [LB, IB] w ((w3.setCell ⟨LB, k, none⟩ v).setCell ⟨IB, k, none⟩ (.bool false)) := by
  have h3 := h.kept hf
  obtain ⟨n1, n2, n3, n4, n5, n6⟩ := h.nes
  obtain ⟨left, h1, h1'⟩ := h3.blk
  obtain ⟨VL, h2, h2'⟩ := h3.lastB
  obtain ⟨VC, h4, h4'⟩ := h3.cacheB
  have hf1 := Fr.setCell w3 ⟨LB, k, none⟩ v
  have hf2 := Fr.setCell (w3.setCell ⟨LB, k, none⟩ v) ⟨IB, k, none⟩ (.bool false)
  have hfr : Fr [LB, IB] w3 ((w3.setCell ⟨LB, k, none⟩ v).setCell ⟨IB, k, none⟩ (.bool false)) := (hf1.mono (by simp)).trans (hf2.mono (by simp))
  have hC := hf2.heap (blk_set h2 k v) (by simp; omega)
  have hI := blk_set (hf1.heap h3.isB (by simp; omega)) k (.bool false)
  rw [rowOf_set] at hC hI
  have hm : ∀ x, x ∈ [LB, IB] → x < w3.heap.size → x ∈ [r, LB, CB, IB] := fun x hx _ => by simp only [List.mem_cons, List.not_mem_nil, or_false] at hx ⊢; omega
  refine ⟨⟨⟨left, hfr.heap h1 (by simp; omega), h1'⟩, ⟨_, hC, fun i hi => ?_⟩, ⟨VC, hfr.heap h4 (by simp; omega), fun i l' hi hl' => ?_⟩, ?_, h.ne, ⟨h.fine.n2, h.fine.n4, upd_keys h.fine.keysL (by omega) (by omega) hl, ?_, h.fine.fuse1, h.fine.fuse2⟩, fun i hi => by obtain ⟨a, x, y, hc⟩ := h3.cacheS i hi; exact ⟨a, x, y, hfr.cellSome hc (by simp; omega)⟩⟩, (hf.nil (S := [LB, IB])).trans hfr⟩
  · by_cases e : i = k
    · subst e
      rw [if_pos rfl]
      simp only [upd_same, Option.getD_some]
      exact hv.kept (hfr.mono hm)
    · rw [if_neg e]
      simp only []
      rw [upd_ne _ _ (by omega)]
      exact (h2' i hi).kept (hfr.mono hm)
  · simp only [] at hl'
    by_cases e : i = k
    · subst e; rw [upd_same] at hl'; cases hl'
    · rw [upd_ne _ _ (by omega)] at hl'
      exact (h4' i l' hi hl').kept (hfr.mono hm)
  · rw [hI]
    congr 2
    refine rowOf_congr (fun i hi => ?_)
    by_cases e : i = k
    · subst e; simp [upd_same]
    · rw [if_neg e]
      simp only []
      rw [upd_ne _ _ (by omega)]
  · intro j l' hj
    simp only [] at hj
    by_cases e : j = k
    · subst e; rw [upd_same] at hj; cases hj
    · rw [upd_ne _ _ e] at hj; exact h.fine.keysC j l' hj

/-- A sector is held no more. -/
theorem RefAt.toNone {w : World} {r LB CB IB : Nat} {D : Dv} (h : RefAt w r LB CB IB D) (k : Nat) :
    RefAt (w.setCell ⟨IB, k, none⟩ (.bool false)) r LB CB IB { D with cache := upd D.cache k none } ∧ Fr [LB, IB] w (w.setCell ⟨IB, k, none⟩ (.bool false)) := by
  obtain ⟨n1, n2, n3, n4, n5, n6⟩ := h.nes
  obtain ⟨left, h1, h1'⟩ := h.blk
  obtain ⟨VL, h2, h2'⟩ := h.lastB
  obtain ⟨VC, h4, h4'⟩ := h.cacheB
  have hf1 := Fr.setCell w ⟨IB, k, none⟩ (.bool false)
  have hI := blk_set h.isB k (.bool false)
  rw [rowOf_set] at hI
  refine ⟨⟨⟨left, hf1.heap h1 (by simp; omega), h1'⟩, ⟨VL, hf1.heap h2 (by simp; omega), fun i hi => (h2' i hi).kept (hf1.mono (by simp))⟩, ⟨VC, hf1.heap h4 (by simp; omega), fun i l' hi hl' => ?_⟩, ?_, h.ne, ⟨h.fine.n2, h.fine.n4, h.fine.keysL, ?_, h.fine.fuse1, h.fine.fuse2⟩, fun i hi => by obtain ⟨a, x, y, hc⟩ := h.cacheS i hi; exact ⟨a, x, y, hf1.cellSome hc (by simp; omega)⟩⟩, hf1.mono (by simp)⟩
  · simp only [] at hl'
    by_cases e : i = k
    · subst e; rw [upd_same] at hl'; cases hl'
    · rw [upd_ne _ _ (by omega)] at hl'
      exact (h4' i l' hi hl').kept (hf1.mono (by simp))
  · rw [hI]
    congr 2
    refine rowOf_congr (fun i hi => ?_)
    by_cases e : i = k
    · subst e; simp [upd_same]
    · rw [if_neg e]
      simp only []
      rw [upd_ne _ _ (by omega)]
  · intro j l' hj
    simp only [] at hj
    by_cases e : j = k
    · subst e; rw [upd_same] at hj; cases hj
    · rw [upd_ne _ _ e] at hj; exact h.fine.keysC j l' hj

def upto (k : Nat) : List Int := (List.range k).map Int.ofNat
theorem upto_succ (k : Nat) : upto (k + 1) = upto k ++ [(k : Int)] := by unfold upto; rw [List.range_succ, List.map_append]; rfl
theorem not_upto (k : Nat) : (k : Int) ∉ upto k := by unfold upto; simp; intro x hx e; have : x = k := by exact_mod_cast e
                                                      omega
theorem upd_none {g : Int → Option (List UInt8)} {k : Int} (h : g k = none) : upd g k none = g := by
  funext j
  by_cases e : j = k
  · subst e; rw [upd_same, h]
  · rw [upd_ne _ _ e]
theorem sync_all {D : Dv} (hf : D.fine) : keepAll D (upto D.n) = { D with last := joinM D.cache D.last, cache := fun _ => none } := by
  have hm : ∀ k, (D.cache k).isSome = true → k ∈ upto D.n := fun k h => by
    obtain ⟨l, hl⟩ := Option.isSome_iff_exists.1 h
    have := hf.keysC k l hl
    unfold upto
    exact List.mem_map.2 ⟨k.toNat, List.mem_range.2 (by omega), by show ((k.toNat : Nat) : Int) = k; omega⟩
  have e1 : (keepAll D (upto D.n)).cache = fun _ => none := by
    funext k
    rw [keepAll_cache]
    by_cases h : k ∈ upto D.n
    · rw [if_pos h]
    · rw [if_neg h]
      cases hd : D.cache k with
      | none => rfl
      | some l => exact absurd (hm k (by rw [hd]; rfl)) h
  have e2 : (keepAll D (upto D.n)).last = joinM D.cache D.last := by
    funext k
    rw [keepAll_last]
    by_cases h : k ∈ upto D.n
    · rw [if_pos h]
    · rw [if_neg h]
      cases hd : D.cache k with
      | none => unfold joinM; rw [hd]
      | some l => exact absurd (hm k (by rw [hd]; rfl)) h
  have e3 : (keepAll D (upto D.n)).off = D.off ∧ (keepAll D (upto D.n)).fuse = D.fuse := by
    generalize upto D.n = K
    clear hm e1 e2 hf
    induction K generalizing D with
    | nil => exact ⟨rfl, rfl⟩
    | cons n K ih =>
      rw [keepAll_cons]
      have h1 : (keepStep D n).off = D.off ∧ (keepStep D n).fuse = D.fuse := by unfold keepStep; split <;> exact ⟨rfl, rfl⟩
      exact ⟨ih.1.trans h1.1, ih.2.trans h1.2⟩
  have e4 := keepAll_n (upto D.n) D
  generalize keepAll D (upto D.n) = E at *
  obtain ⟨a1, a2, a3, a4, a5⟩ := E
  simp only at e1 e2 e3 e4
  obtain ⟨e3, e5⟩ := e3
  subst e1 e2 e3 e4 e5
  rfl
end Go.Proofs.Ytgockpichhgijaa

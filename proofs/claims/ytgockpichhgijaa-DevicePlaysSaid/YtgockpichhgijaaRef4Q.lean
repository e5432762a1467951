/- A device and the document's device in one memory: what is done to the one leaves the other. -/
import Derived.Test.YtgockpichhgijaaRef4K
import Derived.Test.YtgockpichhgijaaRef4P
namespace Go.Proofs.Ytgockpichhgijaa
open Go.RowKit Go.MapKept

theorem BM.otherRef {S : List Nat} {w : World} {m : Nat} {g : Int → Option (List UInt8)} (h : BM S w m g) {r LB CB IB : Nat} {D : Dv} (hd : RefAt w r LB CB IB D) : BM (r :: LB :: CB :: IB :: S) w m g := by
  obtain ⟨f, hm, hg⟩ := h
  exact ⟨f, hm, fun k => ⟨(hg k).1, fun l hl => by obtain ⟨v, hv, hb⟩ := (hg k).2 l hl; exact ⟨v, hv, hd.notBytes hb⟩⟩⟩
theorem BM.heapMap {S : List Nat} {w : World} {m : Nat} {g : Int → Option (List UInt8)} (h : BM S w m g) : ∃ es c, w.heap[m]? = some (.map es c) := by
  obtain ⟨f, ⟨es, clock, hb, _⟩, _⟩ := h
  exact ⟨es, clock, hb⟩

/-- The blocks of a device are none of those of the document's one. -/
theorem DevAt.apart {w : World} {b ml mc r LB CB IB : Nat} {D E : Dv} (h : DevAt w b ml mc D) (h' : RefAt w r LB CB IB E) : ∀ x ∈ [b, ml, mc], x ∉ [r, LB, CB, IB] := by
  obtain ⟨left, h1, _⟩ := h'.blk
  obtain ⟨VL, h2, _⟩ := h'.lastB
  obtain ⟨VC, h3, _⟩ := h'.cacheB
  have h4 := h'.isB
  have k1 := h.blk
  obtain ⟨_, _, k2⟩ := h.lastM.heapMap
  obtain ⟨_, _, k3⟩ := h.cacheM.heapMap
  intro x hx hy
  simp only [List.mem_cons, List.not_mem_nil, or_false] at hx hy
  rcases hx with rfl | rfl | rfl <;> rcases hy with rfl | rfl | rfl | rfl
  all_goals first
    | (rw [k1] at h1; simp at h1; done) | (rw [k1] at h2; simp at h2; done) | (rw [k1] at h3; simp at h3; done) | (rw [k1] at h4; simp at h4; done)
    | (rw [k2] at h1; simp at h1; done) | (rw [k2] at h2; simp at h2; done) | (rw [k2] at h3; simp at h3; done) | (rw [k2] at h4; simp at h4; done)
    | (rw [k3] at h1; simp at h1; done) | (rw [k3] at h2; simp at h2; done) | (rw [k3] at h3; simp at h3; done) | (rw [k3] at h4; simp at h4; done)

theorem DevAt.otherRef {w w' : World} {b ml mc r LB CB IB : Nat} {D E : Dv} (h : DevAt w b ml mc D) (h' : RefAt w r LB CB IB E) (hf : Fr [r, LB, CB, IB] w w') : DevAt w' b ml mc D := by
  have hl := h.lt
  have hn := h.apart h'
  have hS : Fr (r :: LB :: CB :: IB :: [b, ml, mc]) w w' := hf.mono (fun x hx _ => by
    simp only [List.mem_cons, List.not_mem_nil, or_false] at hx ⊢
    omega)
  refine ⟨hf.heap h.blk (hn b (by simp)), ?_, ?_, h.ne, h.fine⟩
  · have := (h.lastM.otherRef h').kept hS (hf.block _ hl.2.1 (hn ml (by simp)))
    exact this.more (fun x hx => .inl (by simp only [List.mem_cons] at hx ⊢; exact .inr (.inr (.inr (.inr hx)))))
  · have := (h.cacheM.otherRef h').kept hS (hf.block _ hl.2.2 (hn mc (by simp)))
    exact this.more (fun x hx => .inl (by simp only [List.mem_cons] at hx ⊢; exact .inr (.inr (.inr (.inr hx)))))

theorem RefAt.otherDev {w w' : World} {b ml mc r LB CB IB : Nat} {D E : Dv} (h : RefAt w r LB CB IB E) (h' : DevAt w b ml mc D) (hf : Fr [b, ml, mc] w w') : RefAt w' r LB CB IB E := by
  have hn := h'.apart h
  have hn' : ∀ x ∈ [r, LB, CB, IB], x ∉ [b, ml, mc] := fun x hx hy => hn x hy hx
  have hS : Fr (b :: ml :: mc :: [r, LB, CB, IB]) w w' := hf.mono (fun x hx _ => by
    simp only [List.mem_cons, List.not_mem_nil, or_false] at hx ⊢
    omega)
  have hb : ∀ v l, Bytes [r, LB, CB, IB] w v l → Bytes [r, LB, CB, IB] w' v l := fun v l hv => ((h'.notBytes hv).kept hS).mono (by intro x hx; simp only [List.mem_cons] at hx ⊢; exact .inr (.inr (.inr hx)))
  obtain ⟨left, h1, h1'⟩ := h.blk
  obtain ⟨VL, h2, h2'⟩ := h.lastB
  obtain ⟨VC, h3, h3'⟩ := h.cacheB
  exact ⟨⟨left, hf.heap h1 (hn' r (by simp)), h1'⟩, ⟨VL, hf.heap h2 (hn' LB (by simp)), fun i hi => hb _ _ (h2' i hi)⟩, ⟨VC, hf.heap h3 (hn' CB (by simp)), fun i l hi hl => hb _ _ (h3' i l hi hl)⟩, hf.heap h.isB (hn' IB (by simp)), h.ne, h.fine,
    fun i hi => by obtain ⟨a, x, y, hc⟩ := h.cacheS i hi; exact ⟨a, x, y, hf.cellSome hc (hn' CB (by simp))⟩⟩

/-- Both are the device D. -/
structure Two (w : World) (b ml mc r LB CB IB : Nat) (D : Dv) : Prop where
  dev : DevAt w b ml mc D
  ref : RefAt w r LB CB IB D
abbrev twoS (b ml mc r LB CB IB : Nat) : List Nat := [b, ml, mc, r, LB, CB, IB]
theorem Two.kept {w w' : World} {b ml mc r LB CB IB : Nat} {D : Dv} (h : Two w b ml mc r LB CB IB D) (hf : Fr [] w w') : Two w' b ml mc r LB CB IB D := ⟨h.dev.kept hf, h.ref.kept hf⟩
end Go.Proofs.Ytgockpichhgijaa

/- A device without a fuse, that is on; two devices in one memory. -/
import Derived.Test.YtgockpichhgijaaSame
namespace Go.Proofs.Ytgockpichhgijaa
open Go.RowKit Go.MapKept

structure Calm (D : Dv) : Prop where
  off : D.off = false
  fuse : D.fuse = -1

theorem Calm.new (n : Nat) : Calm (Dv.new n) := ⟨rfl, rfl⟩
theorem Calm.actE {D : Dv} (h : Calm D) : actE D = 0 := by unfold Proofs.Ytgockpichhgijaa.actE; rw [h.fuse]; rfl
theorem Calm.actD {D : Dv} (h : Calm D) : actD D = D := by
  unfold Proofs.Ytgockpichhgijaa.actD
  rw [if_neg (by rw [h.fuse]; omega), if_neg (by rw [h.fuse]; omega)]
theorem Calm.useE {D : Dv} (h : Calm D) {k : Int} (h0 : 0 ≤ k) (h1 : k < D.n) {n : Nat} (hn : n ≤ 1024) : useE D k n = 0 := by
  unfold Proofs.Ytgockpichhgijaa.useE
  rw [h.off, if_neg (by simp), if_neg (by omega)]
theorem Calm.write {D : Dv} (h : Calm D) {k : Int} (h0 : 0 ≤ k) (h1 : k < D.n) {l : List UInt8} (hl : l.length ≤ 1024) :
    writeE D k l = 0 ∧ writeD D k l = { D with cache := upd D.cache k (some (pad l)) } ∧ Calm { D with cache := upd D.cache k (some (pad l)) } := by
  unfold writeE writeD
  rw [h.useE h0 h1 hl, if_pos rfl, if_pos rfl, h.actE, if_pos rfl, h.actD]
  exact ⟨rfl, rfl, h.off, h.fuse⟩
theorem Calm.sync {D : Dv} (h : Calm D) : syncE D = 0 ∧ syncD D = { D with last := joinM D.cache D.last, cache := fun _ => none } ∧ Calm { D with last := joinM D.cache D.last, cache := fun _ => none } := by
  unfold syncE syncD
  have ho : ¬ D.off = true := by rw [h.off]; simp
  rw [if_neg ho, if_neg ho, h.actE, if_pos rfl, h.actD]
  exact ⟨rfl, rfl, h.off, h.fuse⟩
theorem Calm.wake (D : Dv) : Calm (wakeD D) := ⟨rfl, rfl⟩

/-- Bytes lie in none of a device's own blocks. -/
theorem DevAt.notBytes {w : World} {b ml mc : Nat} {D : Dv} (h : DevAt w b ml mc D) {S : List Nat} {v : Value} {l : List UInt8} (hv : Bytes S w v l) : Bytes (b :: ml :: mc :: S) w v l := by
  rcases hv with hv | ⟨B, off, cap, rfl, hc, hs, hcs⟩
  · exact .inl hv
  · refine .inr ⟨B, off, cap, rfl, hc, ?_, hcs⟩
    cases l with
    | nil => exact .inl rfl
    | cons x l =>
      right
      have hx := hcs 0 (byteV x) rfl
      have hB : B ∉ S := by rcases hs with hs | hs; · cases hs
                            · exact hs
      intro hm
      rcases List.mem_cons.1 hm with rfl | hm
      · rw [blk_cell h.blk] at hx
        unfold devCells byteV at hx
        rcases off with _ | _ | _ | _ | _ | off <;> simp at hx
      · rcases List.mem_cons.1 hm with rfl | hm
        · obtain ⟨f, ⟨es, clock, hb, _⟩, _⟩ := h.lastM
          simp [World.cell?, hb] at hx
        · rcases List.mem_cons.1 hm with rfl | hm
          · obtain ⟨f, ⟨es, clock, hb, _⟩, _⟩ := h.cacheM
            simp [World.cell?, hb] at hx
          · exact hB hm

theorem BM.other {S : List Nat} {w : World} {r : Nat} {g : Int → Option (List UInt8)} (h : BM S w r g) {b ml mc : Nat} {D : Dv} (hd : DevAt w b ml mc D) : BM (b :: ml :: mc :: S) w r g := by
  obtain ⟨f, hm, hg⟩ := h
  exact ⟨f, hm, fun k => ⟨(hg k).1, fun l hl => by obtain ⟨v, hv, hb⟩ := (hg k).2 l hl; exact ⟨v, hv, hd.notBytes hb⟩⟩⟩

/-- What is done to one device leaves another one. -/
theorem DevAt.other {w w' : World} {b ml mc b' ml' mc' : Nat} {D D' : Dv} (h : DevAt w b ml mc D) (h' : DevAt w b' ml' mc' D') (hn : ∀ x ∈ [b, ml, mc], x ∉ [b', ml', mc']) (hf : Fr [b', ml', mc'] w w') : DevAt w' b ml mc D := by
  have hl := h.lt
  have hS : Fr (b' :: ml' :: mc' :: [b, ml, mc]) w w' := hf.mono (fun x hx _ => by
    simp only [List.mem_cons, List.not_mem_nil, or_false] at hx ⊢
    rcases hx with h | h | h
    · exact .inl h
    · exact .inr (.inl h)
    · exact .inr (.inr (.inl h)))
  refine ⟨hf.heap h.blk (hn b (by simp)), ?_, ?_, h.ne, h.fine⟩
  · have := (h.lastM.other h').kept hS (hf.block _ hl.2.1 (hn ml (by simp)))
    exact this.more (fun x hx => .inl (by simp only [List.mem_cons] at hx ⊢; exact .inr (.inr (.inr hx))))
  · have := (h.cacheM.other h').kept hS (hf.block _ hl.2.2 (hn mc (by simp)))
    exact this.more (fun x hx => .inl (by simp only [List.mem_cons] at hx ⊢; exact .inr (.inr (.inr hx))))
end Go.Proofs.Ytgockpichhgijaa

/- What a device is, and how it lies in memory; use, act, New, Fuse, Off, Sectors. -/
import Derived.Test.YtgockpichhgijaaDevA
namespace Go.Proofs.Ytgockpichhgijaa
open Go.RowKit Go.MapKept

structure Dv where
  n : Nat
  last : Int → Option (List UInt8)
  cache : Int → Option (List UInt8)
  off : Bool
  fuse : Int

/-- Block r is a map of numbers to bytes: g. -/
def BM (S : List Nat) (w : World) (r : Nat) (g : Int → Option (List UInt8)) : Prop :=
  ∃ f, MapG (Value.int .i64) w r f ∧ ∀ k, (g k = none → f k = none) ∧ ∀ l, g k = some l → ∃ v, f k = some v ∧ Bytes S w v l

structure Dv.fine (D : Dv) : Prop where
  n2 : 2 ≤ D.n
  n4 : D.n ≤ 4096
  keysL : ∀ k l, D.last k = some l → 0 ≤ k ∧ k < D.n ∧ l.length = 1024
  keysC : ∀ k l, D.cache k = some l → 0 ≤ k ∧ k < D.n ∧ l.length = 1024
  fuse1 : -1 ≤ D.fuse
  fuse2 : D.fuse ≤ 9223372036854775807

def devCells (D : Dv) (ml mc : Nat) : Array Value := #[.int .i64 D.n, .map (some ml), .map (some mc), .bool D.off, .int .i64 D.fuse]

structure DevAt (w : World) (b ml mc : Nat) (D : Dv) : Prop where
  blk : w.heap[b]? = some (.cells (devCells D ml mc) 60 (0, 0))
  lastM : BM [b, ml, mc] w ml D.last
  cacheM : BM [b, ml, mc] w mc D.cache
  ne : ml ≠ mc
  fine : D.fine

abbrev devP (b : Nat) : Value := .pointer (some ⟨b, 0, none⟩)

theorem BM.kept {S : List Nat} {w w' : World} {r : Nat} {g : Int → Option (List UInt8)} (h : BM S w r g) (hf : Fr S w w') (hr : w'.heap[r]? = w.heap[r]?) : BM S w' r g := by
  obtain ⟨f, ⟨es, clock, hb, rest⟩, hg⟩ := h
  exact ⟨f, ⟨es, clock, hr.trans hb, rest⟩, fun k => ⟨(hg k).1, fun l hl => by obtain ⟨v, hv, hb⟩ := (hg k).2 l hl; exact ⟨v, hv, hb.kept hf⟩⟩⟩
theorem BM.more {S S' : List Nat} {w : World} {r : Nat} {g : Int → Option (List UInt8)} (h : BM S w r g) (hs : ∀ x, x ∈ S' → x ∈ S ∨ w.heap.size ≤ x) : BM S' w r g := by
  obtain ⟨f, hm, hg⟩ := h
  exact ⟨f, hm, fun k => ⟨(hg k).1, fun l hl => by obtain ⟨v, hv, hb⟩ := (hg k).2 l hl; exact ⟨v, hv, hb.more hs⟩⟩⟩
theorem BM.lt {S : List Nat} {w : World} {r : Nat} {g : Int → Option (List UInt8)} (h : BM S w r g) : r < w.heap.size := by
  obtain ⟨f, hm, _⟩ := h; exact hm.lt

theorem DevAt.b_ne {w : World} {b ml mc : Nat} {D : Dv} (h : DevAt w b ml mc D) : b ≠ ml ∧ b ≠ mc := by
  obtain ⟨f, hm, _⟩ := h.lastM
  obtain ⟨g, hn, _⟩ := h.cacheM
  exact ⟨hm.notCells h.blk, hn.notCells h.blk⟩
theorem DevAt.lt {w : World} {b ml mc : Nat} {D : Dv} (h : DevAt w b ml mc D) : b < w.heap.size ∧ ml < w.heap.size ∧ mc < w.heap.size :=
  ⟨lt_of_heap h.blk, h.lastM.lt, h.cacheM.lt⟩
/-- A device that nothing was done to is what it was. -/
theorem DevAt.kept {w w' : World} {b ml mc : Nat} {D : Dv} (h : DevAt w b ml mc D) (hf : Fr [] w w') : DevAt w' b ml mc D :=
  ⟨hf.heap h.blk (by simp), h.lastM.kept hf.nil (hf.block _ h.lastM.lt (by simp)), h.cacheM.kept hf.nil (hf.block _ h.cacheM.lt (by simp)), h.ne, h.fine⟩
theorem DevAt.drew {w : World} {b ml mc : Nat} {D : Dv} (h : DevAt w b ml mc D) : DevAt w.drew b ml mc D := h.kept (Fr.refl [] w).drew
theorem DevAt.keptS {S : List Nat} {w w' : World} {b ml mc : Nat} {D : Dv} (h : DevAt w b ml mc D) (hf : Fr S w w') (hs : ∀ x, x ∈ S → x < w.heap.size → False) : DevAt w' b ml mc D :=
  h.kept (hf.mono (fun x hx hl => (hs x hx hl).elim))

/-- Its struct's cells, for a walk. -/
theorem DevAt.cells {w : World} {b ml mc : Nat} {D : Dv} (h : DevAt w b ml mc D) :
    w.cell? ⟨b, 0, none⟩ = some (.int .i64 D.n) ∧ w.cell? ⟨b, 1, none⟩ = some (.map (some ml)) ∧ w.cell? ⟨b, 2, none⟩ = some (.map (some mc)) ∧
    w.cell? ⟨b, 3, none⟩ = some (.bool D.off) ∧ w.cell? ⟨b, 4, none⟩ = some (.int .i64 D.fuse) := by
  refine ⟨?_, ?_, ?_, ?_, ?_⟩ <;> rw [blk_cell h.blk] <;> rfl
theorem DevAt.free {w : World} {b ml mc : Nat} {D : Dv} (h : DevAt w b ml mc D) (i : Nat) : w.frozen? ⟨b, i, none⟩ = false := blk_free h.blk i

/-- A device whose struct's flag and fuse are written. -/
theorem DevAt.written {w w' : World} {b ml mc : Nat} {D : Dv} (h : DevAt w b ml mc D) (o : Bool) (f : Int) (hf : Fr [b] w w') (h1 : -1 ≤ f) (h2 : f ≤ 9223372036854775807)
    (hb : w'.heap[b]? = some (.cells (devCells { D with off := o, fuse := f } ml mc) 60 (0, 0))) : DevAt w' b ml mc { D with off := o, fuse := f } := by
  have hne := h.b_ne
  have hl : Fr [b, ml, mc] w w' := hf.mono (by simp)
  exact ⟨hb, h.lastM.kept hl (hf.block _ h.lastM.lt (by simp; exact Ne.symm hne.1)), h.cacheM.kept hl (hf.block _ h.cacheM.lt (by simp; exact Ne.symm hne.2)), h.ne,
    ⟨h.fine.n2, h.fine.n4, h.fine.keysL, h.fine.keysC, h1, h2⟩⟩

def useE (D : Dv) (k : Int) (len : Nat) : Int := if D.off then 40 else if k < 0 ∨ D.n ≤ k ∨ 1024 < len then 41 else 0

theorem use_nil (n : Int) (a : Option Addr) (l c : Nat) (w : World) :
    Calls Try.prog 28 #[.pointer none, .int .i64 n, .slice a l c] w fun e w' => e = .returned (.int .i64 1) ∧ w = w' := by
  go_enter Try.func28, Try.ntmps28
  go_wp2
  go_ret
  exact ⟨rfl, rfl⟩

set_option maxHeartbeats 1000000 in
theorem use_k {b ml mc : Nat} {D : Dv} (k r : Int) (a : Option Addr) (l c : Nat) (w : World) (h : DevAt w b ml mc D) (hr : useE D k l = r) :
    Calls Try.prog 28 #[devP b, .int .i64 k, .slice a l c] w fun e w' => e = .returned (.int .i64 r) ∧ w = w' := by
  obtain ⟨c0, c1, c2, c3, c4⟩ := h.cells
  have hn := h.fine.n4
  clear c1 c2 c4 h
  unfold useE at hr
  unfold devP
  generalize D.off = o at *
  generalize D.n = n at *
  by_cases ho : o = true
  · rw [if_pos ho] at hr; subst ho; subst hr
    go_enter Try.func28, Try.ntmps28
    go_wp2
    go_ret
    exact ⟨rfl, rfl⟩
  · rw [if_neg ho] at hr
    have ho : o = false := by simpa using ho
    subst ho
    by_cases h1 : k < 0
    · rw [if_pos (.inl h1)] at hr; subst hr
      go_enter Try.func28, Try.ntmps28
      go_wp2
      go_ret
      exact ⟨rfl, rfl⟩
    · by_cases h2 : (n : Int) ≤ k
      · rw [if_pos (.inr (.inl h2))] at hr; subst hr
        go_enter Try.func28, Try.ntmps28
        go_wp2
        go_ret
        exact ⟨rfl, rfl⟩
      · by_cases h3 : 1024 < l
        · rw [if_pos (.inr (.inr h3))] at hr; subst hr
          go_enter Try.func28, Try.ntmps28
          go_wp2
          go_ret
          exact ⟨rfl, rfl⟩
        · rw [if_neg (by omega)] at hr; subst hr
          go_enter Try.func28, Try.ntmps28
          go_wp2
          go_ret
          exact ⟨rfl, rfl⟩

/-- An act: its error, and the device behind it. -/
def actE (D : Dv) : Int := if D.fuse = 0 then 40 else 0
def actD (D : Dv) : Dv := if D.fuse = 0 then { D with off := true, fuse := -1 } else if 0 < D.fuse then { D with off := D.off, fuse := D.fuse - 1 } else { D with off := D.off, fuse := D.fuse }

set_option maxHeartbeats 1000000 in
theorem act_k {b ml mc : Nat} {D : Dv} (r : Int) (w : World) (h : DevAt w b ml mc D) (hr : actE D = r) :
    Calls Try.prog 29 #[devP b] w fun e w' => e = .returned (.int .i64 r) ∧ DevAt w' b ml mc (actD D) ∧ Fr [b] w w' ∧ w'.heap.size = w.heap.size := by
  obtain ⟨c0, c1, c2, c3, c4⟩ := h.cells
  have f3 := h.free 3
  have f4 := h.free 4
  have hf1 := h.fine.fuse1
  have hf2 := h.fine.fuse2
  clear c0 c1 c2
  unfold actE at hr
  by_cases h0 : D.fuse = 0
  · rw [if_pos h0] at hr
    subst hr
    have hfin : DevAt ((w.setCell ⟨b, 3, none⟩ (.bool true)).setCell ⟨b, 4, none⟩ (.int .i64 (-1))) b ml mc (actD D) ∧ Fr [b] w ((w.setCell ⟨b, 3, none⟩ (.bool true)).setCell ⟨b, 4, none⟩ (.int .i64 (-1))) ∧ ((w.setCell ⟨b, 3, none⟩ (.bool true)).setCell ⟨b, 4, none⟩ (.int .i64 (-1))).heap.size = w.heap.size := by
      have hfr := (Fr.setCell w ⟨b, 3, none⟩ (.bool true)).trans (Fr.setCell _ ⟨b, 4, none⟩ (.int .i64 (-1)))
      refine ⟨?_, hfr, by simp [World.setCell]⟩
      unfold actD
      rw [if_pos h0]
      refine h.written true (-1) hfr (by omega) (by omega) ?_
      rw [blk_set (blk_set h.blk 3 _) 4 _]
      rfl
    have HF := Lib.hid hfin
    clear hfin h
    rw [h0] at c4 hf1 hf2
    clear h0
    unfold devP
    go_enter Try.func29, Try.ntmps29
    go_wp2
    go_ret
    exact ⟨rfl, HF.out⟩
  · rw [if_neg h0] at hr
    subst hr
    by_cases h1 : 0 < D.fuse
    · have hfin : DevAt (w.setCell ⟨b, 4, none⟩ (.int .i64 (D.fuse - 1))) b ml mc (actD D) ∧ Fr [b] w (w.setCell ⟨b, 4, none⟩ (.int .i64 (D.fuse - 1))) ∧ (w.setCell ⟨b, 4, none⟩ (.int .i64 (D.fuse - 1))).heap.size = w.heap.size := by
        have hfr := (Fr.setCell w ⟨b, 4, none⟩ (.int .i64 (D.fuse - 1)))
        refine ⟨?_, hfr, by simp [World.setCell]⟩
        unfold actD
        rw [if_neg h0, if_pos h1]
        refine h.written D.off (D.fuse - 1) hfr (by omega) (by omega) ?_
        rw [blk_set h.blk 4 _]
        rfl
      have HF := Lib.hid hfin
      have hb0 : (D.fuse == 0) = false := by simp [h0]
      clear hfin h h0
      generalize D.fuse = f at *
      unfold devP
      go_enter Try.func29, Try.ntmps29
      go_wp2
      go_ret
      exact ⟨rfl, HF.out⟩
    · have hfin : DevAt w b ml mc (actD D) := by
        unfold actD
        rw [if_neg h0, if_neg h1]
        exact h
      have HF := Lib.hid hfin
      have hb0 : (D.fuse == 0) = false := by simp [h0]
      clear hfin h h0
      generalize D.fuse = f at *
      unfold devP
      go_enter Try.func29, Try.ntmps29
      go_wp2
      go_ret
      exact ⟨rfl, HF.out, Fr.refl _ _, rfl⟩
end Go.Proofs.Ytgockpichhgijaa

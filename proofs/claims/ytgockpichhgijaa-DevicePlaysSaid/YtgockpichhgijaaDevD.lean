/- Read and Write of a device. -/
import Derived.Test.YtgockpichhgijaaDevC
namespace Go.Proofs.Ytgockpichhgijaa
open Go.RowKit Go.MapKept

theorem zero_bytes (w : World) : (zeroValue 23).run Try.prog w = .ok (.slice none 0 0) w := by kernel_rfl

section
variable {w : World} {b ml mc : Nat} {D : Dv}

theorem BM.look_some {S : List Nat} {r : Nat} {g : Int → Option (List UInt8)} (h : BM S w r g) {k : Int} {l : List UInt8} (hk : g k = some l) (c : Bool) :
    ∃ v, (Instr.lookup 58 (.map (some r)) (.int .i64 k) c).run Try.prog w = .ok (if c then .tuple #[v, .bool true] else v) w ∧ Bytes S w v l := by
  obtain ⟨f, hm, hg⟩ := h
  obtain ⟨v, hv, hb⟩ := (hg k).2 l hk
  exact ⟨v, hm.lookup_some keInt Try.underlying58 Try.underlying3 hv c, hb⟩
theorem BM.look_none {S : List Nat} {r : Nat} {g : Int → Option (List UInt8)} (h : BM S w r g) {k : Int} (hk : g k = none) (c : Bool) :
    (Instr.lookup 58 (.map (some r)) (.int .i64 k) c).run Try.prog w = .ok (if c then .tuple #[.slice none 0 0, .bool false] else .slice none 0 0) w := by
  obtain ⟨f, hm, hg⟩ := h
  exact hm.lookup_none keInt Try.underlying58 Try.underlying3 ((hg k).1 hk) (zero_bytes w) c
theorem BM.put {S : List Nat} {r : Nat} {g : Int → Option (List UInt8)} (h : BM S w r g) (hr : r ∈ S) (k : Int) {v : Value} {l : List UInt8} (hv : Bytes S w v l) :
    ∃ w2, (Instr.mapUpdate 58 (.map (some r)) (.int .i64 k) v).run Try.prog w = .ok () w2 ∧ BM S w2 r (upd g k (some l)) ∧ Fr [r] w w2 ∧ w2.heap.size = w.heap.size := by
  obtain ⟨f, hm, hg⟩ := h
  obtain ⟨w2, hrun, hm2, hf, hs⟩ := hm.update (P := Try.prog) keInt Try.underlying58 Try.underlying3 k v
  have hfS : Fr S w w2 := hf.mono (by simpa using fun _ => hr)
  refine ⟨w2, hrun, ⟨_, hm2, fun j => ?_⟩, hf, hs⟩
  by_cases hj : j = k
  · subst hj
    rw [upd_same, upd_same]
    exact ⟨fun h => (by cases h), fun l' h => (by cases h; exact ⟨v, rfl, hv.kept hfS⟩)⟩
  · rw [upd_ne _ _ hj, upd_ne _ _ hj]
    exact ⟨(hg j).1, fun l' h => by obtain ⟨u, hu, hb⟩ := (hg j).2 l' h; exact ⟨u, hu, hb.kept hfS⟩⟩
theorem BM.del {S : List Nat} {r : Nat} {g : Int → Option (List UInt8)} (h : BM S w r g) (hr : r ∈ S) (k : Int) (ty : TypeId) :
    ∃ w2, (Builtin.delete_ #[58, 3] ty #[.map (some r), .int .i64 k]).run Try.prog w = .ok (.tuple #[]) w2 ∧ BM S w2 r (upd g k none) ∧ Fr [r] w w2 ∧ w2.heap.size = w.heap.size := by
  obtain ⟨f, hm, hg⟩ := h
  obtain ⟨w2, hrun, hm2, hf, hs⟩ := hm.delete (P := Try.prog) keInt Try.underlying58 Try.underlying3 (ty := ty) k
  have hfS : Fr S w w2 := hf.mono (by simpa using fun _ => hr)
  refine ⟨w2, hrun, ⟨_, hm2, fun j => ?_⟩, hf, hs⟩
  by_cases hj : j = k
  · subst hj
    rw [upd_same, upd_same]
    exact ⟨fun _ => rfl, fun l' h => (by cases h)⟩
  · rw [upd_ne _ _ hj, upd_ne _ _ hj]
    exact ⟨(hg j).1, fun l' h => by obtain ⟨u, hu, hb⟩ := (hg j).2 l' h; exact ⟨u, hu, hb.kept hfS⟩⟩
theorem BM.clr {S : List Nat} {r : Nat} {g : Int → Option (List UInt8)} (h : BM S w r g) (ty : TypeId) :
    ∃ w2, (Builtin.clear_ #[58] ty #[.map (some r)]).run Try.prog w = .ok (.tuple #[]) w2 ∧ BM S w2 r (fun _ => none) ∧ Fr [r] w w2 ∧ w2.heap.size = w.heap.size := by
  obtain ⟨f, hm, hg⟩ := h
  obtain ⟨w2, hrun, hm2, hf, hs⟩ := hm.clear (P := Try.prog) Try.underlying58 (ty := ty)
  exact ⟨w2, hrun, BM.made hm2, hf, hs⟩

/-- The device when one of its maps has turned. -/
theorem DevAt.cacheIs {w' : World} (h : DevAt w b ml mc D) (hf : Fr [mc] w w') {g : Int → Option (List UInt8)} (hg : BM [b, ml, mc] w' mc g) (hk : ∀ k l, g k = some l → 0 ≤ k ∧ k < D.n ∧ l.length = 1024) :
    DevAt w' b ml mc { D with cache := g } := by
  have hne := h.b_ne
  have hl : Fr [b, ml, mc] w w' := hf.mono (by simp)
  exact ⟨hf.heap h.blk (by simp; exact hne.2), h.lastM.kept hl (hf.block _ h.lastM.lt (by simp; exact h.ne)), hg, h.ne,
    ⟨h.fine.n2, h.fine.n4, h.fine.keysL, hk, h.fine.fuse1, h.fine.fuse2⟩⟩
theorem DevAt.lastIs {w' : World} (h : DevAt w b ml mc D) (hf : Fr [ml] w w') {g : Int → Option (List UInt8)} (hg : BM [b, ml, mc] w' ml g) (hk : ∀ k l, g k = some l → 0 ≤ k ∧ k < D.n ∧ l.length = 1024) :
    DevAt w' b ml mc { D with last := g } := by
  have hne := h.b_ne
  have hl : Fr [b, ml, mc] w w' := hf.mono (by simp)
  exact ⟨hf.heap h.blk (by simp; exact hne.1), hg, h.cacheM.kept hl (hf.block _ h.cacheM.lt (by simp; exact Ne.symm h.ne)), h.ne,
    ⟨h.fine.n2, h.fine.n4, hk, h.fine.keysC, h.fine.fuse1, h.fine.fuse2⟩⟩
end

def zeros : List UInt8 := List.replicate 1024 0
theorem pad_nil : pad [] = zeros := rfl
def Dv.bytes (D : Dv) (k : Int) : List UInt8 := (D.cache k).getD ((D.last k).getD zeros)
theorem zeros_length : zeros.length = 1024 := List.length_replicate
theorem Dv.fine.bytes_length {D : Dv} (h : D.fine) (k : Int) : (D.bytes k).length = 1024 := by
  unfold Dv.bytes
  cases hc : D.cache k with
  | some l => exact (h.keysC k l hc).2.2
  | none =>
    cases hl : D.last k with
    | some l => exact (h.keysL k l hl).2.2
    | none => exact zeros_length

/-- Block B holds just the bytes l. -/
def Blk (w : World) (B : Nat) (l : List UInt8) : Prop := w.heap[B]? = some (.cells (l.map byteV).toArray 5 (0, 0))
theorem Blk.kept {S : List Nat} {w w' : World} {B : Nat} {l : List UInt8} (h : Blk w B l) (hf : Fr S w w') (hs : B ∉ S) : Blk w' B l := hf.heap h hs
theorem Blk.bytes {S : List Nat} {w : World} {B : Nat} {l : List UInt8} (h : Blk w B l) (hs : B ∉ S) {n : Nat} (hn : l.length = n) : Bytes S w (.slice (some ⟨B, 0, none⟩) n n) l := by
  subst hn
  have := Slc.ofBlock (S := S) h hs l.length l.length (Nat.le_refl _)
  exact this
theorem Blk.lt {w : World} {B : Nat} {l : List UInt8} (h : Blk w B l) : B < w.heap.size := lt_of_heap h

theorem read_nil (n : Int) (w : World) : Calls Try.prog 14 #[.pointer none, .int .i64 n] w fun e w' => e = .returned (.tuple #[.slice none 0 0, .int .i64 1]) ∧ w = w' := by
  go_enter Try.func14, Try.ntmps14
  go_wp2_with (first | (go_at_call 28; refine (use_nil _ _ _ _ _).mono ?_; rintro e w' ⟨rfl, rfl⟩))
  go_ret2
  exact ⟨rfl, rfl⟩

theorem read_no {b ml mc : Nat} {D : Dv} (k r : Int) (w : World) (h : DevAt w b ml mc D) (hr : useE D k 0 = r) (h0 : r ≠ 0) :
    Calls Try.prog 14 #[devP b, .int .i64 k] w fun e w' => e = .returned (.tuple #[.slice none 0 0, .int .i64 r]) ∧ w = w' := by
  have hn : (r != 0) = true := by simp [h0]
  clear h0
  have HR := Lib.hid hr
  clear hr
  go_enter Try.func14, Try.ntmps14
  go_wp2_with (first | (go_at_call 28; refine (use_k _ r _ _ _ _ h HR.out).mono ?_; rintro e w' ⟨rfl, rfl⟩))
  go_ret2
  exact ⟨rfl, rfl⟩

set_option maxHeartbeats 400000 in
theorem read_k {b ml mc : Nat} {D : Dv} (k : Int) (w : World) (h : DevAt w b ml mc D) (hr : useE D k 0 = 0) :
    Calls Try.prog 14 #[devP b, .int .i64 k] w fun e w' => e = .returned (.tuple #[.slice (some ⟨w.heap.size, 0, none⟩) 1024 1024, .int .i64 0]) ∧
      Blk w' w.heap.size (D.bytes k) ∧ Fr [] w w' ∧ w'.heap.size = w.heap.size + 1 := by
  obtain ⟨c0, c1, c2, c3, c4⟩ := h.cells
  have hlen := h.fine.bytes_length k
  unfold Dv.bytes at hlen ⊢
  cases hc : D.cache k with
  | some l =>
    obtain ⟨v, hrun, hb⟩ := h.cacheM.look_some hc true
    simp only [if_true] at hrun
    rw [hc] at hlen
    simp only [Option.getD_some] at hlen ⊢
    have hw := whole_k w hb (by omega)
    rw [pad_full hlen] at hw
    have HW := Lib.hid hw
    have HR := Lib.hid hr
    have HH := Lib.hid h
    clear hw hr h hb hlen hc c0 c1 c3 c4
    go_enter Try.func14, Try.ntmps14
    go_wp2_with (first | (go_at_call 28; refine (use_k _ 0 _ _ _ _ HH.out HR.out).mono ?_; rintro e w' ⟨rfl, rfl⟩) | (go_at_call 30; refine HW.out.mono ?_; rintro e w' ⟨rfl, hbk, hfr, hsz⟩))
    go_ret2
    exact ⟨rfl, hbk, hfr, hsz⟩
  | none =>
    have hrun := h.cacheM.look_none hc true
    simp only [if_true] at hrun
    rw [hc] at hlen
    simp only [Option.getD_none] at hlen ⊢
    cases hl : D.last k with
    | some l =>
      obtain ⟨v, hrun2, hb⟩ := h.lastM.look_some hl false
      simp only [Bool.false_eq_true, if_false] at hrun2
      rw [hl] at hlen
      simp only [Option.getD_some] at hlen ⊢
      have hw := whole_k w hb (by omega)
      rw [pad_full hlen] at hw
      have HW := Lib.hid hw
      have HR := Lib.hid hr
      have HH := Lib.hid h
      clear hw hr h hb hlen hc hl c0 c3 c4
      go_enter Try.func14, Try.ntmps14
      go_wp2_with (first | (go_at_call 28; refine (use_k _ 0 _ _ _ _ HH.out HR.out).mono ?_; rintro e w' ⟨rfl, rfl⟩) | (go_at_call 30; refine HW.out.mono ?_; rintro e w' ⟨rfl, hbk, hfr, hsz⟩))
      go_ret2
      exact ⟨rfl, hbk, hfr, hsz⟩
    | none =>
      have hrun2 := h.lastM.look_none hl false
      simp only [Bool.false_eq_true, if_false] at hrun2
      simp only [Option.getD_none]
      have hw := whole_k (S := []) w (Bytes.nil [] w) (by simp)
      rw [pad_nil] at hw
      have HW := Lib.hid hw
      have HR := Lib.hid hr
      have HH := Lib.hid h
      clear hw hr h hlen hc hl c0 c3 c4
      go_enter Try.func14, Try.ntmps14
      go_wp2_with (first | (go_at_call 28; refine (use_k _ 0 _ _ _ _ HH.out HR.out).mono ?_; rintro e w' ⟨rfl, rfl⟩) | (go_at_call 30; refine HW.out.mono ?_; rintro e w' ⟨rfl, hbk, hfr, hsz⟩))
      go_ret2
      exact ⟨rfl, hbk, hfr, hsz⟩
end Go.Proofs.Ytgockpichhgijaa

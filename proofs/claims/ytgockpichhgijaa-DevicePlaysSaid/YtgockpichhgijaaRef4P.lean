/- The document's device: Spoil, walked. -/
import Derived.Test.YtgockpichhgijaaRef4O
namespace Go.Proofs.Ytgockpichhgijaa
open Go.RowKit Go.MapKept
attribute [local go_sem] ldOp

theorem rspoil_no {r LB CB IB : Nat} {D : Dv} (k a e0 : Int) (x : UInt8) (w : World) (h : RefAt w r LB CB IB D) (hr : spoilE D k a = e0) (hr0 : e0 ≠ 0) :
    Calls Try.prog 39 #[refP r, .int .i64 k, .int .i64 a, byteV x] w fun e w' => e = .returned (.int .i64 e0) ∧ w = w' := by
  obtain ⟨c0, _, _, _, _⟩ := h.cells
  unfold spoilE at hr
  unfold byteV
  clear h
  generalize D.n = n at *
  by_cases h1 : k < 0
  · rw [if_pos (.inl h1)] at hr; subst hr; clear hr0
    go_enter Try.func39, Try.ntmps39
    go_wp2
    go_ret
    exact ⟨rfl, rfl⟩
  · by_cases h2 : (n : Int) ≤ k
    · rw [if_pos (.inr h2)] at hr; subst hr; clear hr0
      go_enter Try.func39, Try.ntmps39
      go_wp2
      go_ret
      exact ⟨rfl, rfl⟩
    · rw [if_neg (by omega)] at hr
      by_cases h3 : a < 0
      · rw [if_pos (.inl h3)] at hr; subst hr; clear hr0
        go_enter Try.func39, Try.ntmps39
        go_wp2
        go_ret
        exact ⟨rfl, rfl⟩
      · by_cases h4 : 1024 ≤ a
        · rw [if_pos (.inr h4)] at hr; subst hr; clear hr0
          go_enter Try.func39, Try.ntmps39
          go_wp2
          go_ret
          exact ⟨rfl, rfl⟩
        · rw [if_neg (by omega)] at hr
          exact absurd hr.symm hr0

set_option maxRecDepth 100000 in
set_option maxHeartbeats 4000000 in
theorem rspoil_yes {r LB CB IB : Nat} {D : Dv} (k a : Nat) (x : UInt8) (w : World) (h : RefAt w r LB CB IB D) (hk : k < D.n) (ha : a < 1024) :
    Calls Try.prog 39 #[refP r, .int .i64 k, .int .i64 a, byteV x] w fun e w' => e = .returned (.int .i64 0) ∧ RefAt w' r LB CB IB (spoilD D k a x) ∧ Fr [LB, CB] w w' := by
  have hE : spoilE D k a = 0 := by unfold spoilE; rw [if_neg (by omega), if_neg (by omega)]
  obtain ⟨c0, c1, c2, _, _⟩ := h.cells
  have cI := h.atIs hk
  have hkI : (k : Int) < (D.n : Int) := by omega
  have hkJ : ¬ (D.n : Int) ≤ (k : Int) := by omega
  have haI : (a : Int) < 1024 := by omega
  have haJ : ¬ 1024 ≤ (a : Int) := by omega
  obtain ⟨n1, n2, n3, n4, n5, n6⟩ := h.nes
  have hlt := h.lt
  cases hc : D.cache k with
  | some l =>
    have hD : spoilD D k a x = { D with cache := upd D.cache k (some (spoiled l a x)) } := by unfold spoilD; rw [if_pos hE, hc]
    rw [hc] at cI
    simp only [Option.isSome_some] at cI
    have hl := (h.fine.keysC _ _ hc).2.2
    obtain ⟨v, cv, hb⟩ := h.atCache hk hc
    obtain ⟨va, vc, rfl, _⟩ := Slc.form hb
    obtain ⟨VC, hVC, _⟩ := h.cacheB
    obtain ⟨g, cap, w2, hrun, hg, hcap, hf2, cur, hblk, hcur⟩ := copied_run (w := w.drew) hl ((hb.kept (Fr.refl _ w).drew).mono (S' := []) (by simp)) 23
    have hgs : w.heap.size ≤ g := hg
    have fC := blk_free (hf2.heap (w := w.drew) hVC (by simp)) k
    have fg := blk_free hblk a
    have cg := copy_cell hl hblk hcur ha
    have c12 := hf2.cellSome (w := w.drew) c1 (by simp)
    have cv2 := hf2.cellSome (w := w.drew) cv (by simp)
    have cva := (Fr.alloc1 w (.cells #[] 5)).cellSome cv (by simp)
    have gC : g ≠ CB := by omega
    have gr : g ≠ r := by omega
    have Cg : CB ≠ g := by omega
    have rg : r ≠ g := by omega
    have Cr : CB ≠ r := by omega
    have hs1 := Fr.setCell w2 ⟨CB, k, none⟩ (.slice (some ⟨g, 0, none⟩) 1024 cap)
    have hfin : ∀ w5, Fr [] (w2.setCell ⟨CB, k, none⟩ (.slice (some ⟨g, 0, none⟩) 1024 cap)) w5 → RefAt (w5.setCell ⟨g, a, none⟩ (byteV (l.getD a 0 ^^^ x))) r LB CB IB (spoilD D k a x) ∧ Fr [LB, CB] w (w5.setCell ⟨g, a, none⟩ (byteV (l.getD a 0 ^^^ x))) := by
      intro w5 hf5
      have hb5 := hf5.heap (hs1.heap hblk (by simp; omega)) (by simp)
      have hf := ((Fr.drew (Fr.refl [CB] w)).trans (hf2.nil.trans (hs1.trans hf5.nil))).andThen (Fr.setCell w5 ⟨g, a, none⟩ (byteV (l.getD a 0 ^^^ x))) (by simp; omega)
      rw [hD]
      refine ⟨h.setCache hk hc (v := .slice (some ⟨g, 0, none⟩) 1024 cap) (l := spoiled l a x) hf (fun V hV => ?_) ?_ ((spoiled_length _ _ _).trans hl), hf.mono (by simp)⟩
      · have h1 := hf2.heap (w := w.drew) hV (by simp)
        have h2 := blk_set h1 k (.slice (some ⟨g, 0, none⟩) 1024 cap)
        rw [rowOf_set] at h2
        exact (Fr.setCell w5 ⟨g, a, none⟩ _).heap (hf5.heap h2 (by simp)) (by simp; omega)
      · have := set_bytes hl hcap hb5 hcur a (l.getD a 0 ^^^ x) (S := [r, LB, CB, IB]) (by simp; omega)
        unfold spoiled
        rw [Int.toNat_natCast]
        exact this
    have hxor : (Value.int IntKind.u8 (bits BinOp.xor IntKind.u8 ((l.getD a 0).toNat : Int) (x.toNat : Int))) = byteV (l.getD a 0 ^^^ x) := by rw [xor_u8]; rfl
    have HFIN := Lib.hid hfin
    have HRUN := Lib.hid hrun
    have HX := Lib.hid hxor
    have HS2 := Lib.hid c12
    have hst := hs1.cellSome c12 (by simp; omega)
    have cv3 : (w2.setCell ⟨CB, k, none⟩ (.slice (some ⟨g, 0, none⟩) 1024 cap)).cell? ⟨CB, k, none⟩ = some (.slice (some ⟨g, 0, none⟩) 1024 cap) := by
      rw [blk_cell (blk_set (hf2.heap (w := w.drew) hVC (by simp)) k _), rowOf_set, rowOf_get hk, if_pos rfl]
    have HS3 := Lib.hid hst
    have HS34 := Lib.hid (And.intro hst cv3)
    have HS4 : Hid (∀ u : Value, ((w2.setCell ⟨CB, k, none⟩ (.slice (some ⟨g, 0, none⟩) 1024 cap)).setCell ⟨g, a, none⟩ u).cell? ⟨r, 1, none⟩ = some (.slice (some ⟨CB, 0, none⟩) D.n D.n) ∧ ((w2.setCell ⟨CB, k, none⟩ (.slice (some ⟨g, 0, none⟩) 1024 cap)).setCell ⟨g, a, none⟩ u).cell? ⟨CB, k, none⟩ = some (.slice (some ⟨g, 0, none⟩) 1024 cap)) :=
      Lib.hid (fun u => ⟨(Fr.setCell _ ⟨g, a, none⟩ u).cellSome hst (by simp; omega), (Fr.setCell _ ⟨g, a, none⟩ u).cellSome cv3 (by simp; omega)⟩)
    clear hfin hrun hxor hs1 h hb hD hE hc hl hVC hblk hcur hf2 hlt hst cv3
    generalize l.getD a 0 = y at *
    unfold byteV
    go_enter Try.func39, Try.ntmps39
    go_wp2_with fail
    rw [show Op.load 23 (.tmp 44) = ldOp 23 44 from rfl]
    go_region_held3 (fun w' => w'.cell? ⟨r, 1, none⟩ = some (.slice (some ⟨CB, 0, none⟩) D.n D.n)) (first | exact HS2.out | exact HS3.out | go_keep)
      (refine step_append_run2 (vs := .slice (some ⟨w.heap.size, 0, none⟩) 0 0) (vx := .slice va l.length vc) rfl _ _ _ _ rfl rfl rfl HRUN.out ?_)
    all_goals
      go_wp2_with fail
      rw [show Op.load 5 (.tmp 64) = ldOp 5 64 from rfl]
      go_region_held3 (fun w' => w'.cell? ⟨r, 1, none⟩ = some (.slice (some ⟨CB, 0, none⟩) D.n D.n) ∧ w'.cell? ⟨CB, k, none⟩ = some (.slice (some ⟨g, 0, none⟩) 1024 cap)) (first | exact HS34.out | exact HS4.out _ | go_keep) (fail)
      go_wp2
      go_ret
      rw [HX.out]
      have hq := HFIN.out _ (Fr.refl [] _)
      exact ⟨rfl, hq.1.drew, hq.2.drew⟩
  | none =>
    have hD : spoilD D k a x = { D with last := upd D.last k (some (spoiled ((D.last k).getD zeros) a x)) } := by unfold spoilD; rw [if_pos hE, hc]
    rw [hc] at cI
    simp only [Option.isSome_none] at cI
    have hl : ((D.last k).getD zeros).length = 1024 := by
      cases hd : D.last k with
      | none => exact zeros_length
      | some y => exact (h.fine.keysL _ _ hd).2.2
    obtain ⟨v, cv, hb⟩ := h.atLast hk
    generalize (D.last k).getD zeros = l at *
    obtain ⟨va, vc, rfl, _⟩ := Slc.form hb
    obtain ⟨VC, hVC, _⟩ := h.lastB
    obtain ⟨g, cap, w2, hrun, hg, hcap, hf2, cur, hblk, hcur⟩ := copied_run (w := w.drew) hl ((hb.kept (Fr.refl _ w).drew).mono (S' := []) (by simp)) 23
    have hgs : w.heap.size ≤ g := hg
    have fC := blk_free (hf2.heap (w := w.drew) hVC (by simp)) k
    have fg := blk_free hblk a
    have cg := copy_cell hl hblk hcur ha
    have c02 := hf2.cellSome (w := w.drew) c0 (by simp)
    have cv2 := hf2.cellSome (w := w.drew) cv (by simp)
    have cva := (Fr.alloc1 w (.cells #[] 5)).cellSome cv (by simp)
    have gC : g ≠ LB := by omega
    have gr : g ≠ r := by omega
    have Cg : LB ≠ g := by omega
    have rg : r ≠ g := by omega
    have Cr : LB ≠ r := by omega
    have hs1 := Fr.setCell w2 ⟨LB, k, none⟩ (.slice (some ⟨g, 0, none⟩) 1024 cap)
    have hfin : ∀ w5, Fr [] (w2.setCell ⟨LB, k, none⟩ (.slice (some ⟨g, 0, none⟩) 1024 cap)) w5 → RefAt (w5.setCell ⟨g, a, none⟩ (byteV (l.getD a 0 ^^^ x))) r LB CB IB (spoilD D k a x) ∧ Fr [LB, CB] w (w5.setCell ⟨g, a, none⟩ (byteV (l.getD a 0 ^^^ x))) := by
      intro w5 hf5
      have hb5 := hf5.heap (hs1.heap hblk (by simp; omega)) (by simp)
      have hf := ((Fr.drew (Fr.refl [LB] w)).trans (hf2.nil.trans (hs1.trans hf5.nil))).andThen (Fr.setCell w5 ⟨g, a, none⟩ (byteV (l.getD a 0 ^^^ x))) (by simp; omega)
      rw [hD]
      refine ⟨h.setLast hk (v := .slice (some ⟨g, 0, none⟩) 1024 cap) (l := spoiled l a x) hf (fun V hV => ?_) ?_ ((spoiled_length _ _ _).trans hl), hf.mono (by simp)⟩
      · have h1 := hf2.heap (w := w.drew) hV (by simp)
        have h2 := blk_set h1 k (.slice (some ⟨g, 0, none⟩) 1024 cap)
        rw [rowOf_set] at h2
        exact (Fr.setCell w5 ⟨g, a, none⟩ _).heap (hf5.heap h2 (by simp)) (by simp; omega)
      · have := set_bytes hl hcap hb5 hcur a (l.getD a 0 ^^^ x) (S := [r, LB, CB, IB]) (by simp; omega)
        unfold spoiled
        rw [Int.toNat_natCast]
        exact this
    have hxor : (Value.int IntKind.u8 (bits BinOp.xor IntKind.u8 ((l.getD a 0).toNat : Int) (x.toNat : Int))) = byteV (l.getD a 0 ^^^ x) := by rw [xor_u8]; rfl
    have HFIN := Lib.hid hfin
    have HRUN := Lib.hid hrun
    have HX := Lib.hid hxor
    have HS2 := Lib.hid c02
    have hst := hs1.cellSome c02 (by simp; omega)
    have cv3 : (w2.setCell ⟨LB, k, none⟩ (.slice (some ⟨g, 0, none⟩) 1024 cap)).cell? ⟨LB, k, none⟩ = some (.slice (some ⟨g, 0, none⟩) 1024 cap) := by
      rw [blk_cell (blk_set (hf2.heap (w := w.drew) hVC (by simp)) k _), rowOf_set, rowOf_get hk, if_pos rfl]
    have HS3 := Lib.hid hst
    have HS34 := Lib.hid (And.intro hst cv3)
    have HS4 : Hid (∀ u : Value, ((w2.setCell ⟨LB, k, none⟩ (.slice (some ⟨g, 0, none⟩) 1024 cap)).setCell ⟨g, a, none⟩ u).cell? ⟨r, 0, none⟩ = some (.slice (some ⟨LB, 0, none⟩) D.n D.n) ∧ ((w2.setCell ⟨LB, k, none⟩ (.slice (some ⟨g, 0, none⟩) 1024 cap)).setCell ⟨g, a, none⟩ u).cell? ⟨LB, k, none⟩ = some (.slice (some ⟨g, 0, none⟩) 1024 cap)) :=
      Lib.hid (fun u => ⟨(Fr.setCell _ ⟨g, a, none⟩ u).cellSome hst (by simp; omega), (Fr.setCell _ ⟨g, a, none⟩ u).cellSome cv3 (by simp; omega)⟩)
    clear hfin hrun hxor hs1 h hb hD hE hc hl hVC hblk hcur hf2 hlt hst cv3
    generalize l.getD a 0 = y at *
    unfold byteV
    go_enter Try.func39, Try.ntmps39
    go_wp2_with fail
    rw [show Op.load 23 (.tmp 80) = ldOp 23 80 from rfl]
    go_region_held3 (fun w' => w'.cell? ⟨r, 0, none⟩ = some (.slice (some ⟨LB, 0, none⟩) D.n D.n)) (first | exact HS2.out | exact HS3.out | go_keep)
      (refine step_append_run2 (vs := .slice (some ⟨w.heap.size, 0, none⟩) 0 0) (vx := .slice va l.length vc) rfl _ _ _ _ rfl rfl rfl HRUN.out ?_)
    all_goals
      go_wp2_with fail
      rw [show Op.load 5 (.tmp 100) = ldOp 5 100 from rfl]
      go_region_held3 (fun w' => w'.cell? ⟨r, 0, none⟩ = some (.slice (some ⟨LB, 0, none⟩) D.n D.n) ∧ w'.cell? ⟨LB, k, none⟩ = some (.slice (some ⟨g, 0, none⟩) 1024 cap)) (first | exact HS34.out | exact HS4.out _ | go_keep) (fail)
      go_wp2
      go_ret
      rw [HX.out]
      have hq := HFIN.out _ (Fr.refl [] _)
      exact ⟨rfl, hq.1.drew, hq.2.drew⟩

theorem rspoil_k {r LB CB IB : Nat} {D : Dv} (k a : Int) (x : UInt8) (w : World) (h : RefAt w r LB CB IB D) :
    Calls Try.prog 39 #[refP r, .int .i64 k, .int .i64 a, byteV x] w fun e w' => e = .returned (.int .i64 (spoilE D k a)) ∧ RefAt w' r LB CB IB (if spoilE D k a = 0 then spoilD D k a x else D) ∧ Fr [LB, CB] w w' := by
  by_cases hE : spoilE D k a = 0
  · rw [hE, if_pos rfl]
    have hk : 0 ≤ k ∧ k < D.n ∧ 0 ≤ a ∧ a < 1024 := by
      unfold spoilE at hE
      split at hE
      · cases hE
      · split at hE
        · cases hE
        · omega
    obtain ⟨k, rfl⟩ := Int.eq_ofNat_of_zero_le hk.1
    obtain ⟨a, rfl⟩ := Int.eq_ofNat_of_zero_le hk.2.2.1
    exact rspoil_yes k a x w h (by omega) (by omega)
  · rw [if_neg hE]
    refine (rspoil_no k a _ x w h rfl hE).mono ?_
    rintro e w' ⟨rfl, rfl⟩
    exact ⟨rfl, h, Fr.refl _ _⟩
end Go.Proofs.Ytgockpichhgijaa

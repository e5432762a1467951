/- The document's device: Read, act, Fuse, in, zero. -/
import Derived.Test.YtgockpichhgijaaRef4B
namespace Go.Proofs.Ytgockpichhgijaa
open Go.RowKit Go.MapKept

abbrev refP (r : Nat) : Value := .pointer (some ⟨r, 0, none⟩)
theorem RefAt.cells {w : World} {r LB CB IB : Nat} {D : Dv} (h : RefAt w r LB CB IB D) : w.cell? ⟨r, 0, none⟩ = some (.slice (some ⟨LB, 0, none⟩) D.n D.n) ∧ w.cell? ⟨r, 1, none⟩ = some (.slice (some ⟨CB, 0, none⟩) D.n D.n) ∧ w.cell? ⟨r, 2, none⟩ = some (.slice (some ⟨IB, 0, none⟩) D.n D.n) ∧
    w.cell? ⟨r, 3, none⟩ = some (.bool D.off) ∧ w.cell? ⟨r, 4, none⟩ = some (.bool (decide (0 ≤ D.fuse))) := by
  obtain ⟨_, h, _⟩ := h.blk
  exact ⟨blk_cell h 0, blk_cell h 1, blk_cell h 2, blk_cell h 3, blk_cell h 4⟩
theorem RefAt.atIs {w : World} {r LB CB IB : Nat} {D : Dv} (h : RefAt w r LB CB IB D) {k : Nat} (hk : k < D.n) : w.cell? ⟨IB, k, none⟩ = some (.bool (D.cache k).isSome) := by
  rw [blk_cell h.isB, rowOf_get hk]
theorem RefAt.atLast {w : World} {r LB CB IB : Nat} {D : Dv} (h : RefAt w r LB CB IB D) {k : Nat} (hk : k < D.n) : ∃ v, w.cell? ⟨LB, k, none⟩ = some v ∧ Bytes [r, LB, CB, IB] w v ((D.last k).getD zeros) := by
  obtain ⟨V, h1, h2⟩ := h.lastB
  exact ⟨V k, by rw [blk_cell h1, rowOf_get hk], h2 k hk⟩
theorem RefAt.atCache {w : World} {r LB CB IB : Nat} {D : Dv} (h : RefAt w r LB CB IB D) {k : Nat} (hk : k < D.n) {l : List UInt8} (hl : D.cache k = some l) : ∃ v, w.cell? ⟨CB, k, none⟩ = some v ∧ Bytes [r, LB, CB, IB] w v l := by
  obtain ⟨V, h1, h2⟩ := h.cacheB
  exact ⟨V k, by rw [blk_cell h1, rowOf_get hk], h2 k l hk hl⟩
theorem RefAt.drew {w : World} {r LB CB IB : Nat} {D : Dv} (h : RefAt w r LB CB IB D) : RefAt w.drew r LB CB IB D := h.kept (Fr.refl [] w).drew

set_option maxHeartbeats 1000000 in
theorem rread_k {r LB CB IB : Nat} {D : Dv} (k : Int) (w : World) (h : RefAt w r LB CB IB D) :
    Calls Try.prog 34 #[refP r, .int .i64 k] w fun e w' => ∃ v, e = .returned (.tuple #[v, .int .i64 (useE D k 0)]) ∧ Bytes [] w v (if useE D k 0 = 0 then D.bytes k else []) ∧ w = w' := by
  obtain ⟨c0, c1, c2, c3, c4⟩ := h.cells
  by_cases ho : D.off = true
  · have hu : useE D k 0 = 40 := by unfold useE; rw [if_pos ho]
    rw [ho] at c3
    rw [hu]
    have HX : Hid (Bytes [] w (.slice none 0 0) []) := Bytes.nil _ _
    clear hu ho h
    go_enter Try.func34, Try.ntmps34
    go_wp2
    go_ret2
    exact ⟨_, rfl, HX.out, rfl⟩
  · have ho' : D.off = false := by simpa using ho
    rw [ho'] at c3
    by_cases hk : k < 0 ∨ (D.n : Int) ≤ k
    · have hu : useE D k 0 = 41 := by unfold useE; rw [if_neg ho, if_pos (by omega)]
      rw [hu]
      have HX : Hid (Bytes [] w (.slice none 0 0) []) := Bytes.nil _ _
      clear hu ho ho' h
      go_enter Try.func34, Try.ntmps34
      by_cases h0 : k < 0
      · go_wp2
        go_ret2
        exact ⟨_, rfl, HX.out, rfl⟩
      · have h1 : (D.n : Int) ≤ k := by omega
        go_wp2
        go_ret2
        exact ⟨_, rfl, HX.out, rfl⟩
    · obtain ⟨j, rfl⟩ := Int.eq_ofNat_of_zero_le (show 0 ≤ k by omega)
      have hj : j < D.n := by omega
      have hu : useE D j 0 = 0 := by unfold useE; rw [if_neg ho, if_neg (by omega)]
      rw [hu, if_pos rfl]
      have ci := h.atIs hj
      have hjI : (j : Int) < (D.n : Int) := by omega
      have hjJ : ¬ (D.n : Int) ≤ (j : Int) := by omega
      unfold Dv.bytes
      cases hc : D.cache j with
      | some l =>
        obtain ⟨v, cv, hb⟩ := h.atCache hj hc
        rw [hc] at ci
        have HX : Hid (Bytes [] w v l) := hb.mono (by simp)
        obtain ⟨va, vc, rfl, _⟩ := Slc.form hb
        simp only [Option.getD_some, Option.isSome_some] at ci ⊢
        clear hu ho ho' h hc hb hk
        go_enter Try.func34, Try.ntmps34
        go_wp2
        go_ret2
        exact ⟨_, rfl, HX.out, rfl⟩
      | none =>
        obtain ⟨v, cv, hb⟩ := h.atLast hj
        rw [hc] at ci
        have HX : Hid (Bytes [] w v ((D.last j).getD zeros)) := hb.mono (by simp)
        obtain ⟨va, vc, rfl, _⟩ := Slc.form hb
        simp only [Option.getD_none, Option.isSome_none] at ci ⊢
        clear hu ho ho' h hc hb hk
        generalize (D.last j).getD zeros = l at *
        go_enter Try.func34, Try.ntmps34
        go_wp2
        go_ret2
        exact ⟨_, rfl, HX.out, rfl⟩

/-- Only the flags turn. -/
theorem RefAt.written {w w' : World} {r LB CB IB : Nat} {D : Dv} (h : RefAt w r LB CB IB D) (o : Bool) (f left : Int) (hf : Fr [r] w w') (h1 : -1 ≤ f) (h2 : f ≤ 9223372036854775807) (hl : 0 ≤ f → left = f)
    (hb : w'.heap[r]? = some (.cells (refCells D.n LB CB IB o (decide (0 ≤ f)) left) 68 (0, 0))) : RefAt w' r LB CB IB { D with off := o, fuse := f } := by
  obtain ⟨n1, n2, n3, n4, n5, n6⟩ := h.nes
  obtain ⟨VL, h2', h2''⟩ := h.lastB
  obtain ⟨VC, h3, h3'⟩ := h.cacheB
  exact ⟨⟨left, hb, hl⟩, ⟨VL, hf.heap h2' (by simp; omega), fun i hi => (h2'' i hi).kept (hf.mono (by simp))⟩, ⟨VC, hf.heap h3 (by simp; omega), fun i l hi hc => (h3' i l hi hc).kept (hf.mono (by simp))⟩, hf.heap h.isB (by simp; omega), h.ne, ⟨h.fine.n2, h.fine.n4, h.fine.keysL, h.fine.keysC, h1, h2⟩, fun i hi => by obtain ⟨a, x, y, hc⟩ := h.cacheS i hi; exact ⟨a, x, y, hf.cellSome hc (by simp; omega)⟩⟩

set_option maxHeartbeats 1000000 in
theorem ract_k {r LB CB IB : Nat} {D : Dv} (w : World) (h : RefAt w r LB CB IB D) :
    Calls Try.prog 45 #[refP r] w fun e w' => e = .returned (.bool (decide (actE D = 0))) ∧ RefAt w' r LB CB IB (actD D) ∧ Fr [r] w w' := by
  obtain ⟨left, hblk, hleft⟩ := h.blk
  have c3 : w.cell? ⟨r, 3, none⟩ = some (.bool D.off) := h.cells.2.2.2.1
  have c4 := h.cells.2.2.2.2
  have c5 : w.cell? ⟨r, 5, none⟩ = some (.int .i64 left) := blk_cell hblk 5
  have f3 := blk_free hblk 3
  have f4 := blk_free hblk 4
  have f5 := blk_free hblk 5
  have hfu := h.fine.fuse1
  have hfv := h.fine.fuse2
  by_cases hn : 0 ≤ D.fuse
  · obtain rfl := hleft hn
    rw [decide_eq_true hn] at c4
    by_cases hz : D.fuse = 0
    · have hA : actE D = 40 := by unfold actE; rw [if_pos hz]
      have hD : actD D = { D with off := true, fuse := -1 } := by unfold actD; rw [if_pos hz]
      have hfin : RefAt ((w.setCell ⟨r, 3, none⟩ (.bool true)).setCell ⟨r, 4, none⟩ (.bool false)) r LB CB IB { D with off := true, fuse := -1 } ∧ Fr [r] w ((w.setCell ⟨r, 3, none⟩ (.bool true)).setCell ⟨r, 4, none⟩ (.bool false)) := by
        have hf := (Fr.setCell w ⟨r, 3, none⟩ (.bool true)).trans (Fr.setCell _ ⟨r, 4, none⟩ (.bool false))
        refine ⟨h.written true (-1) D.fuse hf (by omega) (by omega) (by omega) ?_, hf⟩
        rw [blk_set (blk_set hblk 3 _) 4 _]
        rfl
      have HF := Lib.hid hfin
      rw [hA, hD]
      rw [hz] at c5
      clear hA hD hfin h hblk hleft hn hfu hfv hz
      go_enter Try.func45, Try.ntmps45
      go_wp2
      go_ret
      exact ⟨rfl, HF.out⟩
    · have hA : actE D = 0 := by unfold actE; rw [if_neg hz]
      have hD : actD D = { D with off := D.off, fuse := D.fuse - 1 } := by unfold actD; rw [if_neg hz, if_pos (by omega)]
      have hfin : RefAt (w.setCell ⟨r, 5, none⟩ (.int .i64 (D.fuse - 1))) r LB CB IB { D with off := D.off, fuse := D.fuse - 1 } ∧ Fr [r] w (w.setCell ⟨r, 5, none⟩ (.int .i64 (D.fuse - 1))) := by
        have hf := Fr.setCell w ⟨r, 5, none⟩ (.int .i64 (D.fuse - 1))
        refine ⟨h.written D.off (D.fuse - 1) (D.fuse - 1) hf (by omega) (by omega) (by omega) ?_, hf⟩
        rw [blk_set hblk 5 _, decide_eq_true hn, decide_eq_true (show 0 ≤ D.fuse - 1 by omega)]
        rfl
      have HF := Lib.hid hfin
      have hw : IntKind.i64.wrap (D.fuse - 1) = D.fuse - 1 := by rw [IntKind.wrap_i64]; omega
      rw [hA, hD]
      clear hA hD hfin h hblk hleft hn hfu hfv
      generalize D.fuse = f at *
      go_enter Try.func45, Try.ntmps45
      go_wp2
      go_ret
      exact ⟨rfl, HF.out⟩
  · have hA : actE D = 0 := by unfold actE; rw [if_neg (by omega)]
    have hD : actD D = D := by unfold actD; rw [if_neg (by omega), if_neg (by omega)]
    have HF := Lib.hid (And.intro h (Fr.refl [r] w))
    rw [decide_eq_false hn] at c4
    rw [hA, hD]
    clear hA hD h hblk hleft hn hfu hfv
    go_enter Try.func45, Try.ntmps45
    go_wp2
    go_ret
    exact ⟨rfl, HF.out⟩

set_option maxHeartbeats 1000000 in
theorem rfuse_k {r LB CB IB : Nat} {D : Dv} (n : Int) (w : World) (h : RefAt w r LB CB IB D) (h1 : -9223372036854775808 ≤ n) (h2 : n ≤ 9223372036854775807) :
    Calls Try.prog 37 #[refP r, .int .i64 n] w fun e w' => e = .returned (.tuple #[]) ∧ RefAt w' r LB CB IB (D.fused n) ∧ Fr [r] w w' := by
  obtain ⟨left, hblk, hleft⟩ := h.blk
  have c4 := h.cells.2.2.2.2
  have c5 : w.cell? ⟨r, 5, none⟩ = some (.int .i64 left) := blk_cell hblk 5
  have f4 := blk_free hblk 4
  have f5 := blk_free hblk 5
  have hfin : RefAt ((w.setCell ⟨r, 4, none⟩ (.bool (decide (0 ≤ n)))).setCell ⟨r, 5, none⟩ (.int .i64 n)) r LB CB IB (D.fused n) ∧ Fr [r] w ((w.setCell ⟨r, 4, none⟩ (.bool (decide (0 ≤ n)))).setCell ⟨r, 5, none⟩ (.int .i64 n)) := by
    have hf := (Fr.setCell w ⟨r, 4, none⟩ (.bool (decide (0 ≤ n)))).trans (Fr.setCell _ ⟨r, 5, none⟩ (.int .i64 n))
    refine ⟨h.written D.off (max n (-1)) n hf (by omega) (by omega) (by omega) ?_, hf⟩
    rw [blk_set (blk_set hblk 4 _) 5 _]
    have e : decide (0 ≤ max n (-1)) = decide (0 ≤ n) := by
      by_cases hn : 0 ≤ n
      · rw [decide_eq_true hn, decide_eq_true (by omega)]
      · rw [decide_eq_false hn, decide_eq_false (by omega)]
    rw [e]
    rfl
  have HF := Lib.hid hfin
  clear hfin h hblk hleft
  go_enter Try.func37, Try.ntmps37
  go_wp2
  go_end0
  exact ⟨rfl, HF.out⟩

set_option maxHeartbeats 1000000 in
theorem in_k {S : List Nat} {v : Value} {l : List Int} (n : Int) (w : World) (h : Ints S w v l) (hl : l.length ≤ 9223372036854775807) :
    Calls Try.prog 46 #[v, .int .i64 n] w fun e w' => e = .returned (.bool (decide (n ∈ l))) ∧ w = w' := by
  obtain ⟨a, c, rfl, _⟩ := Slc.form h
  have HH := Lib.hid h
  clear h
  go_enter Try.func46, Try.ntmps46
  go_wp2_with fail
  go_loopw [5] (fun i wr => ∃ k : Nat, k ≤ l.length ∧ i = .int .i64 k ∧ w = wr ∧ n ∉ l.take k) (fun i _ => l.length - (intOf i).toNat)
  case atStart => exact ⟨0, Nat.zero_le _, rfl, rfl, by simp⟩
  case round =>
    obtain ⟨k, hkl, rfl, rfl, hni⟩ := hrel
    by_cases hlt : k < l.length
    · have hkI : (k : Int) < (l.length : Int) := by omega
      obtain ⟨B, off, rfl⟩ : ∃ B off, a = some ⟨B, off, none⟩ := by
        rcases HH.out with ⟨_, _, _, h0, _⟩ | ⟨B, off, cap, h, _⟩
        · omega
        · cases h; exact ⟨B, off, rfl⟩
      have hc := HH.out.at hlt
      by_cases he : l[k] = n
      · have HR : Hid (decide (n ∈ l) = true) := decide_eq_true (by rw [← he]; exact List.getElem_mem hlt)
        rw [he] at hc
        clear hni he
        go_wp2
        go_ret
        exact ⟨by rw [HR.out]; rfl, rfl⟩
      · have HN : Hid (n ∉ l.take (k + 1)) := Lib.hid (by
          rw [List.take_succ_eq_append_getElem hlt]
          intro hm
          rcases List.mem_append.1 hm with h | h
          · exact hni h
          · exact he (List.mem_singleton.1 h).symm)
        generalize l[k] = x at *
        clear hni
        go_wp2
        go_roundw
        case rel => exact ⟨k + 1, by omega, by go_num, trivial, HN.out⟩
        case measure => simp [intOf]; omega
    · have hkI : ¬ (k : Int) < (l.length : Int) := by omega
      have HR : Hid (decide (n ∈ l) = false) := decide_eq_false (by rw [List.take_of_length_le (by omega)] at hni; exact hni)
      clear hni
      go_wp2
      go_ret
      exact ⟨by rw [HR.out]; rfl, rfl⟩

set_option maxRecDepth 100000 in
set_option maxHeartbeats 1000000 in
theorem zero_k {S : List Nat} {v : Value} {l : List UInt8} (w : World) (h : Bytes S w v l) (hl : l.length = 1024) :
    Calls Try.prog 47 #[v] w fun e w' => e = .returned (.bool (decide (l = zeros))) ∧ w = w' := by
  obtain ⟨a, c, rfl, _⟩ := Slc.form h
  have HH := Lib.hid h
  clear h
  go_enter Try.func47, Try.ntmps47
  go_wp2_with fail
  go_loopw [3] (fun i wr => ∃ k : Nat, k ≤ l.length ∧ i = .int .i64 k ∧ w = wr ∧ l.take k = List.replicate k 0) (fun i _ => l.length - (intOf i).toNat)
  case atStart => exact ⟨0, Nat.zero_le _, rfl, rfl, rfl⟩
  case round =>
    obtain ⟨k, hkl, rfl, rfl, htk⟩ := hrel
    by_cases hlt : k < l.length
    · have hkI : (k : Int) < (l.length : Int) := by omega
      obtain ⟨B, off, rfl⟩ : ∃ B off, a = some ⟨B, off, none⟩ := by
        rcases HH.out with ⟨_, _, _, h0, _⟩ | ⟨B, off, cap, h, _⟩
        · omega
        · cases h; exact ⟨B, off, rfl⟩
      have hc := HH.out.at hlt
      by_cases he : l[k] = 0
      · have HN : Hid (l.take (k + 1) = List.replicate (k + 1) 0) := Lib.hid (by
          rw [List.take_succ_eq_append_getElem hlt, htk, he, List.replicate_succ'])
        rw [he] at hc
        clear htk he
        go_wp2
        go_roundw
        case rel => exact ⟨k + 1, by omega, by go_num, trivial, HN.out⟩
        case measure => simp [intOf]; omega
      · have HR : Hid (decide (l = zeros) = false) := decide_eq_false (fun e => he (by subst e; show (List.replicate 1024 (0 : UInt8))[k] = 0; exact List.getElem_replicate _))
        have hne : ¬ ((l[k].toNat : Int) = 0) := by
          intro e
          apply he
          apply UInt8.toNat_inj.1
          have : l[k].toNat = 0 := by omega
          rw [this]; rfl
        generalize l[k] = x at *
        clear htk he
        have hnb : ((x.toNat : Int) != 0) = true := by simp only [bne_iff_ne, ne_eq]; exact hne
        go_wp2
        go_ret
        exact ⟨by rw [HR.out]; rfl, rfl⟩
    · have hkI : ¬ (k : Int) < (l.length : Int) := by omega
      have HR : Hid (decide (l = zeros) = true) := decide_eq_true (by rw [List.take_of_length_le (by omega), show k = 1024 by omega] at htk; exact htk)
      clear htk
      go_wp2
      go_ret
      exact ⟨by rw [HR.out]; rfl, rfl⟩
end Go.Proofs.Ytgockpichhgijaa

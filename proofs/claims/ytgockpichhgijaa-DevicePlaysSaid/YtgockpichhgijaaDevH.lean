/- Spoil of a device, where it does something. -/
import Derived.Test.YtgockpichhgijaaDevG
namespace Go.Proofs.Ytgockpichhgijaa
open Go.RowKit Go.MapKept

theorem BM.put_new {S : List Nat} {w w2 : World} {r : Nat} {g : Int → Option (List UInt8)} (h : BM S w r g) (hr : r ∈ S) (k : Int) (hf : Fr [] w w2) {B n : Nat} (hB : w.heap.size ≤ B) (hBS : B ∉ S) :
    ∃ w3, (Instr.mapUpdate 58 (.map (some r)) (.int .i64 k) (.slice (some ⟨B, 0, none⟩) n n)).run Try.prog w2 = .ok () w3 ∧
      (∀ c, (Instr.lookup 58 (.map (some r)) (.int .i64 k) c).run Try.prog w3 = .ok (if c then .tuple #[.slice (some ⟨B, 0, none⟩) n n, .bool true] else .slice (some ⟨B, 0, none⟩) n n) w3) ∧ Fr [r] w2 w3 ∧ w3.heap.size = w2.heap.size ∧
      (∀ w4 l, Fr [B] w3 w4 → Blk w4 B l → l.length = n → BM S w4 r (upd g k (some l))) := by
  have hlt := h.lt
  obtain ⟨f, hm, hg⟩ := h
  have hm2 : MapG (Value.int .i64) w2 r f := hm.kept hf (by simp)
  obtain ⟨w3, hrun, hm3, hf3, hs3⟩ := hm2.update (P := Try.prog) keInt Try.underlying58 Try.underlying3 k (.slice (some ⟨B, 0, none⟩) n n)
  refine ⟨w3, hrun, fun c => hm3.lookup_some keInt Try.underlying58 Try.underlying3 (upd_same _ _ _) c, hf3, hs3, fun w4 l hf4 hb hl => ?_⟩
  have hm4 := hm3.kept hf4 (by simp; omega)
  refine ⟨_, hm4, fun j => ?_⟩
  by_cases hj : j = k
  · subst hj
    rw [upd_same, upd_same]
    exact ⟨fun h => (by cases h), fun l' h => (by cases h; exact ⟨_, rfl, hb.bytes hBS hl⟩)⟩
  · rw [upd_ne _ _ hj, upd_ne _ _ hj]
    refine ⟨(hg j).1, fun l' h => ?_⟩
    obtain ⟨u, hu, hbu⟩ := (hg j).2 l' h
    have h1 : Bytes (B :: S) w u l' := hbu.more (by intro x hx; rcases List.mem_cons.1 hx with rfl | hx <;> simp_all)
    have hfr : Fr (B :: S) w w4 := (hf.nil.trans (hf3.mono (by simp [hr]))).trans (hf4.mono (by simp))
    exact ⟨u, hu, (h1.kept hfr).mono (by simp_all)⟩

theorem xor_u8 (a c : UInt8) : bits BinOp.xor IntKind.u8 (a.toNat : Int) (c.toNat : Int) = ((a ^^^ c).toNat : Int) := by
  have ha := a.toNat_lt
  have hc := c.toNat_lt
  have hx : a.toNat ^^^ c.toNat < 2 ^ 8 := Nat.xor_lt_two_pow (by omega) (by omega)
  have h1 : (BitVec.ofInt 8 (a.toNat : Int)).toNat = a.toNat := by
    rw [BitVec.ofInt_natCast, BitVec.toNat_ofNat]; exact Nat.mod_eq_of_lt (by omega)
  have h2 : (BitVec.ofInt 8 (c.toNat : Int)).toNat = c.toNat := by
    rw [BitVec.ofInt_natCast, BitVec.toNat_ofNat]; exact Nat.mod_eq_of_lt (by omega)
  show IntKind.u8.wrap ((BitVec.ofInt 8 (a.toNat : Int) ^^^ BitVec.ofInt 8 (c.toNat : Int)).toNat : Int) = _
  rw [BitVec.toNat_xor, h1, h2, UInt8.toNat_xor]
  simp only [IntKind.wrap, IntKind.bits, IntKind.signed, Bool.false_and, Bool.false_eq_true, if_false]
  omega

theorem spoiled_length (l : List UInt8) (a : Int) (x : UInt8) : (spoiled l a x).length = l.length := by simp [spoiled]

theorem Blk.set {w : World} {B : Nat} {l : List UInt8} (h : Blk w B l) (i : Nat) (x : UInt8) : Blk (w.setCell ⟨B, i, none⟩ (byteV x)) B (l.set i x) := by
  unfold Blk at *
  rw [blk_set h]
  congr 2
  apply Array.ext'
  simp [List.map_set]
theorem Blk.cell {w : World} {B : Nat} {l : List UInt8} (h : Blk w B l) {i : Nat} (hi : i < l.length) : w.cell? ⟨B, i, none⟩ = some (.int .u8 (l.getD i 0).toNat) := by
  unfold Blk at h
  rw [blk_cell h]
  simp [List.getD, hi, byteV]

set_option maxRecDepth 100000 in
set_option maxHeartbeats 1000000 in
theorem spoil_k {b ml mc : Nat} {D : Dv} (k a : Int) (x : UInt8) (w : World) (h : DevAt w b ml mc D) (hr : spoilE D k a = 0) :
    Calls Try.prog 26 #[devP b, .int .i64 k, .int .i64 a, byteV x] w fun e w' => e = .returned (.int .i64 0) ∧ DevAt w' b ml mc (spoilD D k a x) ∧ Fr [ml, mc] w w' := by
  obtain ⟨c0, c1, c2, c3, c4⟩ := h.cells
  have hlt := h.lt
  have hr' := hr
  unfold spoilE at hr'
  have hk : 0 ≤ k ∧ k < D.n := by
    split at hr'
    · cases hr'
    · omega
  rw [if_neg (by omega)] at hr'
  have ha : 0 ≤ a ∧ a < 1024 := by
    split at hr'
    · cases hr'
    · omega
  obtain ⟨hk0, hk1⟩ := hk
  obtain ⟨ha0, ha1⟩ := ha
  clear hr'
  unfold spoilD
  rw [if_pos hr]
  unfold byteV
  cases hc : D.cache k with
  | some l =>
    simp only []
    obtain ⟨v, hrun, hb⟩ := h.cacheM.look_some hc true
    obtain ⟨v', hrun', hb'⟩ := h.cacheM.look_some hc false
    simp only [if_true] at hrun
    simp only [Bool.false_eq_true, if_false] at hrun'
    have hl := (h.fine.keysC k l hc).2.2
    have HW := Lib.hid (whole_k w hb' (by omega))
    rw [pad_full hl] at HW
    have HH := Lib.hid h
    have HR := Lib.hid hr
    clear hr h hb hb' hc
    go_enter Try.func26, Try.ntmps26
    go_wp2_with (first | (go_at_call 30; refine HW.out.mono ?_; rintro e w2 ⟨rfl, hbk, hfr, hsz⟩; obtain ⟨w3, hmu, hlk, hf3, hs3, hgo⟩ := HH.out.cacheM.put_new (n := 1024) (by simp) k hfr (Nat.le_refl _) (by simp; omega); have hlk' := hlk false; simp only [Bool.false_eq_true, if_false] at hlk'; clear hlk; have hbk3 : Blk w3 w.heap.size l := Blk.kept hbk hf3 (by simp; omega); have hcl := hbk3.cell (i := a.toNat) (by omega); have hfz := blk_free hbk3 a.toNat; have HX := Lib.hid (And.intro hbk3 (And.intro hfr (And.intro hf3 hgo))); clear hbk hbk3 hfr hsz hf3 hs3 hgo))
    go_ret
    obtain ⟨hbk3, hfr, hf3, hgo⟩ := HX.out
    have hb4 := hbk3.set a.toNat (l.getD a.toNat 0 ^^^ x)
    have hf4 : Fr [w.heap.size] w3 (w3.setCell ⟨w.heap.size, a.toNat, none⟩ (byteV (l.getD a.toNat 0 ^^^ x))) := Fr.setCell w3 ⟨w.heap.size, a.toNat, none⟩ _
    have hbm := hgo _ (spoiled l a x) hf4 hb4 ((spoiled_length _ _ _).trans hl)
    have hfr4 : Fr [mc] w (w3.setCell ⟨w.heap.size, a.toNat, none⟩ (byteV (l.getD a.toNat 0 ^^^ x))) := ((hfr.nil (S := [mc])).trans hf3).andThen hf4 (by simp)
    have hw : Value.int IntKind.u8 (bits BinOp.xor IntKind.u8 ((l[a.toNat]).toNat : Int) (x.toNat : Int)) = byteV (l.getD a.toNat 0 ^^^ x) := by
      rw [xor_u8]; simp [byteV, List.getD, hl, show a.toNat < 1024 from by omega]
    rw [hw]
    refine ⟨rfl, HH.out.cacheIs hfr4 hbm (upd_keys HH.out.fine.keysC hk0 hk1 ((spoiled_length _ _ _).trans hl)), hfr4.mono (by simp)⟩
  | none =>
    simp only []
    have hrun := h.cacheM.look_none hc true
    simp only [if_true] at hrun
    obtain ⟨v', l, hrun', hb', hl, hle⟩ : ∃ v' l, (Instr.lookup 58 (.map (some ml)) (.int .i64 k) false).run Try.prog w = .ok v' w ∧ Calls Try.prog 30 #[v'] w (fun e w' => e = .returned (.slice (some ⟨w.heap.size, 0, none⟩) 1024 1024) ∧
      w'.heap[w.heap.size]? = some (.cells (l.map byteV).toArray 5 (0, 0)) ∧ Fr [] w w' ∧ w'.heap.size = w.heap.size + 1) ∧ l.length = 1024 ∧ (D.last k).getD zeros = l := by
      cases hlk : D.last k with
      | some l =>
        obtain ⟨v', hrun', hb'⟩ := h.lastM.look_some hlk false
        simp only [Bool.false_eq_true, if_false] at hrun'
        have hl := (h.fine.keysL k l hlk).2.2
        have hw := whole_k w hb' (by omega)
        rw [pad_full hl] at hw
        exact ⟨v', l, hrun', hw, hl, rfl⟩
      | none =>
        have hrun' := h.lastM.look_none hlk false
        simp only [Bool.false_eq_true, if_false] at hrun'
        have hw := whole_k (S := []) w (Bytes.nil [] w) (by simp)
        rw [pad_nil] at hw
        exact ⟨_, zeros, hrun', hw, zeros_length, rfl⟩
    rw [hle]
    have HW := Lib.hid hb'
    have HH := Lib.hid h
    have HR := Lib.hid hr
    have HL := Lib.hid hle
    clear hr h hb' hc hle
    go_enter Try.func26, Try.ntmps26
    go_wp2_with (first | (go_at_call 30; refine HW.out.mono ?_; rintro e w2 ⟨rfl, hbk, hfr, hsz⟩; obtain ⟨w3, hmu, hlk, hf3, hs3, hgo⟩ := HH.out.lastM.put_new (n := 1024) (by simp) k hfr (Nat.le_refl _) (by simp; omega); have hlk' := hlk false; simp only [Bool.false_eq_true, if_false] at hlk'; clear hlk; have hbk3 : Blk w3 w.heap.size l := Blk.kept hbk hf3 (by simp; omega); have hcl := hbk3.cell (i := a.toNat) (by omega); have hfz := blk_free hbk3 a.toNat; have HX := Lib.hid (And.intro hbk3 (And.intro hfr (And.intro hf3 hgo))); clear hbk hbk3 hfr hsz hf3 hs3 hgo))
    go_ret
    obtain ⟨hbk3, hfr, hf3, hgo⟩ := HX.out
    have hb4 := hbk3.set a.toNat (l.getD a.toNat 0 ^^^ x)
    have hf4 : Fr [w.heap.size] w3 (w3.setCell ⟨w.heap.size, a.toNat, none⟩ (byteV (l.getD a.toNat 0 ^^^ x))) := Fr.setCell w3 ⟨w.heap.size, a.toNat, none⟩ _
    have hbm := hgo _ (spoiled l a x) hf4 hb4 ((spoiled_length _ _ _).trans hl)
    have hfr4 : Fr [ml] w (w3.setCell ⟨w.heap.size, a.toNat, none⟩ (byteV (l.getD a.toNat 0 ^^^ x))) := ((hfr.nil (S := [ml])).trans hf3).andThen hf4 (by simp)
    have hw : Value.int IntKind.u8 (bits BinOp.xor IntKind.u8 ((l[a.toNat]).toNat : Int) (x.toNat : Int)) = byteV (l.getD a.toNat 0 ^^^ x) := by
      rw [xor_u8]; simp [byteV, List.getD, hl, show a.toNat < 1024 from by omega]
    rw [hw]
    refine ⟨rfl, HH.out.lastIs hfr4 hbm (upd_keys HH.out.fine.keysL hk0 hk1 ((spoiled_length _ _ _).trans hl)), hfr4.mono (by simp)⟩
end Go.Proofs.Ytgockpichhgijaa

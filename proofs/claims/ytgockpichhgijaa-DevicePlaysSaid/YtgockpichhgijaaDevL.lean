/- kept, Lasting, Cached of a device. -/
import Derived.Test.YtgockpichhgijaaDevK
namespace Go.Proofs.Ytgockpichhgijaa
open Go.RowKit Go.MapKept

theorem Try.infoKept : (Try.prog.info? 53).map (fun i => (i.zero, i.size, i.bytes)) = some (some (.agg #[.int .i64 0, .slice none 0 0]), 2, 32) := by kernel_rfl

/-- A row of sectors and their bytes: the sector, the value that lies there, what it reads as. -/
abbrev KT := Int × Value × List UInt8
def ktCells (T : List KT) : List Value := T.flatMap fun t => [.int .i64 t.1, t.2.1]
def ktL (T : List KT) : List (Int × List UInt8) := T.map fun t => (t.1, t.2.2)
theorem ktCells_length (T : List KT) : (ktCells T).length = T.length * 2 := by
  induction T with
  | nil => rfl
  | cons t T ih => simp [ktCells] at ih ⊢; omega
theorem ktCells_snoc (T : List KT) (t : KT) : ktCells (T ++ [t]) = ktCells T ++ [.int .i64 t.1, t.2.1] := by simp [ktCells]
theorem ktL_snoc (T : List KT) (t : KT) : ktL (T ++ [t]) = ktL T ++ [(t.1, t.2.2)] := by simp [ktL]

/-- v reads as a list of sectors and their bytes. -/
def Kepts (S : List Nat) (w : World) (v : Value) (L : List (Int × List UInt8)) : Prop :=
  ∃ T : List KT, ktL T = L ∧ Slc S w v T.length (ktCells T) ∧ ∀ t ∈ T, Bytes S w t.2.1 t.2.2
theorem Kepts.kept {S : List Nat} {w w' : World} {v : Value} {L : List (Int × List UInt8)} (h : Kepts S w v L) (hf : Fr S w w') : Kepts S w' v L := by
  obtain ⟨T, h1, h2, h3⟩ := h
  exact ⟨T, h1, h2.kept hf, fun t ht => (h3 t ht).kept hf⟩
theorem Kepts.more {S S' : List Nat} {w : World} {v : Value} {L : List (Int × List UInt8)} (h : Kepts S w v L) (hs : ∀ x, x ∈ S' → x ∈ S ∨ w.heap.size ≤ x) : Kepts S' w v L := by
  obtain ⟨T, h1, h2, h3⟩ := h
  exact ⟨T, h1, h2.more hs, fun t ht => (h3 t ht).more hs⟩
theorem Kepts.form {S : List Nat} {w : World} {v : Value} {L : List (Int × List UInt8)} (h : Kepts S w v L) : ∃ a cap, v = .slice a L.length cap ∧ L.length ≤ cap := by
  obtain ⟨T, rfl, h2, _⟩ := h
  obtain ⟨a, cap, hv, hc⟩ := h2.form
  exact ⟨a, cap, by simpa [ktL] using hv, by simpa [ktL] using hc⟩

def keepSel (z : Bool) (g : Int → Option (List UInt8)) (k : Int) : Option (Int × List UInt8) :=
  match g k with
  | some l => if z || !decide (l = zeros) then some (k, l) else none
  | none => none
def keptL (z : Bool) (n : Nat) (g : Int → Option (List UInt8)) : List (Int × List UInt8) := (keysOf n g).filterMap (keepSel z g)

/-- A content of the call's own. -/
def KNew (w : World) (base : Nat) (t : KT) : Prop := ∃ B, t.2.1 = .slice (some ⟨B, 0, none⟩) 1024 1024 ∧ base ≤ B ∧ Blk w B t.2.2 ∧ t.2.2.length = 1024

structure KIn (w w2 wr : World) (z : Bool) (g : Int → Option (List UInt8)) (K : List Int) (k : Nat) (v : Value) (T : List KT) : Prop where
  row : wr.ownsRow w2.heap.size 53 2 v T.length (ktCells T)
  new : ∀ t ∈ T, KNew wr w2.heap.size t
  is : ktL T = (K.take k).filterMap (keepSel z g)
  fr : Fr [] w2 wr

theorem KNew.kept {w w' : World} {base : Nat} {t : KT} {S : List Nat} (h : KNew w base t) (hf : Fr S w w') (hs : ∀ B, t.2.1 = .slice (some ⟨B, 0, none⟩) 1024 1024 → B ∉ S) : KNew w' base t := by
  obtain ⟨B, h1, h2, h3, h4⟩ := h
  exact ⟨B, h1, h2, h3.kept hf (hs B h1), h4⟩

theorem KIn.end {w w2 wr : World} {z : Bool} {g : Int → Option (List UInt8)} {n : Nat} {v : Value} {T : List KT} {k : Nat} (h : KIn w w2 wr z g (keysOf n g) k v T) (hk : (keysOf n g).length ≤ k) (hw : w.heap.size ≤ w2.heap.size) {S : List Nat} (hS : ∀ x, x ∈ S → x < w.heap.size) :
    Kepts S wr v (keptL z n g) := by
  refine ⟨T, ?_, Slc.ofOwns h.row (fun x hx => by have := hS x hx; omega), fun t ht => ?_⟩
  · rw [h.is, List.take_of_length_le hk]; rfl
  · obtain ⟨B, h1, h2, h3, h4⟩ := h.new t ht
    rw [h1]
    exact h3.bytes (fun hm => by have := hS B hm; omega) h4

/-- A round that adds nothing. -/
theorem KIn.skip {w w2 wr wr' : World} {z : Bool} {g : Int → Option (List UInt8)} {K : List Int} {k : Nat} {v : Value} {T : List KT} (h : KIn w w2 wr z g K k v T) (hf : Fr [] wr wr') (hk : k < K.length) (hs : keepSel z g K[k] = none) : KIn w w2 wr' z g K (k + 1) v T :=
  ⟨ownsKept h.row hf (by simp), fun t ht => (h.new t ht).kept hf (by simp), by rw [List.take_succ_eq_append_getElem hk, List.filterMap_append, ← h.is]; simp [hs], h.fr.trans hf⟩

/-- A round that adds an entry. -/
theorem KIn.add {w w2 wr w3 w5 : World} {z : Bool} {g : Int → Option (List UInt8)} {K : List Int} {k : Nat} {v v' : Value} {T : List KT} (h : KIn w w2 wr z g K k v T) (hf : Fr [] wr w3) (hk : k < K.length) {B : Nat} {l : List UInt8} (hs : keepSel z g K[k] = some (K[k], l))
    (hB : wr.heap.size ≤ B) (hblk : Blk w3 B l) (hl : l.length = 1024) (hrow : w5.ownsRow w2.heap.size 53 2 v' (T.length + 1) (ktCells T ++ [.int .i64 K[k], .slice (some ⟨B, 0, none⟩) 1024 1024])) (hf5 : Fr v.ownBlock.toList w3 w5) :
    KIn w w2 w5 z g K (k + 1) v' (T ++ [(K[k], .slice (some ⟨B, 0, none⟩) 1024 1024, l)]) := by
  have hv : ∀ b, v.ownBlock = some b → w2.heap.size ≤ b ∧ b < wr.heap.size := h.row.lt
  have hvb : ∀ b l', v.ownBlock = some b → ¬ Blk w3 b l' := by
    intro b l' hb hblk'
    have hr := ownsKept h.row hf (by simp)
    obtain ⟨_, ⟨rfl, _⟩ | ⟨gg, cap, cur, rfl, _, hg, _⟩⟩ := hr
    · simp [Value.ownBlock] at hb
    · simp [Value.ownBlock] at hb
      subst hb
      unfold Blk at hblk'
      rw [hg] at hblk'
      simp at hblk'
  have hkeep : ∀ b l', Blk w3 b l' → b ∉ v.ownBlock.toList := by
    intro b l' hb hm
    cases hvo : v.ownBlock with
    | none => simp [hvo] at hm
    | some x => simp [hvo] at hm; subst hm; exact hvb _ _ hvo hb
  refine ⟨?_, fun t ht => ?_, ?_, ?_⟩
  · rw [List.length_append, ktCells_snoc]; exact hrow
  · rcases List.mem_append.1 ht with ht | ht
    · obtain ⟨B', h1, h2, h3, h4⟩ := (h.new t ht).kept hf (by simp)
      exact ⟨B', h1, h2, h3.kept hf5 (hkeep _ _ h3), h4⟩
    · simp only [List.mem_singleton] at ht
      subst ht
      exact ⟨B, rfl, by have := h.fr.size; omega, hblk.kept hf5 (hkeep _ _ hblk), hl⟩
  · rw [List.take_succ_eq_append_getElem hk, List.filterMap_append, ktL_snoc, ← h.is]; simp [hs]
  · exact (h.fr.trans hf).andThen hf5 (fun x hx => by
      right
      cases hvo : v.ownBlock with
      | none => simp [hvo] at hx
      | some y => simp [hvo] at hx; subst hx; exact (hv _ hvo).1)

set_option maxRecDepth 100000 in
set_option maxHeartbeats 2000000 in
theorem kept_true_k {S0 : List Nat} {r n : Nat} {g : Int → Option (List UInt8)} (w : World) (h : BM S0 w r g) (hk : ∀ k l, g k = some l → 0 ≤ k ∧ k < n ∧ l.length = 1024) (hn : n ≤ 4096) :
    Calls Try.prog 33 #[.map (some r), .bool true] w fun e w' => ∃ v, e = .returned v ∧ (∀ S : List Nat, (∀ x, x ∈ S → x < w.heap.size) → Kepts S w' v (keptL true n g)) ∧ Fr [] w w' := by
  have HB := Lib.hid h
  have HK := Lib.hid hk
  clear h hk
  go_enter Try.func33, Try.ntmps33
  go_wp2_with fail
  refine (keys_k _ _).mono ?_
  rintro e w1 ⟨rfl, rfl⟩
  go_wp2_with fail
  refine (sorted_k (S := S0) (r := r) (n := n) (g := g) w HB.out (fun k l h => ⟨(HK.out k l h).1, (HK.out k l h).2.1⟩) hn).mono ?_
  rintro e w2 ⟨vk, rfl, hrow, hf2⟩
  have hlen := keysOf_length n g
  obtain ⟨ak, ck, rfl, _⟩ := (Slc.ofOwns (S := []) hrow (by simp)).form
  have hKI : Ints [] w2 (.slice ak (keysOf n g).length ck) (keysOf n g) := Slc.ofOwns hrow (by simp)
  have HI := Lib.hid hKI
  have HF2 := Lib.hid hf2
  have hKK : Hid (∀ k ∈ keysOf n g, (g k).isSome) := fun k hkm => (mem_keysOf (fun k l h => ⟨(HK.out k l h).1, (HK.out k l h).2.1⟩)).1 hkm
  have HEND : Hid (∀ (wr : World) k v T, KIn w w2 wr true g (keysOf n g) k v T → (keysOf n g).length ≤ k → (∀ S : List Nat, (∀ x, x ∈ S → x < w.heap.size) → Kepts S wr v (keptL true n g)) ∧ Fr [] w wr) :=
    fun wr k v T hkin hle => ⟨fun S hS => hkin.end hle HF2.out.size hS, HF2.out.trans hkin.fr⟩
  clear hrow hf2 hKI
  generalize keysOf n g = K at *
  go_wp2_with fail
  go_loopw [4, 12] (fun v i wr => ∃ (k : Nat) (T : List KT), k ≤ K.length ∧ T.length ≤ k ∧ i = .int .i64 k ∧ KIn w w2 wr true g K k v T) (fun _ i _ => K.length - (intOf i).toNat)
  case atStart => exact ⟨0, [], Nat.zero_le _, Nat.le_refl _, rfl, ⟨World.ownsRow_nil _ _ _ _, by simp, by simp [ktL], Fr.refl _ _⟩⟩
  case round =>
    obtain ⟨k, T, hkl, hTk, rfl, hin⟩ := hrel
    by_cases hlt : k < K.length
    · obtain ⟨B, off, rfl⟩ : ∃ B off, ak = some ⟨B, off, none⟩ := by
        rcases HI.out with ⟨_, _, _, h0, _⟩ | ⟨B, off, cap, h, _⟩
        · omega
        · cases h; exact ⟨B, off, rfl⟩
      have hcell := (HI.out.kept hin.fr).at hlt
      obtain ⟨l, hgl⟩ := Option.isSome_iff_exists.1 (hKK.out K[k] (List.getElem_mem hlt))
      have hl := (HK.out _ l hgl).2.2
      have hsel : keepSel true g K[k] = some (K[k], l) := by simp [keepSel, hgl]
      have HIN := Lib.hid hin
      have HADD : Hid (∀ w3 w5 v' B, Fr [] wr w3 → wr.heap.size ≤ B → Blk w3 B l → w5.ownsRow w2.heap.size 53 2 v' (T.length + 1) (ktCells T ++ [.int .i64 K[k], .slice (some ⟨B, 0, none⟩) 1024 1024]) → Fr u4.ownBlock.toList w3 w5 → KIn w w2 w5 true g K (k + 1) v' (T ++ [(K[k], .slice (some ⟨B, 0, none⟩) 1024 1024, l)])) :=
        fun w3 w5 v' B hf hB hb hr hf5 => HIN.out.add hf hlt hsel hB hb hl hr hf5
      obtain ⟨vl, hlook, hbl⟩ := (HB.out.kept (HF2.out.trans hin.fr).nil ((HF2.out.trans hin.fr).block _ HB.out.lt (by simp))).look_some hgl false
      simp only [Bool.false_eq_true, if_false] at hlook
      have HBL := Lib.hid hbl
      clear hin hgl hsel hbl
      generalize K[k] = nk at *
      go_wp2_with fail
      refine (whole_k _ HBL.out (by omega)).mono ?_
      rintro e w3 ⟨rfl, hb3, hf3, hs3⟩
      rw [pad_full hl] at hb3
      have HB3 := Lib.hid (And.intro hb3 hf3)
      have hrow3 := ownsKept (ownsKept HIN.out.row hf3 (by simp)) (Fr.alloc1 w3 (.cells #[.int .i64 nk, .slice (some ⟨wr.heap.size, 0, none⟩) 1024 1024] 53)) (by simp)
      have hnew : Slc [] (w3.alloc (.cells #[.int .i64 nk, .slice (some ⟨wr.heap.size, 0, none⟩) 1024 1024] 53)) (.slice (some ⟨w3.heap.size, 0, none⟩) 1 1) 1 [.int .i64 nk, .slice (some ⟨wr.heap.size, 0, none⟩) 1024 1024] :=
        Slc.ofBlock (blk_new w3 _) (by simp) 1 1 (Nat.le_refl _)
      obtain ⟨v', w5, hap, hrow5, hf5, _⟩ := run_append_slc (P := Try.prog) (t := 37) (ty := 37) Try.underlying37 Try.infoKept rfl (by decide) hrow3 hnew (by simp) (by simp [Value.oneCell']) (by unfold maxLen; omega) (by omega) (by have := HIN.out.fr.size; simp; omega)
      have HAP := Lib.hid hap
      have HFIN := Lib.hid (HADD.out _ w5 v' wr.heap.size (hf3.trans (Fr.alloc1 w3 _)) (Nat.le_refl _) (Blk.kept hb3 (Fr.alloc1 w3 _) (by simp)) hrow5 hf5)
      clear hrow3 hnew hap hrow5 hf5 hb3 hf3 hs3
      go_wp2_with (at_builtin; refine wpList_append_run rfl _ _ _ rfl HAP.out ?_)
      go_roundw
      case rel => exact ⟨k + 1, _, by omega, by simp; omega, by go_num, HFIN.out⟩
      case measure => simp [intOf]; omega
    · have HE2 := Lib.hid (HEND.out wr k u4 T hin (by omega))
      clear hin
      go_wp2
      go_ret
      exact ⟨_, rfl, HE2.out⟩
set_option maxRecDepth 100000 in
set_option maxHeartbeats 2000000 in
theorem kept_false_k {S0 : List Nat} {r n : Nat} {g : Int → Option (List UInt8)} (w : World) (h : BM S0 w r g) (hk : ∀ k l, g k = some l → 0 ≤ k ∧ k < n ∧ l.length = 1024) (hn : n ≤ 4096) :
    Calls Try.prog 33 #[.map (some r), .bool false] w fun e w' => ∃ v, e = .returned v ∧ (∀ S : List Nat, (∀ x, x ∈ S → x < w.heap.size) → Kepts S w' v (keptL false n g)) ∧ Fr [] w w' := by
  have HB := Lib.hid h
  have HK := Lib.hid hk
  clear h hk
  go_enter Try.func33, Try.ntmps33
  go_wp2_with fail
  refine (keys_k _ _).mono ?_
  rintro e w1 ⟨rfl, rfl⟩
  go_wp2_with fail
  refine (sorted_k (S := S0) (r := r) (n := n) (g := g) w HB.out (fun k l h => ⟨(HK.out k l h).1, (HK.out k l h).2.1⟩) hn).mono ?_
  rintro e w2 ⟨vk, rfl, hrow, hf2⟩
  have hlen := keysOf_length n g
  obtain ⟨ak, ck, rfl, _⟩ := (Slc.ofOwns (S := []) hrow (by simp)).form
  have hKI : Ints [] w2 (.slice ak (keysOf n g).length ck) (keysOf n g) := Slc.ofOwns hrow (by simp)
  have HI := Lib.hid hKI
  have HF2 := Lib.hid hf2
  have hKK : Hid (∀ k ∈ keysOf n g, (g k).isSome) := fun k hkm => (mem_keysOf (fun k l h => ⟨(HK.out k l h).1, (HK.out k l h).2.1⟩)).1 hkm
  have HEND : Hid (∀ (wr : World) k v T, KIn w w2 wr false g (keysOf n g) k v T → (keysOf n g).length ≤ k → (∀ S : List Nat, (∀ x, x ∈ S → x < w.heap.size) → Kepts S wr v (keptL false n g)) ∧ Fr [] w wr) :=
    fun wr k v T hkin hle => ⟨fun S hS => hkin.end hle HF2.out.size hS, HF2.out.trans hkin.fr⟩
  clear hrow hf2 hKI
  generalize keysOf n g = K at *
  go_wp2_with fail
  go_loopw [4, 12] (fun v i wr => ∃ (k : Nat) (T : List KT), k ≤ K.length ∧ T.length ≤ k ∧ i = .int .i64 k ∧ KIn w w2 wr false g K k v T) (fun _ i _ => K.length - (intOf i).toNat)
  case atStart => exact ⟨0, [], Nat.zero_le _, Nat.le_refl _, rfl, ⟨World.ownsRow_nil _ _ _ _, by simp, by simp [ktL], Fr.refl _ _⟩⟩
  case round =>
    obtain ⟨k, T, hkl, hTk, rfl, hin⟩ := hrel
    by_cases hlt : k < K.length
    · obtain ⟨B, off, rfl⟩ : ∃ B off, ak = some ⟨B, off, none⟩ := by
        rcases HI.out with ⟨_, _, _, h0, _⟩ | ⟨B, off, cap, h, _⟩
        · omega
        · cases h; exact ⟨B, off, rfl⟩
      have hcell := (HI.out.kept hin.fr).at hlt
      obtain ⟨l, hgl⟩ := Option.isSome_iff_exists.1 (hKK.out K[k] (List.getElem_mem hlt))
      have hl := (HK.out _ l hgl).2.2
      have HIN := Lib.hid hin
      obtain ⟨vl, hlook, hbl⟩ := (HB.out.kept (HF2.out.trans hin.fr).nil ((HF2.out.trans hin.fr).block _ HB.out.lt (by simp))).look_some hgl false
      simp only [Bool.false_eq_true, if_false] at hlook
      have HBL := Lib.hid hbl
      by_cases hz : l = zeros
      · have hsel : keepSel false g K[k] = none := by simp [keepSel, hgl, hz]
        have HSK : Hid (∀ wr', Fr [] wr wr' → KIn w w2 wr' false g K (k + 1) u4 T) := fun wr' hf => HIN.out.skip hf hlt hsel
        have hd : decide (l = zeros) = true := decide_eq_true hz
        clear hin hgl hsel hbl hz
        generalize K[k] = nk at *
        go_wp2_with fail
        refine (whole_k _ HBL.out (by omega)).mono ?_
        rintro e w3 ⟨rfl, hb3, hf3, hs3⟩
        rw [pad_full hl] at hb3
        have HB3 := Lib.hid (And.intro hb3 hf3)
        clear hb3 hf3 hs3
        go_wp2_with fail
        refine (whole_k (S := []) _ (Bytes.nil _ _) (by simp)).mono ?_
        rintro e w4 ⟨rfl, hb4, hf4, hs4⟩
        rw [pad_nil] at hb4
        have HB4 := Lib.hid (And.intro hb4 hf4)
        clear hb4 hf4 hs4
        go_wp2_with fail
        refine (equal_k (S := []) (S' := []) w4 (Blk.bytes (Blk.kept HB3.out.1 HB4.out.2 (by simp)) (by simp) hl) (Blk.bytes HB4.out.1 (by simp) zeros_length)).mono ?_
        rintro e w' ⟨rfl, rfl⟩
        go_wp2
        go_roundw
        case rel => exact ⟨k + 1, T, by omega, by omega, by go_num, HSK.out _ (HB3.out.2.trans HB4.out.2)⟩
        case measure => simp [intOf]; omega
      · have hsel : keepSel false g K[k] = some (K[k], l) := by simp [keepSel, hgl, hz]
        have HADD : Hid (∀ w3 w5 v' B, Fr [] wr w3 → wr.heap.size ≤ B → Blk w3 B l → w5.ownsRow w2.heap.size 53 2 v' (T.length + 1) (ktCells T ++ [.int .i64 K[k], .slice (some ⟨B, 0, none⟩) 1024 1024]) → Fr u4.ownBlock.toList w3 w5 → KIn w w2 w5 false g K (k + 1) v' (T ++ [(K[k], .slice (some ⟨B, 0, none⟩) 1024 1024, l)])) :=
          fun w3 w5 v' B hf hB hb hr hf5 => HIN.out.add hf hlt hsel hB hb hl hr hf5
        have hd : decide (l = zeros) = false := decide_eq_false hz
        clear hin hgl hsel hbl hz
        generalize K[k] = nk at *
        go_wp2_with fail
        refine (whole_k _ HBL.out (by omega)).mono ?_
        rintro e w3 ⟨rfl, hb3, hf3, hs3⟩
        rw [pad_full hl] at hb3
        have HB3 := Lib.hid (And.intro hb3 hf3)
        clear hb3 hf3 hs3
        go_wp2_with fail
        refine (whole_k (S := []) _ (Bytes.nil _ _) (by simp)).mono ?_
        rintro e w4 ⟨rfl, hb4, hf4, hs4⟩
        rw [pad_nil] at hb4
        have HB4 := Lib.hid (And.intro hb4 hf4)
        clear hb4 hf4 hs4
        go_wp2_with fail
        refine (equal_k (S := []) (S' := []) w4 (Blk.bytes (Blk.kept HB3.out.1 HB4.out.2 (by simp)) (by simp) hl) (Blk.bytes HB4.out.1 (by simp) zeros_length)).mono ?_
        rintro e w' ⟨rfl, rfl⟩
        have hf34 := HB3.out.2.trans HB4.out.2
        have hrow3 := ownsKept (ownsKept HIN.out.row hf34 (by simp)) (Fr.alloc1 w4 (.cells #[.int .i64 nk, .slice (some ⟨wr.heap.size, 0, none⟩) 1024 1024] 53)) (by simp)
        have hnew : Slc [] (w4.alloc (.cells #[.int .i64 nk, .slice (some ⟨wr.heap.size, 0, none⟩) 1024 1024] 53)) (.slice (some ⟨w4.heap.size, 0, none⟩) 1 1) 1 [.int .i64 nk, .slice (some ⟨wr.heap.size, 0, none⟩) 1024 1024] :=
          Slc.ofBlock (blk_new w4 _) (by simp) 1 1 (Nat.le_refl _)
        obtain ⟨v', w5, hap, hrow5, hf5, _⟩ := run_append_slc (P := Try.prog) (t := 37) (ty := 37) Try.underlying37 Try.infoKept rfl (by decide) hrow3 hnew (by simp) (by simp [Value.oneCell']) (by unfold maxLen; omega) (by omega) (by have := HIN.out.fr.size; have := hf34.size; simp; omega)
        have HAP := Lib.hid hap
        have HFIN := Lib.hid (HADD.out _ w5 v' wr.heap.size (hf34.trans (Fr.alloc1 w4 _)) (Nat.le_refl _) (Blk.kept (Blk.kept HB3.out.1 HB4.out.2 (by simp)) (Fr.alloc1 w4 _) (by simp)) hrow5 hf5)
        clear hrow3 hnew hap hrow5 hf5 hf34
        go_wp2_with (at_builtin; refine wpList_append_run rfl _ _ _ rfl HAP.out ?_)
        go_roundw
        case rel => exact ⟨k + 1, _, by omega, by simp; omega, by go_num, HFIN.out⟩
        case measure => simp [intOf]; omega
    · have HE2 := Lib.hid (HEND.out wr k u4 T hin (by omega))
      clear hin
      go_wp2
      go_ret
      exact ⟨_, rfl, HE2.out⟩

theorem lasting_nil (w : World) : Calls Try.prog 19 #[.pointer none] w fun e w' => e = .returned (.slice none 0 0) ∧ w = w' := by
  go_enter Try.func19, Try.ntmps19
  go_wp2
  go_ret
  exact ⟨rfl, rfl⟩
theorem cached_nil (w : World) : Calls Try.prog 20 #[.pointer none] w fun e w' => e = .returned (.slice none 0 0) ∧ w = w' := by
  go_enter Try.func20, Try.ntmps20
  go_wp2
  go_ret
  exact ⟨rfl, rfl⟩
def lastingL (D : Dv) : List (Int × List UInt8) := keptL false D.n D.last
def cachedL (D : Dv) : List (Int × List UInt8) := keptL true D.n D.cache
theorem lasting_k {b ml mc : Nat} {D : Dv} (w : World) (h : DevAt w b ml mc D) :
    Calls Try.prog 19 #[devP b] w fun e w' => ∃ v, e = .returned v ∧ (∀ S : List Nat, (∀ x, x ∈ S → x < w.heap.size) → Kepts S w' v (lastingL D)) ∧ Fr [] w w' := by
  obtain ⟨_, c1, _, _, _⟩ := h.cells
  have HH := Lib.hid h
  clear h
  go_enter Try.func19, Try.ntmps19
  go_wp2_with fail
  refine (kept_false_k _ HH.out.lastM HH.out.fine.keysL HH.out.fine.n4).mono ?_
  rintro e w' ⟨v, rfl, hK⟩
  have HK := Lib.hid hK
  clear hK
  go_wp2
  go_ret
  exact ⟨v, rfl, HK.out⟩
theorem cached_k {b ml mc : Nat} {D : Dv} (w : World) (h : DevAt w b ml mc D) :
    Calls Try.prog 20 #[devP b] w fun e w' => ∃ v, e = .returned v ∧ (∀ S : List Nat, (∀ x, x ∈ S → x < w.heap.size) → Kepts S w' v (cachedL D)) ∧ Fr [] w w' := by
  obtain ⟨_, _, c2, _, _⟩ := h.cells
  have HH := Lib.hid h
  clear h
  go_enter Try.func20, Try.ntmps20
  go_wp2_with fail
  refine (kept_true_k _ HH.out.cacheM HH.out.fine.keysC HH.out.fine.n4).mono ?_
  rintro e w' ⟨v, rfl, hK⟩
  have HK := Lib.hid hK
  clear hK
  go_wp2
  go_ret
  exact ⟨v, rfl, HK.out⟩
end Go.Proofs.Ytgockpichhgijaa

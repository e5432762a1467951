/- a part. -/
import Derived.WalkKit
import Derived.WalkSpells
import Derived.WalkLawsBesides
import Derived.MapKept
import Derived.Maps.RangeRun
import Derived.Laws.CopyOwn
import Derived.Test.YtgpohemcfgepeaaGreatProg
import Derived.Deep.RegionWith
import Derived.BigQuiet
import Derived.Lib.Hide
import Derived.Lib.SliceRun
import Derived.Deep.RegionHeld3
namespace Go.Proofs.YtgpohemcfgepeaaGreat
open Go.RowKit Go.MapKept
structure Fr (S : List Nat) (w w' : World) : Prop where
  os : w'.os = w.os
  tape : w'.tape = w.tape
  output : w'.output = w.output
  size : w.heap.size ≤ w'.heap.size
  block : ∀ k, k < w.heap.size → k ∉ S → w'.heap[k]? = w.heap[k]?
theorem Fr.refl (S : List Nat) (w : World) : Fr S w w := ⟨rfl, rfl, rfl, Nat.le_refl _, fun _ _ _ => rfl⟩
theorem Fr.trans {S : List Nat} {a b c : World} (h : Fr S a b) (k : Fr S b c) : Fr S a c :=
  ⟨k.os.trans h.os, k.tape.trans h.tape, k.output.trans h.output, Nat.le_trans h.size k.size, fun i hi hs => (k.block i (Nat.lt_of_lt_of_le hi h.size) hs).trans (h.block i hi hs)⟩
theorem Fr.mono {S S' : List Nat} {w w' : World} (h : Fr S w w') (hs : ∀ x, x ∈ S → x < w.heap.size → x ∈ S') : Fr S' w w' :=
  ⟨h.os, h.tape, h.output, h.size, fun k hk hn => h.block k hk (fun hm => hn (hs k hm hk))⟩
theorem Fr.andThen {S S' : List Nat} {a b c : World} (h : Fr S a b) (k : Fr S' b c) (hs : ∀ x, x ∈ S' → x ∈ S ∨ a.heap.size ≤ x) : Fr S a c :=
  ⟨k.os.trans h.os, k.tape.trans h.tape, k.output.trans h.output, Nat.le_trans h.size k.size, fun i hi hn =>
    (k.block i (Nat.lt_of_lt_of_le hi h.size) (fun hm => (hs i hm).elim hn (fun h => by omega))).trans (h.block i hi hn)⟩
theorem Fr.nil {S : List Nat} {w w' : World} (h : Fr [] w w') : Fr S w w' := h.mono (by simp)
theorem Fr.drop {S : List Nat} {w w' : World} (h : Fr S w w') (hs : ∀ x, x ∈ S → w.heap.size ≤ x) : Fr [] w w' :=
  h.mono (fun x hx hl => absurd (hs x hx) (by omega))
theorem Fr.below {S : List Nat} {w w' : World} {B : Nat} (h : Fr S w w') (hB : B ≤ w.heap.size) (hs : ∀ x, x ∈ S → B ≤ x) : Below B w w' :=
  ⟨h.os, h.tape, h.output, h.size, fun k hk => h.block k (by omega) (fun hm => by have := hs k hm; omega)⟩
theorem Fr.toBelow {w w' : World} (h : Fr [] w w') : Below w.heap.size w w' := h.below (Nat.le_refl _) (by simp)
theorem Fr.drew {S : List Nat} {a w : World} (h : Fr S a w) : Fr S a w.drew := ⟨h.os, h.tape, h.output, h.size, h.block⟩
theorem Fr.ofDrew {S : List Nat} {a w : World} (h : Fr S a.drew w) : Fr S a w := ⟨h.os, h.tape, h.output, h.size, h.block⟩
theorem Fr.alloc {S : List Nat} {a w : World} (h : Fr S a w) (o : Obj) : Fr S a (w.alloc o) :=
  h.trans ⟨rfl, rfl, rfl, by simp, fun k hk _ => Below.heap_alloc _ _ _ hk⟩
theorem Fr.alloc1 (w : World) (o : Obj) : Fr [] w (w.alloc o) := (Fr.refl [] w).alloc o
theorem Fr.put (w : World) (r : Nat) (o : Obj) : Fr [r] w { w with heap := w.heap.setIfInBounds r o } :=
  ⟨rfl, rfl, rfl, by simp, fun k _ hs => by
    have hne : ¬ r = k := fun h => hs (by simp [h])
    simp [hne]⟩
theorem Fr.setCell (w : World) (a : Addr) (v : Value) : Fr [a.block] w (w.setCell a v) :=
  ⟨rfl, rfl, rfl, by simp [World.setCell], fun k _ hs => Below.heap_setCell _ _ _ _ (fun h => hs (by simp [h]))⟩
theorem Fr.grown {w w' : World} {row : Option Nat} (h : w.grownBy w' row) : Fr (row.toList) w w' :=
  ⟨h.os, h.tape, h.output, h.size, fun k hk hs => h.block k hk (fun e => hs (by simp [← e]))⟩
theorem Fr.cell {S : List Nat} {w w' : World} (h : Fr S w w') {a : Addr} (hl : a.block < w.heap.size) (hs : a.block ∉ S) : w'.cell? a = w.cell? a :=
  World.cell?_of_block (w := w) (h.block a.block hl hs)
theorem Fr.frozen {S : List Nat} {w w' : World} (h : Fr S w w') {a : Addr} (hl : a.block < w.heap.size) (hs : a.block ∉ S) : w'.frozen? a = w.frozen? a :=
  World.frozen?_of_block (w := w) (h.block a.block hl hs)
theorem lt_of_heap {w : World} {b : Nat} {o : Obj} (h : w.heap[b]? = some o) : b < w.heap.size := (Array.getElem?_eq_some_iff.1 h).1
theorem Fr.heap {S : List Nat} {w w' : World} (h : Fr S w w') {b : Nat} {o : Obj} (hb : w.heap[b]? = some o) (hs : b ∉ S) : w'.heap[b]? = some o :=
  (h.block b (lt_of_heap hb) hs).trans hb
theorem lt_of_cell {w : World} {a : Addr} {v : Value} (h : w.cell? a = some v) : a.block < w.heap.size := World.block_lt_of_cell? w a h
theorem Fr.cellSome {S : List Nat} {w w' : World} (h : Fr S w w') {a : Addr} {v : Value} (hc : w.cell? a = some v) (hs : a.block ∉ S) : w'.cell? a = some v :=
  (h.cell (lt_of_cell hc) hs).trans hc
theorem blk_cell {w : World} {b : Nat} {cs : Array Value} {T : TypeId} {z : Nat × Nat} (h : w.heap[b]? = some (.cells cs T z)) (i : Nat) : w.cell? ⟨b, i, none⟩ = cs[i]? := by
  simp [World.cell?, h]
theorem blk_free {w : World} {b : Nat} {cs : Array Value} {T : TypeId} (h : w.heap[b]? = some (.cells cs T (0, 0))) (i : Nat) : w.frozen? ⟨b, i, none⟩ = false := by
  simp [World.frozen?, h]
theorem blk_set {w : World} {b : Nat} {cs : Array Value} {T : TypeId} {z : Nat × Nat} (h : w.heap[b]? = some (.cells cs T z)) (i : Nat) (v : Value) :
    (w.setCell ⟨b, i, none⟩ v).heap[b]? = some (.cells (cs.setIfInBounds i v) T z) := by
  simp [World.setCell, Array.getElem?_modify, h]
theorem blk_set_ne {w : World} {b c : Nat} {o : Obj} (h : w.heap[c]? = some o) (hne : c ≠ b) (i : Nat) (v : Value) : (w.setCell ⟨b, i, none⟩ v).heap[c]? = some o := by
  rw [Below.heap_setCell _ _ _ _ hne]; exact h
theorem blk_alloc {w : World} {c : Nat} {o : Obj} (h : w.heap[c]? = some o) (o' : Obj) : (w.alloc o').heap[c]? = some o := by
  rw [Below.heap_alloc _ _ _ (lt_of_heap h)]; exact h
theorem blk_new (w : World) (o : Obj) : (w.alloc o).heap[w.heap.size]? = some o := (MapKept.heap_alloc w o).1
structure KE {κ : Type} (d : TypeDesc) (enc : κ → Value) : Prop where
  key : ∀ k, IsKey d (enc k)
  inj : ∀ a b, enc a = enc b → a = b
theorem keInt : KE (.int .i64) (Value.int .i64) := ⟨fun _ => rfl, fun a b h => by injection h⟩
def MapG {κ : Type} (enc : κ → Value) (w : World) (r : Nat) (f : κ → Option Value) : Prop :=
  ∃ es clock, w.heap[r]? = some (.map es clock) ∧ Stamped es clock ∧ (∀ x ∈ es.toList, ∃ k, x.key = enc k) ∧
    (∀ k v, f k = some v ↔ ∃ x ∈ es.toList, x.key = enc k ∧ x.val = v)
def upd {κ : Type} {α : Type} [DecidableEq κ] (f : κ → Option α) (k : κ) (v : Option α) : κ → Option α := fun x => if x = k then v else f x
theorem upd_same {κ : Type} {α : Type} [DecidableEq κ] (f : κ → Option α) (k : κ) (v : Option α) : upd f k v k = v := by simp [upd]
theorem upd_ne {κ : Type} {α : Type} [DecidableEq κ] (f : κ → Option α) {k x : κ} (v : Option α) (h : x ≠ k) : upd f k v x = f x := by simp [upd, h]
section maps
variable {κ : Type} {d : TypeDesc} {enc : κ → Value} {w : World} {r : Nat} {f : κ → Option Value} {P : Program}
theorem MapG.lt (h : MapG enc w r f) : r < w.heap.size := by
  obtain ⟨_, _, hb, _⟩ := h; exact lt_of_heap hb
theorem MapG.kept {S : List Nat} {w' : World} (h : MapG enc w r f) (hf : Fr S w w') (hs : r ∉ S) : MapG enc w' r f := by
  obtain ⟨es, clock, hb, rest⟩ := h; exact ⟨es, clock, hf.heap hb hs, rest⟩
theorem MapG.notCells (h : MapG enc w r f) {b : Nat} {cs : Array Value} {T : TypeId} {z : Nat × Nat} (hb : w.heap[b]? = some (.cells cs T z)) : b ≠ r := by
  rintro rfl; obtain ⟨es, clock, hr, _⟩ := h; rw [hb] at hr; cases hr
theorem MapG.made (w : World) : MapG enc (w.alloc (.map #[] 0)) w.heap.size (fun _ => none) :=
  ⟨#[], 0, blk_new w _, stamped_empty 0, by simp, by simp⟩
theorem MapG.congr {g : κ → Option Value} (h : MapG enc w r f) (e : ∀ k, f k = g k) : MapG enc w r g := by
  have : f = g := funext e
  exact this ▸ h
theorem MapG.uniq {es : Array MapEntry} {clock : Nat} (hs : Stamped es clock) {x y : MapEntry} (hx : x ∈ es.toList) (hy : y ∈ es.toList) (he : x.key = y.key) : x = y := by
  have hn := ((stamped_iff es clock).1 hs).2.2
  clear hs
  generalize es.toList = l at *
  induction hn with
  | nil => simp at hx
  | cons h _ ih =>
    rcases List.mem_cons.1 hx with rfl | hx' <;> rcases List.mem_cons.1 hy with rfl | hy'
    · rfl
    · exact absurd he (h _ hy')
    · exact absurd he.symm (h _ hx')
    · exact ih hx' hy'
theorem MapG.lookup_some (K : KE d enc) {t kt et : TypeId} (ht : P.underlying t = some (.map kt et)) (hk : P.underlying kt = some d) (h : MapG enc w r f) {k : κ} {v : Value} (hv : f k = some v) (c : Bool) :
    (Instr.lookup t (.map (some r)) (enc k) c).run P w = .ok (if c then .tuple #[v, .bool true] else v) w := by
  obtain ⟨es, clock, hb, hs, hks, hf⟩ := h
  obtain ⟨x, hx, hxk, hxv⟩ := (hf k v).1 hv
  have hks' : ∀ x ∈ es.toList, IsKey d x.key := fun x hx => by obtain ⟨k', e⟩ := hks x hx; rw [e]; exact K.key k'
  rcases findNow_spec (K.key k) es.toList 0 hks' with ⟨_, h2⟩ | ⟨j, e, h1, h2, h3⟩
  · exact absurd hxk (h2 x hx)
  · have : e = x := MapG.uniq hs (List.mem_of_getElem? h2) hx (h3.trans hxk.symm)
    subst this; subst hxv
    cases c <;> simp [Instr.lookup, run_underlying ht, MapKept.run_getObj_map hb, run_checkKey hk (K.key k), run_findKey hk h1, Result.andThen]
theorem MapG.lookup_none (K : KE d enc) {t kt et : TypeId} (ht : P.underlying t = some (.map kt et)) (hk : P.underlying kt = some d) (h : MapG enc w r f) {k : κ} (hv : f k = none) {z : Value} (hz : (zeroValue et).run P w = .ok z w) (c : Bool) :
    (Instr.lookup t (.map (some r)) (enc k) c).run P w = .ok (if c then .tuple #[z, .bool false] else z) w := by
  obtain ⟨es, clock, hb, hs, hks, hf⟩ := h
  have hks' : ∀ x ∈ es.toList, IsKey d x.key := fun x hx => by obtain ⟨k', e⟩ := hks x hx; rw [e]; exact K.key k'
  rcases findNow_spec (K.key k) es.toList 0 hks' with ⟨h1, _⟩ | ⟨j, e, h1, h2, h3⟩
  · cases c <;> simp [Instr.lookup, run_underlying ht, MapKept.run_getObj_map hb, run_checkKey hk (K.key k), run_findKey hk h1, hz, Result.andThen]
  · have : f k = some e.val := (hf k _).2 ⟨e, List.mem_of_getElem? h2, h3, rfl⟩
    rw [hv] at this; cases this
theorem MapG.update [DecidableEq κ] (K : KE d enc) {t kt et : TypeId} (ht : P.underlying t = some (.map kt et)) (hk : P.underlying kt = some d) (h : MapG enc w r f) (k : κ) (v : Value) :
    ∃ w2, (Instr.mapUpdate t (.map (some r)) (enc k) v).run P w = .ok () w2 ∧ MapG enc w2 r (upd f k (some v)) ∧ Fr [r] w w2 ∧ w2.heap.size = w.heap.size := by
  obtain ⟨es, clock, hb, hs, hks, hf⟩ := h
  have hks' : ∀ x ∈ es.toList, IsKey d x.key := fun x hx => by obtain ⟨k', e⟩ := hks x hx; rw [e]; exact K.key k'
  rcases findNow_spec (K.key k) es.toList 0 hks' with ⟨h1, h2⟩ | ⟨j, e, h1, h2, h3⟩
  · refine ⟨_, by simp [Instr.mapUpdate, run_underlying ht, MapKept.run_getObj_map hb, run_checkKey hk (K.key k), run_findKey hk h1, run_setObj_map _ hb, Result.andThen]; rfl, ?_, Fr.put _ _ _, by simp⟩
    refine ⟨_, _, (heap_set hb).1, stamped_push hs h2, ?_, ?_⟩
    · intro x hx
      simp only [Array.toList_push, List.mem_append, List.mem_singleton] at hx
      rcases hx with hx | rfl
      · exact hks x hx
      · exact ⟨k, rfl⟩
    · intro k' v'
      by_cases hkk : k' = k
      · subst hkk
        simp only [upd_same, Array.toList_push, List.mem_append, List.mem_singleton]
        constructor
        · intro e; cases e; exact ⟨_, .inr rfl, rfl, rfl⟩
        · rintro ⟨x, hx | rfl, hxk, hxv⟩
          · exact absurd hxk (h2 x hx)
          · rw [← hxv]
      · rw [upd_ne _ _ hkk, hf]
        simp only [Array.toList_push, List.mem_append, List.mem_singleton]
        constructor
        · rintro ⟨x, hx, e1, e2⟩; exact ⟨x, .inl hx, e1, e2⟩
        · rintro ⟨x, hx | rfl, e1, e2⟩
          · exact ⟨x, hx, e1, e2⟩
          · exact absurd (K.inj _ _ e1).symm hkk
  · have hj : es[j]? = some e := by simpa using h2
    have hjl : j < es.size := (Array.getElem?_eq_some_iff.1 hj).1
    refine ⟨_, by simp [Instr.mapUpdate, run_underlying ht, MapKept.run_getObj_map hb, run_checkKey hk (K.key k), run_findKey hk h1, hj, h3, run_keyThatStays (K.key k), run_setObj_map _ hb, Result.andThen]; rfl, ?_, Fr.put _ _ _, by simp⟩
    have hkey : ∀ e', es[j]? = some e' → ({ e' with key := enc k, val := v } : MapEntry).key = e'.key := fun e' he' => by rw [hj] at he'; cases he'; exact h3.symm
    have hmem : ∀ x, x ∈ (es.modify j fun e => { e with key := enc k, val := v }).toList ↔ (x = { e with key := enc k, val := v } ∨ (x ∈ es.toList ∧ x.key ≠ enc k)) := by
      intro x
      simp only [List.mem_iff_getElem?, Array.getElem?_toList, Array.getElem?_modify]
      constructor
      · rintro ⟨i, hi⟩
        by_cases hij : j = i
        · subst hij
          rw [if_pos rfl, hj] at hi
          simp only [Option.map_some, Option.some.injEq] at hi
          exact .inl hi.symm
        · rw [if_neg hij] at hi
          refine .inr ⟨⟨i, hi⟩, fun hxk => ?_⟩
          have := MapG.uniq hs (List.mem_of_getElem? (by simpa using hi)) (List.mem_of_getElem? h2) (hxk.trans h3.symm)
          subst this
          have hn := ((stamped_iff es clock).1 hs).2.2
          rw [List.pairwise_iff_getElem] at hn
          obtain ⟨hil, hie⟩ := Array.getElem?_eq_some_iff.1 hi
          obtain ⟨_, hje⟩ := Array.getElem?_eq_some_iff.1 hj
          rcases Nat.lt_or_gt_of_ne hij with hlt | hlt
          · exact hn j i (by simpa using hjl) (by simpa using hil) hlt (by simp [hie, hje])
          · exact hn i j (by simpa using hil) (by simpa using hjl) hlt (by simp [hie, hje])
      · rintro (rfl | ⟨⟨i, hi⟩, hxk⟩)
        · exact ⟨j, by rw [if_pos rfl, hj]; rfl⟩
        · refine ⟨i, ?_⟩
          rw [if_neg ?_]
          · exact hi
          · rintro rfl; rw [hj] at hi; cases hi; exact hxk h3
    refine ⟨_, _, (heap_set hb).1, stamped_modify hs _ _ (fun _ _ => rfl) (fun e' _ he' => hkey e' he'), ?_, ?_⟩
    · intro x hx
      rcases (hmem x).1 hx with rfl | ⟨hx', _⟩
      · exact ⟨k, rfl⟩
      · exact hks x hx'
    · intro k' v'
      by_cases hkk : k' = k
      · subst hkk
        rw [upd_same]
        constructor
        · intro ev; cases ev; exact ⟨_, (hmem _).2 (.inl rfl), rfl, rfl⟩
        · rintro ⟨x, hx, e1, e2⟩
          rcases (hmem x).1 hx with rfl | ⟨_, hne⟩
          · rw [← e2]
          · exact absurd e1 hne
      · rw [upd_ne _ _ hkk, hf]
        constructor
        · rintro ⟨x, hx, e1, e2⟩
          exact ⟨x, (hmem x).2 (.inr ⟨hx, fun e => hkk (K.inj _ _ (e1.symm.trans e))⟩), e1, e2⟩
        · rintro ⟨x, hx, e1, e2⟩
          rcases (hmem x).1 hx with rfl | ⟨hx', _⟩
          · exact absurd (K.inj _ _ e1).symm hkk
          · exact ⟨x, hx', e1, e2⟩
theorem MapG.delete [DecidableEq κ] (K : KE d enc) {t kt et ty : TypeId} (ht : P.underlying t = some (.map kt et)) (hk : P.underlying kt = some d) (h : MapG enc w r f) (k : κ) :
    ∃ w2, (Builtin.delete_ #[t, kt] ty #[.map (some r), enc k]).run P w = .ok (.tuple #[]) w2 ∧ MapG enc w2 r (upd f k none) ∧ Fr [r] w w2 ∧ w2.heap.size = w.heap.size := by
  obtain ⟨es, clock, hb, hs, hks, hf⟩ := h
  have hks' : ∀ x ∈ es.toList, IsKey d x.key := fun x hx => by obtain ⟨k', e⟩ := hks x hx; rw [e]; exact K.key k'
  rcases findNow_spec (K.key k) es.toList 0 hks' with ⟨h1, h2⟩ | ⟨j, e, h1, h2, h3⟩
  · refine ⟨_, by simp [Builtin.delete_, run_underlying ht, MapKept.run_getObj_map hb, run_checkKey hk (K.key k), run_findKey hk h1, run_setObj_map _ hb, Result.andThen]; rfl, ?_, Fr.put _ _ _, by simp⟩
    refine ⟨_, _, (heap_set hb).1, hs, hks, fun k' v' => ?_⟩
    by_cases hkk : k' = k
    · subst hkk
      rw [upd_same]
      constructor
      · intro e; cases e
      · rintro ⟨x, hx, e1, _⟩; exact absurd e1 (h2 x hx)
    · rw [upd_ne _ _ hkk, hf]
  · have hj : es[j]? = some e := by simpa using h2
    have hjl : j < es.size := (Array.getElem?_eq_some_iff.1 hj).1
    have hmem : ∀ x, x ∈ (es.eraseIdxIfInBounds j).toList ↔ (x ∈ es.toList ∧ x.key ≠ enc k) := by
      intro x
      have hn := ((stamped_iff es clock).1 hs).2.2
      simp only [Array.eraseIdxIfInBounds, hjl, dif_pos, Array.toList_eraseIdx]
      rw [List.mem_eraseIdx_iff_getElem?]
      constructor
      · rintro ⟨i, hij, hi⟩
        refine ⟨List.mem_of_getElem? hi, fun hxk => ?_⟩
        have := MapG.uniq hs (List.mem_of_getElem? hi) (List.mem_of_getElem? h2) (hxk.trans h3.symm)
        subst this
        rw [List.pairwise_iff_getElem] at hn
        obtain ⟨hil, hie⟩ := List.getElem?_eq_some_iff.1 hi
        obtain ⟨hjl', hje⟩ := List.getElem?_eq_some_iff.1 h2
        rcases Nat.lt_or_gt_of_ne hij with hlt | hlt
        · exact hn i j hil hjl' hlt (by rw [hie, hje])
        · exact hn j i hjl' hil hlt (by rw [hie, hje])
      · rintro ⟨hx, hxk⟩
        obtain ⟨i, hi⟩ := List.mem_iff_getElem?.1 hx
        refine ⟨i, ?_, hi⟩
        rintro rfl; rw [h2] at hi; cases hi; exact hxk h3
    refine ⟨_, by simp [Builtin.delete_, run_underlying ht, MapKept.run_getObj_map hb, run_checkKey hk (K.key k), run_findKey hk h1, run_setObj_map _ hb, Result.andThen]; rfl, ?_, Fr.put _ _ _, by simp⟩
    refine ⟨_, _, (heap_set hb).1, stamped_erase hs _, fun x hx => hks x ((hmem x).1 hx).1, fun k' v' => ?_⟩
    by_cases hkk : k' = k
    · subst hkk
      rw [upd_same]
      constructor
      · intro e; cases e
      · rintro ⟨x, hx, e1, _⟩; exact absurd e1 ((hmem x).1 hx).2
    · rw [upd_ne _ _ hkk, hf]
      constructor
      · rintro ⟨x, hx, e1, e2⟩; exact ⟨x, (hmem x).2 ⟨hx, fun e => hkk (K.inj _ _ (e1.symm.trans e))⟩, e1, e2⟩
      · rintro ⟨x, hx, e1, e2⟩; exact ⟨x, ((hmem x).1 hx).1, e1, e2⟩
theorem MapG.clear {t kt et ty : TypeId} (ht : P.underlying t = some (.map kt et)) (h : MapG enc w r f) :
    ∃ w2, (Builtin.clear_ #[t] ty #[.map (some r)]).run P w = .ok (.tuple #[]) w2 ∧ MapG enc w2 r (fun _ => none) ∧ Fr [r] w w2 ∧ w2.heap.size = w.heap.size := by
  obtain ⟨es, clock, hb, hs, hks, hf⟩ := h
  refine ⟨_, by simp [Builtin.clear_, run_underlying ht, MapKept.run_getObj_map hb, run_setObj_map _ hb, Result.andThen]; rfl, ?_, Fr.put _ _ _, by simp⟩
  exact ⟨_, _, (heap_set hb).1, stamped_empty _, by simp, by simp⟩
def IterG (w : World) (it r : Nat) (es : Array MapEntry) (clock : Nat) (seen : Array Nat) : Prop :=
  ∃ since c0, w.heap[it]? = some (.mapIter (some r) since seen c0) ∧ w.heap[r]? = some (.map es clock) ∧ Stamped es clock ∧ (∀ x ∈ es.toList, x.born < since) ∧ since ≤ c0 ∧ since ≤ clock
theorem IterG.start {t kt et : TypeId} (ht : P.underlying t = some (.map kt et)) {es : Array MapEntry} {clock : Nat} (hb : w.heap[r]? = some (.map es clock)) (hs : Stamped es clock) :
    (Instr.range t (.map (some r))).run P w = .ok (.pointer (some ⟨w.heap.size, 0, none⟩)) (w.alloc (.mapIter (some r) clock #[] clock)) ∧
    IterG (w.alloc (.mapIter (some r) clock #[] clock)) w.heap.size r es clock #[] := by
  refine ⟨by simp [Instr.range, run_underlying ht, MapKept.run_getObj_map hb, Result.andThen], clock, clock, blk_new w _, blk_alloc hb _, hs, hs.1, Nat.le_refl _, Nat.le_refl _⟩
theorem IterG.step {es : Array MapEntry} {clock : Nat} {seen : Array Nat} {it : Nat} (h : IterG w it r es clock seen) :
    ((∀ ty, (Instr.next (.pointer (some ⟨it, 0, none⟩)) false ty).run P w = .ok (.tuple #[.bool false]) w) ∧ ∀ x ∈ es.toList, x.born ∈ seen.toList) ∨
    ∃ e ∈ es.toList, e.born ∉ seen.toList ∧ ∃ w1, (∀ ty, (Instr.next (.pointer (some ⟨it, 0, none⟩)) false ty).run P w = .ok (.tuple #[.bool true, e.key, e.val]) w1) ∧
      (Instr.entry (.pointer (some ⟨it, 0, none⟩))).run P w1 = .ok (.tuple #[e.key, e.val]) w1 ∧
      IterG w1 it r es clock (seen.push e.born) ∧ Fr [it] w w1 ∧ w1.heap.size = w.heap.size ∧ (leftOf es (seen.push e.born)).size < (leftOf es seen).size := by
  obtain ⟨since, c0, hit, hb, hs, hold, hsc, hscl⟩ := h
  have hne : it ≠ r := by rintro rfl; rw [hit] at hb; cases hb
  have key := fun ty => run_next_at (P := P) w ty it r since c0 seen es clock hit hb hold hsc
  by_cases h0 : (leftOf es seen).size = 0
  · left
    refine ⟨fun ty => ?_, fun x hx => ?_⟩
    · rcases key ty with ⟨_, h⟩ | ⟨e, he, _⟩
      · exact h
      · have : (leftOf es seen) = #[] := Array.eq_empty_of_size_eq_zero h0
        rw [this] at he; simp at he
    · have : (leftOf es seen) = #[] := Array.eq_empty_of_size_eq_zero h0
      unfold leftOf at this
      rw [Array.filter_eq_empty_iff] at this
      have := this x (by simpa using hx)
      simpa using this
  · right
    rcases key 0 with ⟨h, _⟩ | ⟨e, he, w1, hw1, hrun⟩
    · exact absurd h h0
    · have he' : e ∈ es.toList ∧ e.born ∉ seen.toList := by
        unfold leftOf at he
        simp only [Array.toList_filter, List.mem_filter] at he
        exact ⟨he.1, by simpa using he.2⟩
      have hbb : w1.heap = w.heap := by rcases hw1 with rfl | rfl <;> rfl
      have hltit := lt_of_heap hit
      have hit1 : ({ w1 with heap := w1.heap.setIfInBounds it (.mapIter (some r) since (seen.push e.born) clock) } : World).heap[it]? = some (.mapIter (some r) since (seen.push e.born) clock) := by
        simp [hbb, hltit]
      have hb1 : ({ w1 with heap := w1.heap.setIfInBounds it (.mapIter (some r) since (seen.push e.born) clock) } : World).heap[r]? = some (.map es clock) := by
        simp [hbb, hne, hb]
      refine ⟨e, he'.1, he'.2, _, fun ty => hrun, ?_, ⟨since, clock, hit1, hb1, hs, hold, hscl, hscl⟩, ?_, by simp [ChangeMaps.setBlock, hbb], ?_⟩
      · exact run_entry_at _ it r since seen es clock e hit1 hb1 he'.1 hs.2.1
      · refine ⟨?_, ?_, ?_, by simp [ChangeMaps.setBlock, hbb], fun k hk hs => ?_⟩
        · rcases hw1 with rfl | rfl <;> rfl
        · rcases hw1 with rfl | rfl <;> rfl
        · rcases hw1 with rfl | rfl <;> rfl
        · have hne' : ¬ it = k := fun h => hs (by simp [h])
          simp [ChangeMaps.setBlock, hbb, hne']
      · unfold leftOf at he ⊢
        have e1 : es.filter (fun x => !(seen.push e.born).contains x.born) = (es.filter (fun x => !seen.contains x.born)).filter (fun x => !(x.born == e.born)) := by
          rw [Array.filter_filter]
          congr 1
          funext x
          simp only [Array.contains_push]
          cases h1 : (x.born == e.born) <;> cases h2 : seen.contains x.born <;> simp_all <;> omega
        rw [e1]
        exact Array.size_filter_lt_size_iff_exists.2 ⟨e, by simpa using he, by simp⟩
end maps
end Go.Proofs.YtgpohemcfgepeaaGreat

namespace Go.Proofs.YtgpohemcfgepeaaGreat
open Go.RowKit Go.MapKept
def byteV (x : UInt8) : Value := .int .u8 x.toNat
def intV (x : Int) : Value := .int .i64 x
theorem byteV_one (x : UInt8) : (byteV x).oneCell' = true := rfl
theorem bytes_one (l : List UInt8) : ∀ u ∈ l.map byteV, u.oneCell' = true := by
  intro u hu; obtain ⟨x, _, rfl⟩ := List.mem_map.1 hu; rfl
theorem ints_one (l : List Int) : ∀ u ∈ l.map intV, u.oneCell' = true := by
  intro u hu; obtain ⟨x, _, rfl⟩ := List.mem_map.1 hu; rfl
def Cells (w : World) (B off : Nat) (cs : List Value) : Prop := ∀ i v, cs[i]? = some v → w.cell? ⟨B, off + i, none⟩ = some v
theorem Cells.kept {S : List Nat} {w w' : World} {B off : Nat} {cs : List Value} (h : Cells w B off cs) (hf : Fr S w w') (hs : B ∉ S) : Cells w' B off cs :=
  fun i v hv => hf.cellSome (h i v hv) hs
theorem Cells.drop {w : World} {B off : Nat} {cs : List Value} (h : Cells w B off cs) (k : Nat) : Cells w B (off + k) (cs.drop k) := fun i v hv => by
  rw [List.getElem?_drop] at hv
  have := h (k + i) v hv
  rwa [Nat.add_assoc]
theorem Cells.take {w : World} {B off : Nat} {cs : List Value} (h : Cells w B off cs) (k : Nat) : Cells w B off (cs.take k) := fun i v hv => by
  rw [List.getElem?_take] at hv
  split at hv
  · exact h i v hv
  · cases hv
theorem Cells.ofBlock {w : World} {b : Nat} {cs : Array Value} {T : TypeId} {z : Nat × Nat} (h : w.heap[b]? = some (.cells cs T z)) (off : Nat) : Cells w b off (cs.toList.drop off) := fun i v hv => by
  rw [blk_cell h, ← Array.getElem?_toList]
  rwa [List.getElem?_drop] at hv
def Slc (S : List Nat) (w : World) (v : Value) (n : Nat) (cs : List Value) : Prop :=
  (∃ a cap, v = .slice a 0 cap ∧ n = 0 ∧ cs = [] ∧ (a = none → cap = 0)) ∨
  ∃ B off cap, v = .slice (some ⟨B, off, none⟩) n cap ∧ n ≤ cap ∧ (cs = [] ∨ B ∉ S) ∧ Cells w B off cs
theorem Slc.nil (S : List Nat) (w : World) : Slc S w (.slice none 0 0) 0 [] := .inl ⟨none, 0, rfl, rfl, rfl, fun _ => rfl⟩
theorem Slc.kept {S : List Nat} {w w' : World} {v : Value} {n : Nat} {cs : List Value} (h : Slc S w v n cs) (hf : Fr S w w') : Slc S w' v n cs := by
  rcases h with h | ⟨B, off, cap, hv, hc, hs, hcs⟩
  · exact .inl h
  · refine .inr ⟨B, off, cap, hv, hc, hs, ?_⟩
    rcases hs with rfl | hs
    · intro i v hv; simp at hv
    · exact hcs.kept hf hs
theorem Slc.mono {S S' : List Nat} {w : World} {v : Value} {n : Nat} {cs : List Value} (h : Slc S w v n cs) (hs : ∀ x, x ∈ S' → x ∈ S) : Slc S' w v n cs := by
  rcases h with h | ⟨B, off, cap, hv, hc, hb, hcs⟩
  · exact .inl h
  · exact .inr ⟨B, off, cap, hv, hc, hb.imp id (fun hn hm => hn (hs _ hm)), hcs⟩
theorem Slc.more {S S' : List Nat} {w : World} {v : Value} {n : Nat} {cs : List Value} (h : Slc S w v n cs) (hs : ∀ x, x ∈ S' → x ∈ S ∨ w.heap.size ≤ x) : Slc S' w v n cs := by
  rcases h with h | ⟨B, off, cap, hv, hc, hb, hcs⟩
  · exact .inl h
  · refine .inr ⟨B, off, cap, hv, hc, ?_, hcs⟩
    rcases hb with rfl | hb
    · exact .inl rfl
    · cases hcs' : cs with
      | nil => exact .inl rfl
      | cons c l =>
        right
        intro hm
        rcases hs _ hm with h1 | h1
        · exact hb h1
        · have := lt_of_cell (hcs 0 c (by simp [hcs']))
          simp at this; omega
theorem Slc.ofOwns {S : List Nat} {w : World} {base : Nat} {e : TypeId} {size : Nat} {v : Value} {n : Nat} {xs : List Value} (h : w.ownsRow base e size v n xs) (hs : ∀ x, x ∈ S → x < base) : Slc S w v n xs := by
  obtain ⟨h1, ⟨rfl, rfl⟩ | ⟨g, cap, cur, rfl, hb, hg, hn, _, _, ht⟩⟩ := h
  · exact .inl ⟨none, 0, rfl, rfl, List.eq_nil_of_length_eq_zero (by simpa using h1), fun _ => rfl⟩
  · refine .inr ⟨g, 0, cap, rfl, hn, .inr (fun hm => by have := hs g hm; omega), ?_⟩
    have := (Cells.ofBlock hg 0).take (n * size)
    simpa [ht] using this
theorem Slc.ofBlock {S : List Nat} {w : World} {b : Nat} {cs : Array Value} {T : TypeId} {z : Nat × Nat} (h : w.heap[b]? = some (.cells cs T z)) (hs : b ∉ S) (n cap : Nat) (hn : n ≤ cap) : Slc S w (.slice (some ⟨b, 0, none⟩) n cap) n cs.toList :=
  .inr ⟨b, 0, cap, rfl, hn, .inr hs, by simpa using Cells.ofBlock h 0⟩
def Bytes (S : List Nat) (w : World) (v : Value) (l : List UInt8) : Prop := Slc S w v l.length (l.map byteV)
def Ints (S : List Nat) (w : World) (v : Value) (l : List Int) : Prop := Slc S w v l.length (l.map intV)
theorem Bytes.nil (S : List Nat) (w : World) : Bytes S w (.slice none 0 0) [] := Slc.nil S w
theorem Bytes.kept {S : List Nat} {w w' : World} {v : Value} {l : List UInt8} (h : Bytes S w v l) (hf : Fr S w w') : Bytes S w' v l := Slc.kept h hf
theorem Bytes.mono {S S' : List Nat} {w : World} {v : Value} {l : List UInt8} (h : Bytes S w v l) (hs : ∀ x, x ∈ S' → x ∈ S) : Bytes S' w v l := Slc.mono h hs
theorem Bytes.more {S S' : List Nat} {w : World} {v : Value} {l : List UInt8} (h : Bytes S w v l) (hs : ∀ x, x ∈ S' → x ∈ S ∨ w.heap.size ≤ x) : Bytes S' w v l := Slc.more h hs
theorem Ints.kept {S : List Nat} {w w' : World} {v : Value} {l : List Int} (h : Ints S w v l) (hf : Fr S w w') : Ints S w' v l := Slc.kept h hf
theorem Ints.mono {S S' : List Nat} {w : World} {v : Value} {l : List Int} (h : Ints S w v l) (hs : ∀ x, x ∈ S' → x ∈ S) : Ints S' w v l := Slc.mono h hs
theorem Ints.more {S S' : List Nat} {w : World} {v : Value} {l : List Int} (h : Ints S w v l) (hs : ∀ x, x ∈ S' → x ∈ S ∨ w.heap.size ≤ x) : Ints S' w v l := Slc.more h hs
theorem Bytes.take {S : List Nat} {w : World} {B off n cap : Nat} {l : List UInt8} (h : Bytes S w (.slice (some ⟨B, off, none⟩) n cap) l) {k : Nat} (hk : k ≤ l.length) :
    Bytes S w (.slice (some ⟨B, off, none⟩) k cap) (l.take k) := by
  rcases h with ⟨a, c, h, h0, hl, _⟩ | ⟨B', off', cap', h, hc, hs, hcs⟩
  · obtain rfl : l = [] := List.eq_nil_of_length_eq_zero h0
    obtain rfl : k = 0 := by simpa using hk
    exact .inl ⟨_, cap, rfl, rfl, rfl, fun h => by cases h⟩
  · cases h
    refine .inr ⟨B, off, cap, by simp; omega, by simp; omega, ?_, ?_⟩
    · exact hs.imp (fun h => by simp at h; simp [h]) id
    · rw [List.map_take]; exact hcs.take k
theorem Bytes.at {S : List Nat} {w : World} {B off n cap : Nat} {l : List UInt8} (h : Bytes S w (.slice (some ⟨B, off, none⟩) n cap) l) {i : Nat} (hi : i < l.length) :
    w.cell? ⟨B, off + i, none⟩ = some (.int .u8 (l[i]).toNat) := by
  rcases h with ⟨a, c, h, h0, hl, _⟩ | ⟨B', off', cap', h, hc, hs, hcs⟩
  · omega
  · cases h
    exact hcs i _ (by simp [hi, byteV])
theorem Ints.at {S : List Nat} {w : World} {B off n cap : Nat} {l : List Int} (h : Ints S w (.slice (some ⟨B, off, none⟩) n cap) l) {i : Nat} (hi : i < l.length) :
    w.cell? ⟨B, off + i, none⟩ = some (.int .i64 l[i]) := by
  rcases h with ⟨a, c, h, h0, hl, _⟩ | ⟨B', off', cap', h, hc, hs, hcs⟩
  · omega
  · cases h
    exact hcs i _ (by simp [hi, intV])
theorem Slc.form {S : List Nat} {w : World} {v : Value} {n : Nat} {cs : List Value} (h : Slc S w v n cs) : ∃ a cap, v = .slice a n cap ∧ n ≤ cap := by
  rcases h with ⟨a, cap, rfl, rfl, _⟩ | ⟨B, off, cap, hv, hc, _⟩
  · exact ⟨a, cap, rfl, Nat.zero_le _⟩
  · exact ⟨_, cap, hv, hc⟩
theorem ownsKept {S : List Nat} {w w' : World} {base : Nat} {e : TypeId} {size : Nat} {v : Value} {n : Nat} {xs : List Value} (h : w.ownsRow base e size v n xs) (hf : Fr S w w') (hs : ∀ k, v.ownBlock = some k → k ∉ S) : w'.ownsRow base e size v n xs := by
  refine ⟨h.1, ?_⟩
  rcases h.2 with hn | ⟨g, cap, cur, rfl, hb, hgg, rest⟩
  · exact .inl hn
  · exact .inr ⟨g, cap, cur, rfl, hb, hf.heap hgg (hs g rfl), rest⟩
theorem ownsBase {w : World} {base base' : Nat} {e : TypeId} {size : Nat} {v : Value} {n : Nat} {xs : List Value} (h : w.ownsRow base e size v n xs) (hb : base' ≤ base) : w.ownsRow base' e size v n xs := by
  refine ⟨h.1, ?_⟩
  rcases h.2 with hn | ⟨g, cap, cur, rfl, hbg, rest⟩
  · exact .inl hn
  · exact .inr ⟨g, cap, cur, rfl, Nat.le_trans hb hbg, rest⟩
def splicedAt (cur : List Value) (o : Nat) (cs : List Value) : List Value := cur.take o ++ cs ++ cur.drop (o + cs.length)
theorem Fr.setRow (w : World) (g : Nat) (cs : Array Value) : Fr [g] w (w.setRow g cs) :=
  ⟨rfl, rfl, rfl, by simp, fun k _ hs => setRow_other w g k cs (fun h => hs (by simp [h]))⟩
theorem addr_add (B off i : Nat) : (⟨B, off, none⟩ : Addr).add i = ⟨B, off + i, none⟩ := by
  unfold Addr.add; split <;> simp_all
section
variable {P : Program} {w : World}
theorem run_copy_slc {S : List Nat} {dT sT ty elem : TypeId} {g o dLen dCap : Nat} {cur : Array Value} {T : TypeId} {v : Value} {n : Nat} {cs : List Value}
    (hu : P.underlying dT = some (.slice elem)) (hs : (P.info? elem).map (·.size) = some 1)
    (hg : w.heap[g]? = some (.cells cur T (0, 0))) (hv : Slc S w v n cs) (hn : cs.length = n) (hd : n ≤ dLen) (hfit : o + n ≤ cur.size) (h1 : ∀ u ∈ cs, u.oneCell' = true) :
    ∃ w2, (Builtin.copy_ #[dT, sT] ty #[.slice (some ⟨g, o, none⟩) dLen dCap, v]).run P w = .ok (.int .i64 n) w2 ∧
      w2.heap[g]? = some (.cells (splicedAt cur.toList o cs).toArray T (0, 0)) ∧ Fr [g] w w2 ∧ w2.heap.size = w.heap.size := by
  rcases hv with ⟨a, c, rfl, rfl, rfl, _⟩ | ⟨B, off, cap, rfl, hc, hb, hcs⟩
  · refine ⟨w, run_copy_none (P := P) w dT sT ty elem (some ⟨g, o, none⟩) a dLen dCap 0 c hu hs (by simp), ?_, Fr.refl _ _, rfl⟩
    simp [splicedAt, hg]
  · subst hn
    have hr := run_copy_row P w dT sT ty elem g o dLen dCap ⟨B, off, none⟩ cs.length cap cur T cs hu hs hg (Nat.min_eq_left hd).symm (fun j u hj => by rw [addr_add]; exact hcs j u hj) (by omega) h1
    exact ⟨_, by rw [hr]; rfl, setRow_heap w g cur _ T _ hg, Fr.setRow _ _ _, by simp⟩
theorem run_append_slc {S : List Nat} {base : Nat} {t ty e : TypeId} {z : Value} {size bytes : Nat} (ht : P.underlying t = some (.slice e)) (hi : (P.info? e).map (fun i => (i.zero, i.size, i.bytes)) = some (some z, size, bytes)) (hzs : z.cells.size = size) (hsz : 0 < size)
    {v : Value} {n : Nat} {xs : List Value} (hown : w.ownsRow base e size v n xs) {x : Value} {m : Nat} {news : List Value} (hx : Slc S w x m news) (hl : news.length = m * size) (h1 : ∀ u ∈ news, u.oneCell' = true)
    (h63 : n + m ≤ maxLen) (hbytes : (n + m) * bytes ≤ 140737488355328) (hbase : base ≤ w.heap.size) :
    ∃ v' w', (Builtin.append_ #[t, t] ty #[v, x]).run P w = .ok v' w' ∧ w'.ownsRow base e size v' (n + m) (xs ++ news) ∧ Fr v.ownBlock.toList w w' ∧ (v' = .slice none 0 0 → v = .slice none 0 0 ∧ m = 0) := by
  obtain ⟨i0, hi0, hz0, hz1, hz2⟩ := info_parts hi
  rcases hx with ⟨a, c, rfl, rfl, rfl, ha⟩ | ⟨B, off, cap, rfl, hc, hb, hcs⟩
  · cases a with
    | none =>
      obtain rfl := ha rfl
      exact ⟨v, w, run_append_owned_none w base t ty e i0 size ht hi0 v n xs hown, by simpa using hown, Fr.refl _ _, fun h => ⟨h, rfl⟩⟩
    | some a =>
      obtain ⟨v', w', hr, ho, hg, hn⟩ := run_append_own (P := P) w base t ty e i0 z size bytes ht hi0 hz0 hz1 hz2 hzs hsz v n xs hown a 0 c [] (by simp) (by simp) (by simp) h63 hbytes hbase
      exact ⟨v', w', hr, ho, Fr.grown hg, hn.1⟩
  · obtain ⟨v', w', hr, ho, hg, hn⟩ := run_append_own (P := P) w base t ty e i0 z size bytes ht hi0 hz0 hz1 hz2 hzs hsz v n xs hown ⟨B, off, none⟩ m cap news hl (fun j u hj => by rw [addr_add]; exact hcs j u hj) h1 h63 hbytes hbase
    exact ⟨v', w', hr, ho, Fr.grown hg, hn.1⟩
theorem wp_append_run {o : Oper} {a : Act} {K : Act → World → Prop} {Q : Exit → Act → World → Prop} (s x : Operand) (t : TypeId)
    (ho : o.op = .call { callee := .builtin .append, args := #[s, x], argTypes := #[t, t] }) {v' : Value} {w' : World}
    (hrun : (Builtin.append_ #[t, t] o.type #[a.eval s, a.eval x]).run P w = .ok v' w') (h : K (a.put o.dst v') w') : o.wp P a w K Q := by
  unfold Oper.wp execOp
  simp only [ho, resolve, invoke, builtin, Sem.run_bind, Sem.run_pure, Result.andThen_ok, List.map_toArray, List.map_cons, List.map_nil, hrun]
  exact h
theorem wpList_append_run {ops : Array Oper} {rest : List Oper} {o : Oper} {a : Act} {Q : Exit → Act → World → Prop} (hgd : o.guard = none) (s x : Operand) (t : TypeId)
    (ho : o.op = .call { callee := .builtin .append, args := #[s, x], argTypes := #[t, t] }) {v' : Value} {w' : World}
    (hrun : (Builtin.append_ #[t, t] o.type #[a.eval s, a.eval x]).run P w = .ok v' w') (h : wpList P ops Q rest (a.put o.dst v') w') : wpList P ops Q (o :: rest) a w :=
  wpList_plain hgd fun _ hK => wp_append_run s x t ho hrun (hK _ _ h)
theorem step_append_run {ops : Array Oper} {o : Oper} {a : Act} {K : Act → World → Prop} {Q : Exit → Act → World → Prop} {E : Prop} (hgd : o.guard = none) (s x : Operand) (t : TypeId)
    (ho : o.op = .call { callee := .builtin .append, args := #[s, x], argTypes := #[t, t] }) {v' : Value} {w' : World}
    (hrun : (Builtin.append_ #[t, t] o.type #[a.eval s, a.eval x]).run P w = .ok v' w') (h : K (a.put o.dst v') w') :
    if Region.wanted o (yielded ops a.tmps) = true then Oper.wp P o a w K Q else E := by
  rw [if_pos (by simp [Region.wanted, hgd])]
  exact wp_append_run s x t ho hrun h
theorem step_append_slc {ops : Array Oper} {o : Oper} {a : Act} {K : Act → World → Prop} {Q : Exit → Act → World → Prop} {E : Prop} (hgd : o.guard = none) (s x : Operand) (t : TypeId)
    (ho : o.op = .call { callee := .builtin .append, args := #[s, x], argTypes := #[t, t] })
    {S : List Nat} {base : Nat} {e : TypeId} {z : Value} {size bytes : Nat} (ht : P.underlying t = some (.slice e)) (hi : (P.info? e).map (fun i => (i.zero, i.size, i.bytes)) = some (some z, size, bytes)) (hzs : z.cells.size = size) (hsz : 0 < size)
    {v xv : Value} {n : Nat} {xs : List Value} (hs : a.eval s = v) (hown : w.ownsRow base e size v n xs) {m : Nat} {news : List Value} (hxe : a.eval x = xv) (hx : Slc S w xv m news) (hl : news.length = m * size) (h1 : ∀ u ∈ news, u.oneCell' = true)
    {N : Nat} (hN : n + m = N) (h63 : N ≤ maxLen) (hbytes : N * bytes ≤ 140737488355328) (hbase : base ≤ w.heap.size)
    (h : ∀ v' w', w'.ownsRow base e size v' N (xs ++ news) → Fr v.ownBlock.toList w w' → (v' = .slice none 0 0 → v = .slice none 0 0 ∧ m = 0) → K (a.put o.dst v') w') :
    if Region.wanted o (yielded ops a.tmps) = true then Oper.wp P o a w K Q else E := by
  subst hN
  obtain ⟨v', w', hr, ho', hf, hn⟩ := run_append_slc (P := P) (t := t) (ty := o.type) ht hi hzs hsz hown hx hl h1 h63 hbytes hbase
  exact step_append_run hgd s x t ho (by rw [hs, hxe]; exact hr) (h v' w' ho' hf hn)
theorem map_ofNat_byteV (l : List UInt8) : l.map (fun x => UInt8.ofNat ((x.toNat : Int)).toNat) = l := by
  conv => rhs; rw [← List.map_id l]
  apply List.map_congr_left
  intro x _; simp
theorem run_string_bytes {S : List Nat} {src dst e : TypeId} (hs : P.underlying src = some (.slice e)) (he : P.underlying e = some (.int .u8)) (hd : P.underlying dst = some .string) {v : Value} {l : List UInt8} (h : Bytes S w v l) :
    (convert src dst v).run P w = .ok (.string ⟨l.toArray⟩) w := by
  rcases h with ⟨a, c, rfl, hn, _⟩ | ⟨B, off, cap, rfl, hcp, hb, hcs⟩
  · have : l = [] := List.eq_nil_of_length_eq_zero hn
    subst this
    rw [run_convert_bytes_string w src dst e _ _ _ hs he hd]
    cases a with
    | none => simp [Conv.bytesToString]; rfl
    | some a =>
      have hl : (loadCells a 0).run P w = .ok (([] : List Int).map (Value.int .u8)).toArray w := by
        have := run_loadCells_list (P := P) w a [] (by simp)
        simpa using this
      rw [run_bytesToString w a 0 c [] hl]; rfl
  · have hl : (loadCells ⟨B, off, none⟩ l.length).run P w = .ok ((l.map (fun x : UInt8 => (x.toNat : Int))).map (Value.int .u8)).toArray w := by
      have := run_loadCells_list (P := P) w ⟨B, off, none⟩ (l.map byteV) (fun j u hj => by rw [addr_add]; exact hcs j u hj)
      rw [List.length_map] at this
      rw [this, List.map_map]; rfl
    rw [run_convert_bytes_string w src dst e _ _ _ hs he hd, run_bytesToString w _ _ cap _ hl, foldl_push_bytes, List.map_map]
    have : (fun n : Int => UInt8.ofNat n.toNat) ∘ (fun x : UInt8 => (x.toNat : Int)) = fun x => UInt8.ofNat ((x.toNat : Int)).toNat := rfl
    rw [this, map_ofNat_byteV]
    simp [ByteArray.empty, ByteArray.emptyWithCapacity]
    rfl
end
end Go.Proofs.YtgpohemcfgepeaaGreat

namespace Go.Proofs.YtgpohemcfgepeaaGreat
open Go.RowKit Go.MapKept
def Zb : Array Value := (List.replicate 1024 (byteV 0)).toArray
def pad (l : List UInt8) : List UInt8 := l ++ List.replicate (1024 - l.length) 0
theorem pad_length {l : List UInt8} (h : l.length ≤ 1024) : (pad l).length = 1024 := by simp [pad]; omega
theorem pad_full {l : List UInt8} (h : l.length = 1024) : pad l = l := by simp [pad, h]
theorem spliced_rep (n : Nat) (l : List UInt8) : splicedAt (List.replicate n (byteV 0)) 0 (l.map byteV) = (l ++ List.replicate (n - l.length) 0).map byteV := by
  simp [splicedAt]
theorem spliced_zb (l : List UInt8) : splicedAt Zb.toList 0 (l.map byteV) = (pad l).map byteV := spliced_rep 1024 l
theorem size_zb : Zb.size = 1024 := by
  unfold Zb
  rw [List.size_toArray, List.length_replicate]
theorem Tryz.info5 : (Tryz.prog.info? 5).map (fun i => (i.zero, i.size, i.bytes)) = some (some (.int .u8 0), 1, 1) := by kernel_rfl
theorem Tryz.size5 : (Tryz.prog.info? 5).map (·.size) = some 1 := by
  have h := Tryz.info5
  cases hq : Tryz.prog.info? 5 <;> simp_all
theorem run_mk1024 (w : World) : (Instr.makeSlice 117 (.int .i64 1024) (.int .i64 1024)).run Tryz.prog w = .ok (.slice (some ⟨w.heap.size, 0, none⟩) 1024 1024) (w.alloc (.cells Zb 5)) := by
  obtain ⟨i0, hi, hz0, hz1, hz2⟩ := info_parts Tryz.info5
  have h := run_make (P := Tryz.prog) w 117 5 i0 (.int .u8 0) Tryz.underlying117 hi hz0 .i64 .i64 1024 1024 (by omega) (by omega) (by rw [hz2]; omega) (by omega)
  have e : madeCells (Value.int .u8 0).cells (Int.toNat 1024 * i0.size) = Zb := by
    rw [hz1]
    apply Array.ext'
    rw [show Int.toNat 1024 * 1 = 1024 from rfl]
    exact toList_madeCells_one _ _
  rw [e] at h
  exact h
set_option maxRecDepth 100000 in
set_option maxHeartbeats 400000 in
theorem whole_k {S : List Nat} {v : Value} {l : List UInt8} (w : World) (h : Bytes S w v l) (hl : l.length ≤ 1024) :
    Calls Tryz.prog 70 #[v] w fun e w' => e = .returned (.slice (some ⟨w.heap.size, 0, none⟩) 1024 1024) ∧
      w'.heap[w.heap.size]? = some (.cells ((pad l).map byteV).toArray 5 (0, 0)) ∧ Fr [] w w' ∧ w'.heap.size = w.heap.size + 1 := by
  have hmk := run_mk1024 w
  have hb : Bytes S (w.alloc (.cells Zb 5)) v l := h.kept ((Fr.alloc1 _ _).nil)
  obtain ⟨w2, hcp, hblk, hfr, hsz⟩ := run_copy_slc (P := Tryz.prog) (dT := 117) (sT := 117) (ty := 3) (o := 0) (dLen := 1024) (dCap := 1024) Tryz.underlying117 Tryz.size5
    (blk_new w (.cells Zb 5)) hb (by simp) hl (by rw [size_zb]; omega) (by simp [byteV_one])
  rw [spliced_zb] at hblk
  have hfin : Fr [] w w2 := (((Fr.alloc1 w (.cells Zb 5)).nil).trans hfr).drop (by simp)
  have hs2 : w2.heap.size = w.heap.size + 1 := by rw [hsz]; simp
  have HF := Lib.hid (And.intro hblk (And.intro hfin hs2))
  clear hblk hfin hs2 hfr hsz hb h
  go_enter Tryz.func70, Tryz.ntmps70
  go_wp2
  go_ret
  exact ⟨rfl, HF.out⟩
end Go.Proofs.YtgpohemcfgepeaaGreat

namespace Go.Proofs.YtgpohemcfgepeaaGreat
open Go.RowKit Go.MapKept
structure Dv where
  n : Nat
  last : Int → Option (List UInt8)
  cache : Int → Option (List UInt8)
  off : Bool
  fuse : Int
def BM (S : List Nat) (w : World) (r : Nat) (g : Int → Option (List UInt8)) : Prop :=
  ∃ f, MapG (Value.int .i64) w r f ∧ ∀ k, (g k = none → f k = none) ∧ ∀ l, g k = some l → ∃ v, f k = some v ∧ Bytes S w v l
structure Dv.fine (D : Dv) : Prop where
  n2 : 2 ≤ D.n
  n4 : D.n ≤ 4096
  keysL : ∀ k l, D.last k = some l → 0 ≤ k ∧ k < D.n ∧ l.length = 1024
  keysC : ∀ k l, D.cache k = some l → 0 ≤ k ∧ k < D.n ∧ l.length = 1024
  fuse1 : -1 ≤ D.fuse
  fuse2 : D.fuse ≤ 9223372036854775807
def devCells (D : Dv) (ml mc : Nat) : Array Value := #[.int .i64 D.n, .map (some ml), .map (some mc), .bool D.off, .int .i64 D.fuse]
structure DevAt (w : World) (b ml mc : Nat) (D : Dv) : Prop where
  blk : w.heap[b]? = some (.cells (devCells D ml mc) 116 (0, 0))
  lastM : BM [b, ml, mc] w ml D.last
  cacheM : BM [b, ml, mc] w mc D.cache
  ne : ml ≠ mc
  fine : D.fine
abbrev devP (b : Nat) : Value := .pointer (some ⟨b, 0, none⟩)
theorem BM.kept {S : List Nat} {w w' : World} {r : Nat} {g : Int → Option (List UInt8)} (h : BM S w r g) (hf : Fr S w w') (hr : w'.heap[r]? = w.heap[r]?) : BM S w' r g := by
  obtain ⟨f, ⟨es, clock, hb, rest⟩, hg⟩ := h
  exact ⟨f, ⟨es, clock, hr.trans hb, rest⟩, fun k => ⟨(hg k).1, fun l hl => by obtain ⟨v, hv, hb⟩ := (hg k).2 l hl; exact ⟨v, hv, hb.kept hf⟩⟩⟩
theorem BM.more {S S' : List Nat} {w : World} {r : Nat} {g : Int → Option (List UInt8)} (h : BM S w r g) (hs : ∀ x, x ∈ S' → x ∈ S ∨ w.heap.size ≤ x) : BM S' w r g := by
  obtain ⟨f, hm, hg⟩ := h
  exact ⟨f, hm, fun k => ⟨(hg k).1, fun l hl => by obtain ⟨v, hv, hb⟩ := (hg k).2 l hl; exact ⟨v, hv, hb.more hs⟩⟩⟩
theorem BM.lt {S : List Nat} {w : World} {r : Nat} {g : Int → Option (List UInt8)} (h : BM S w r g) : r < w.heap.size := by
  obtain ⟨f, hm, _⟩ := h; exact hm.lt
theorem DevAt.b_ne {w : World} {b ml mc : Nat} {D : Dv} (h : DevAt w b ml mc D) : b ≠ ml ∧ b ≠ mc := by
  obtain ⟨f, hm, _⟩ := h.lastM
  obtain ⟨g, hn, _⟩ := h.cacheM
  exact ⟨hm.notCells h.blk, hn.notCells h.blk⟩
theorem DevAt.lt {w : World} {b ml mc : Nat} {D : Dv} (h : DevAt w b ml mc D) : b < w.heap.size ∧ ml < w.heap.size ∧ mc < w.heap.size :=
  ⟨lt_of_heap h.blk, h.lastM.lt, h.cacheM.lt⟩
theorem DevAt.kept {w w' : World} {b ml mc : Nat} {D : Dv} (h : DevAt w b ml mc D) (hf : Fr [] w w') : DevAt w' b ml mc D :=
  ⟨hf.heap h.blk (by simp), h.lastM.kept hf.nil (hf.block _ h.lastM.lt (by simp)), h.cacheM.kept hf.nil (hf.block _ h.cacheM.lt (by simp)), h.ne, h.fine⟩
theorem DevAt.drew {w : World} {b ml mc : Nat} {D : Dv} (h : DevAt w b ml mc D) : DevAt w.drew b ml mc D := h.kept (Fr.refl [] w).drew
theorem DevAt.cells {w : World} {b ml mc : Nat} {D : Dv} (h : DevAt w b ml mc D) :
    w.cell? ⟨b, 0, none⟩ = some (.int .i64 D.n) ∧ w.cell? ⟨b, 1, none⟩ = some (.map (some ml)) ∧ w.cell? ⟨b, 2, none⟩ = some (.map (some mc)) ∧
    w.cell? ⟨b, 3, none⟩ = some (.bool D.off) ∧ w.cell? ⟨b, 4, none⟩ = some (.int .i64 D.fuse) := by
  refine ⟨?_, ?_, ?_, ?_, ?_⟩ <;> rw [blk_cell h.blk] <;> rfl
theorem DevAt.free {w : World} {b ml mc : Nat} {D : Dv} (h : DevAt w b ml mc D) (i : Nat) : w.frozen? ⟨b, i, none⟩ = false := blk_free h.blk i
theorem DevAt.written {w w' : World} {b ml mc : Nat} {D : Dv} (h : DevAt w b ml mc D) (o : Bool) (f : Int) (hf : Fr [b] w w') (h1 : -1 ≤ f) (h2 : f ≤ 9223372036854775807)
    (hb : w'.heap[b]? = some (.cells (devCells { D with off := o, fuse := f } ml mc) 116 (0, 0))) : DevAt w' b ml mc { D with off := o, fuse := f } := by
  have hne := h.b_ne
  have hl : Fr [b, ml, mc] w w' := hf.mono (by simp)
  exact ⟨hb, h.lastM.kept hl (hf.block _ h.lastM.lt (by simp; exact Ne.symm hne.1)), h.cacheM.kept hl (hf.block _ h.cacheM.lt (by simp; exact Ne.symm hne.2)), h.ne,
    ⟨h.fine.n2, h.fine.n4, h.fine.keysL, h.fine.keysC, h1, h2⟩⟩
def useE (D : Dv) (k : Int) (len : Nat) : Int := if D.off then 40 else if k < 0 ∨ D.n ≤ k ∨ 1024 < len then 41 else 0
set_option maxHeartbeats 1000000 in
theorem use_k {b ml mc : Nat} {D : Dv} (k r : Int) (a : Option Addr) (l c : Nat) (w : World) (h : DevAt w b ml mc D) (hr : useE D k l = r) :
    Calls Tryz.prog 142 #[devP b, .int .i64 k, .slice a l c] w fun e w' => e = .returned (.int .i64 r) ∧ w = w' := by
  obtain ⟨c0, c1, c2, c3, c4⟩ := h.cells
  have hn := h.fine.n4
  clear c1 c2 c4 h
  unfold useE at hr
  unfold devP
  generalize D.off = o at *
  generalize D.n = n at *
  by_cases ho : o = true
  · rw [if_pos ho] at hr; subst ho; subst hr
    go_enter Tryz.func142, Tryz.ntmps142
    go_wp2
    go_ret
    exact ⟨rfl, rfl⟩
  · rw [if_neg ho] at hr
    have ho : o = false := by simpa using ho
    subst ho
    by_cases h1 : k < 0
    · rw [if_pos (.inl h1)] at hr; subst hr
      go_enter Tryz.func142, Tryz.ntmps142
      go_wp2
      go_ret
      exact ⟨rfl, rfl⟩
    · by_cases h2 : (n : Int) ≤ k
      · rw [if_pos (.inr (.inl h2))] at hr; subst hr
        go_enter Tryz.func142, Tryz.ntmps142
        go_wp2
        go_ret
        exact ⟨rfl, rfl⟩
      · by_cases h3 : 1024 < l
        · rw [if_pos (.inr (.inr h3))] at hr; subst hr
          go_enter Tryz.func142, Tryz.ntmps142
          go_wp2
          go_ret
          exact ⟨rfl, rfl⟩
        · rw [if_neg (by omega)] at hr; subst hr
          go_enter Tryz.func142, Tryz.ntmps142
          go_wp2
          go_ret
          exact ⟨rfl, rfl⟩
def actE (D : Dv) : Int := if D.fuse = 0 then 40 else 0
def actD (D : Dv) : Dv := if D.fuse = 0 then { D with off := true, fuse := -1 } else if 0 < D.fuse then { D with off := D.off, fuse := D.fuse - 1 } else { D with off := D.off, fuse := D.fuse }
set_option maxHeartbeats 1000000 in
theorem act_k {b ml mc : Nat} {D : Dv} (r : Int) (w : World) (h : DevAt w b ml mc D) (hr : actE D = r) :
    Calls Tryz.prog 143 #[devP b] w fun e w' => e = .returned (.int .i64 r) ∧ DevAt w' b ml mc (actD D) ∧ Fr [b] w w' ∧ w'.heap.size = w.heap.size := by
  obtain ⟨c0, c1, c2, c3, c4⟩ := h.cells
  have f3 := h.free 3
  have f4 := h.free 4
  have hf1 := h.fine.fuse1
  have hf2 := h.fine.fuse2
  clear c0 c1 c2
  unfold actE at hr
  by_cases h0 : D.fuse = 0
  · rw [if_pos h0] at hr
    subst hr
    have hfin : DevAt ((w.setCell ⟨b, 3, none⟩ (.bool true)).setCell ⟨b, 4, none⟩ (.int .i64 (-1))) b ml mc (actD D) ∧ Fr [b] w ((w.setCell ⟨b, 3, none⟩ (.bool true)).setCell ⟨b, 4, none⟩ (.int .i64 (-1))) ∧ ((w.setCell ⟨b, 3, none⟩ (.bool true)).setCell ⟨b, 4, none⟩ (.int .i64 (-1))).heap.size = w.heap.size := by
      have hfr := (Fr.setCell w ⟨b, 3, none⟩ (.bool true)).trans (Fr.setCell _ ⟨b, 4, none⟩ (.int .i64 (-1)))
      refine ⟨?_, hfr, by simp [World.setCell]⟩
      unfold actD
      rw [if_pos h0]
      refine h.written true (-1) hfr (by omega) (by omega) ?_
      rw [blk_set (blk_set h.blk 3 _) 4 _]
      rfl
    have HF := Lib.hid hfin
    clear hfin h
    rw [h0] at c4 hf1 hf2
    clear h0
    unfold devP
    go_enter Tryz.func143, Tryz.ntmps143
    go_wp2
    go_ret
    exact ⟨rfl, HF.out⟩
  · rw [if_neg h0] at hr
    subst hr
    by_cases h1 : 0 < D.fuse
    · have hfin : DevAt (w.setCell ⟨b, 4, none⟩ (.int .i64 (D.fuse - 1))) b ml mc (actD D) ∧ Fr [b] w (w.setCell ⟨b, 4, none⟩ (.int .i64 (D.fuse - 1))) ∧ (w.setCell ⟨b, 4, none⟩ (.int .i64 (D.fuse - 1))).heap.size = w.heap.size := by
        have hfr := (Fr.setCell w ⟨b, 4, none⟩ (.int .i64 (D.fuse - 1)))
        refine ⟨?_, hfr, by simp [World.setCell]⟩
        unfold actD
        rw [if_neg h0, if_pos h1]
        refine h.written D.off (D.fuse - 1) hfr (by omega) (by omega) ?_
        rw [blk_set h.blk 4 _]
        rfl
      have HF := Lib.hid hfin
      have hb0 : (D.fuse == 0) = false := by simp [h0]
      clear hfin h h0
      generalize D.fuse = f at *
      unfold devP
      go_enter Tryz.func143, Tryz.ntmps143
      go_wp2
      go_ret
      exact ⟨rfl, HF.out⟩
    · have hfin : DevAt w b ml mc (actD D) := by
        unfold actD
        rw [if_neg h0, if_neg h1]
        exact h
      have HF := Lib.hid hfin
      have hb0 : (D.fuse == 0) = false := by simp [h0]
      clear hfin h h0
      generalize D.fuse = f at *
      unfold devP
      go_enter Tryz.func143, Tryz.ntmps143
      go_wp2
      go_ret
      exact ⟨rfl, HF.out, Fr.refl _ _, rfl⟩
end Go.Proofs.YtgpohemcfgepeaaGreat

namespace Go.Proofs.YtgpohemcfgepeaaGreat
open Go.RowKit Go.MapKept
def Dv.new (n : Nat) : Dv := { n, last := fun _ => none, cache := fun _ => none, off := false, fuse := -1 }
theorem BM.made {S : List Nat} {w : World} {r : Nat} (h : MapG (Value.int .i64) w r (fun _ => none)) : BM S w r (fun _ => none) :=
  ⟨_, h, fun _ => ⟨fun _ => rfl, fun _ h => by cases h⟩⟩
set_option maxHeartbeats 400000 in
theorem new_k (n : Nat) (w : World) (h1 : 2 ≤ n) (h2 : n ≤ 4096) :
    Calls Tryz.prog 51 #[.int .i64 n] w fun e w' => e = .returned (.tuple #[devP (w.heap.size + 2), .int .i64 0]) ∧
      DevAt w' (w.heap.size + 2) w.heap.size (w.heap.size + 1) (Dv.new n) ∧ Fr [] w w' := by
  have hfin : DevAt (((w.alloc (.map #[] 0)).alloc (.map #[] 0)).alloc (.cells (devCells (Dv.new n) w.heap.size (w.heap.size + 1)) 116 (0, 0))) (w.heap.size + 2) w.heap.size (w.heap.size + 1) (Dv.new n) ∧
      Fr [] w (((w.alloc (.map #[] 0)).alloc (.map #[] 0)).alloc (.cells (devCells (Dv.new n) w.heap.size (w.heap.size + 1)) 116 (0, 0))) := by
    have e1 : (w.alloc (.map #[] 0)).heap.size = w.heap.size + 1 := by simp
    have e2 : ((w.alloc (.map #[] 0)).alloc (.map #[] 0)).heap.size = w.heap.size + 2 := by simp
    have m1 : MapG (Value.int .i64) (w.alloc (.map #[] 0)) w.heap.size (fun _ => none) := MapG.made w
    have m2 : MapG (Value.int .i64) ((w.alloc (.map #[] 0)).alloc (.map #[] 0)) (w.heap.size + 1) (fun _ => none) := by have := MapG.made (enc := Value.int .i64) (w.alloc (.map #[] 0)); rwa [e1] at this
    have b3 := blk_new ((w.alloc (.map #[] 0)).alloc (.map #[] 0)) (.cells (devCells (Dv.new n) w.heap.size (w.heap.size + 1)) 116 (0, 0))
    rw [e2] at b3
    refine ⟨⟨b3, ?_, ?_, by omega, ⟨h1, h2, (fun k l h => by cases h), (fun k l h => by cases h), by simp [Dv.new], by simp [Dv.new]⟩⟩, ((Fr.alloc1 _ _).alloc _).alloc _⟩
    · exact BM.made ((m1.kept (Fr.alloc1 _ _) (by simp)).kept (Fr.alloc1 _ _) (by simp))
    · exact BM.made (m2.kept (Fr.alloc1 _ _) (by simp))
  have HF := Lib.hid hfin
  clear hfin
  have hmm := @run_makeMap Tryz.prog
  go_enter Tryz.func51, Tryz.ntmps51
  go_wp2
  go_ret2
  exact ⟨rfl, HF.out⟩
def Dv.fused (D : Dv) (acts : Int) : Dv := { D with off := D.off, fuse := max acts (-1) }
theorem sectors_k {b ml mc : Nat} {D : Dv} (w : World) (h : DevAt w b ml mc D) : Calls Tryz.prog 77 #[devP b] w fun e w' => e = .returned (.int .i64 D.n) ∧ w = w' := by
  obtain ⟨c0, _, _, _, _⟩ := h.cells
  go_enter Tryz.func77, Tryz.ntmps77
  go_wp2
  go_ret
  exact ⟨rfl, rfl⟩
end Go.Proofs.YtgpohemcfgepeaaGreat

namespace Go.Proofs.YtgpohemcfgepeaaGreat
open Go.RowKit Go.MapKept
theorem zero_bytes (w : World) : (zeroValue 117).run Tryz.prog w = .ok (.slice none 0 0) w := by kernel_rfl
section
variable {w : World} {b ml mc : Nat} {D : Dv}
theorem BM.look_some {S : List Nat} {r : Nat} {g : Int → Option (List UInt8)} (h : BM S w r g) {k : Int} {l : List UInt8} (hk : g k = some l) (c : Bool) :
    ∃ v, (Instr.lookup 114 (.map (some r)) (.int .i64 k) c).run Tryz.prog w = .ok (if c then .tuple #[v, .bool true] else v) w ∧ Bytes S w v l := by
  obtain ⟨f, hm, hg⟩ := h
  obtain ⟨v, hv, hb⟩ := (hg k).2 l hk
  exact ⟨v, hm.lookup_some keInt Tryz.underlying114 Tryz.underlying3 hv c, hb⟩
theorem BM.look_none {S : List Nat} {r : Nat} {g : Int → Option (List UInt8)} (h : BM S w r g) {k : Int} (hk : g k = none) (c : Bool) :
    (Instr.lookup 114 (.map (some r)) (.int .i64 k) c).run Tryz.prog w = .ok (if c then .tuple #[.slice none 0 0, .bool false] else .slice none 0 0) w := by
  obtain ⟨f, hm, hg⟩ := h
  exact hm.lookup_none keInt Tryz.underlying114 Tryz.underlying3 ((hg k).1 hk) (zero_bytes w) c
theorem BM.put {S : List Nat} {r : Nat} {g : Int → Option (List UInt8)} (h : BM S w r g) (hr : r ∈ S) (k : Int) {v : Value} {l : List UInt8} (hv : Bytes S w v l) :
    ∃ w2, (Instr.mapUpdate 114 (.map (some r)) (.int .i64 k) v).run Tryz.prog w = .ok () w2 ∧ BM S w2 r (upd g k (some l)) ∧ Fr [r] w w2 ∧ w2.heap.size = w.heap.size := by
  obtain ⟨f, hm, hg⟩ := h
  obtain ⟨w2, hrun, hm2, hf, hs⟩ := hm.update (P := Tryz.prog) keInt Tryz.underlying114 Tryz.underlying3 k v
  have hfS : Fr S w w2 := hf.mono (by simpa using fun _ => hr)
  refine ⟨w2, hrun, ⟨_, hm2, fun j => ?_⟩, hf, hs⟩
  by_cases hj : j = k
  · subst hj
    rw [upd_same, upd_same]
    exact ⟨fun h => (by cases h), fun l' h => (by cases h; exact ⟨v, rfl, hv.kept hfS⟩)⟩
  · rw [upd_ne _ _ hj, upd_ne _ _ hj]
    exact ⟨(hg j).1, fun l' h => by obtain ⟨u, hu, hb⟩ := (hg j).2 l' h; exact ⟨u, hu, hb.kept hfS⟩⟩
theorem BM.clr {S : List Nat} {r : Nat} {g : Int → Option (List UInt8)} (h : BM S w r g) (ty : TypeId) :
    ∃ w2, (Builtin.clear_ #[114] ty #[.map (some r)]).run Tryz.prog w = .ok (.tuple #[]) w2 ∧ BM S w2 r (fun _ => none) ∧ Fr [r] w w2 ∧ w2.heap.size = w.heap.size := by
  obtain ⟨f, hm, hg⟩ := h
  obtain ⟨w2, hrun, hm2, hf, hs⟩ := hm.clear (P := Tryz.prog) Tryz.underlying114 (ty := ty)
  exact ⟨w2, hrun, BM.made hm2, hf, hs⟩
theorem DevAt.cacheIs {w' : World} (h : DevAt w b ml mc D) (hf : Fr [mc] w w') {g : Int → Option (List UInt8)} (hg : BM [b, ml, mc] w' mc g) (hk : ∀ k l, g k = some l → 0 ≤ k ∧ k < D.n ∧ l.length = 1024) :
    DevAt w' b ml mc { D with cache := g } := by
  have hne := h.b_ne
  have hl : Fr [b, ml, mc] w w' := hf.mono (by simp)
  exact ⟨hf.heap h.blk (by simp; exact hne.2), h.lastM.kept hl (hf.block _ h.lastM.lt (by simp; exact h.ne)), hg, h.ne,
    ⟨h.fine.n2, h.fine.n4, h.fine.keysL, hk, h.fine.fuse1, h.fine.fuse2⟩⟩
theorem DevAt.lastIs {w' : World} (h : DevAt w b ml mc D) (hf : Fr [ml] w w') {g : Int → Option (List UInt8)} (hg : BM [b, ml, mc] w' ml g) (hk : ∀ k l, g k = some l → 0 ≤ k ∧ k < D.n ∧ l.length = 1024) :
    DevAt w' b ml mc { D with last := g } := by
  have hne := h.b_ne
  have hl : Fr [b, ml, mc] w w' := hf.mono (by simp)
  exact ⟨hf.heap h.blk (by simp; exact hne.1), hg, h.cacheM.kept hl (hf.block _ h.cacheM.lt (by simp; exact Ne.symm h.ne)), h.ne,
    ⟨h.fine.n2, h.fine.n4, hk, h.fine.keysC, h.fine.fuse1, h.fine.fuse2⟩⟩
end
def zeros : List UInt8 := List.replicate 1024 0
theorem pad_nil : pad [] = zeros := rfl
def Dv.bytes (D : Dv) (k : Int) : List UInt8 := (D.cache k).getD ((D.last k).getD zeros)
theorem zeros_length : zeros.length = 1024 := List.length_replicate
theorem Dv.fine.bytes_length {D : Dv} (h : D.fine) (k : Int) : (D.bytes k).length = 1024 := by
  unfold Dv.bytes
  cases hc : D.cache k with
  | some l => exact (h.keysC k l hc).2.2
  | none =>
    cases hl : D.last k with
    | some l => exact (h.keysL k l hl).2.2
    | none => exact zeros_length
def Blk (w : World) (B : Nat) (l : List UInt8) : Prop := w.heap[B]? = some (.cells (l.map byteV).toArray 5 (0, 0))
theorem Blk.bytes {S : List Nat} {w : World} {B : Nat} {l : List UInt8} (h : Blk w B l) (hs : B ∉ S) {n : Nat} (hn : l.length = n) : Bytes S w (.slice (some ⟨B, 0, none⟩) n n) l := by
  subst hn
  have := Slc.ofBlock (S := S) h hs l.length l.length (Nat.le_refl _)
  exact this
theorem read_no {b ml mc : Nat} {D : Dv} (k r : Int) (w : World) (h : DevAt w b ml mc D) (hr : useE D k 0 = r) (h0 : r ≠ 0) :
    Calls Tryz.prog 112 #[devP b, .int .i64 k] w fun e w' => e = .returned (.tuple #[.slice none 0 0, .int .i64 r]) ∧ w = w' := by
  have hn : (r != 0) = true := by simp [h0]
  clear h0
  have HR := Lib.hid hr
  clear hr
  go_enter Tryz.func112, Tryz.ntmps112
  go_wp2_with (first | (go_at_call 142; refine (use_k _ r _ _ _ _ h HR.out).mono ?_; rintro e w' ⟨rfl, rfl⟩))
  go_ret2
  exact ⟨rfl, rfl⟩
set_option maxHeartbeats 400000 in
theorem read_k {b ml mc : Nat} {D : Dv} (k : Int) (w : World) (h : DevAt w b ml mc D) (hr : useE D k 0 = 0) :
    Calls Tryz.prog 112 #[devP b, .int .i64 k] w fun e w' => e = .returned (.tuple #[.slice (some ⟨w.heap.size, 0, none⟩) 1024 1024, .int .i64 0]) ∧
      Blk w' w.heap.size (D.bytes k) ∧ Fr [] w w' ∧ w'.heap.size = w.heap.size + 1 := by
  obtain ⟨c0, c1, c2, c3, c4⟩ := h.cells
  have hlen := h.fine.bytes_length k
  unfold Dv.bytes at hlen ⊢
  cases hc : D.cache k with
  | some l =>
    obtain ⟨v, hrun, hb⟩ := h.cacheM.look_some hc true
    simp only [if_true] at hrun
    rw [hc] at hlen
    simp only [Option.getD_some] at hlen ⊢
    have hw := whole_k w hb (by omega)
    rw [pad_full hlen] at hw
    have HW := Lib.hid hw
    have HR := Lib.hid hr
    have HH := Lib.hid h
    clear hw hr h hb hlen hc c0 c1 c3 c4
    go_enter Tryz.func112, Tryz.ntmps112
    go_wp2_with (first | (go_at_call 142; refine (use_k _ 0 _ _ _ _ HH.out HR.out).mono ?_; rintro e w' ⟨rfl, rfl⟩) | (go_at_call 70; refine HW.out.mono ?_; rintro e w' ⟨rfl, hbk, hfr, hsz⟩))
    go_ret2
    exact ⟨rfl, hbk, hfr, hsz⟩
  | none =>
    have hrun := h.cacheM.look_none hc true
    simp only [if_true] at hrun
    rw [hc] at hlen
    simp only [Option.getD_none] at hlen ⊢
    cases hl : D.last k with
    | some l =>
      obtain ⟨v, hrun2, hb⟩ := h.lastM.look_some hl false
      simp only [Bool.false_eq_true, if_false] at hrun2
      rw [hl] at hlen
      simp only [Option.getD_some] at hlen ⊢
      have hw := whole_k w hb (by omega)
      rw [pad_full hlen] at hw
      have HW := Lib.hid hw
      have HR := Lib.hid hr
      have HH := Lib.hid h
      clear hw hr h hb hlen hc hl c0 c3 c4
      go_enter Tryz.func112, Tryz.ntmps112
      go_wp2_with (first | (go_at_call 142; refine (use_k _ 0 _ _ _ _ HH.out HR.out).mono ?_; rintro e w' ⟨rfl, rfl⟩) | (go_at_call 70; refine HW.out.mono ?_; rintro e w' ⟨rfl, hbk, hfr, hsz⟩))
      go_ret2
      exact ⟨rfl, hbk, hfr, hsz⟩
    | none =>
      have hrun2 := h.lastM.look_none hl false
      simp only [Bool.false_eq_true, if_false] at hrun2
      simp only [Option.getD_none]
      have hw := whole_k (S := []) w (Bytes.nil [] w) (by simp)
      rw [pad_nil] at hw
      have HW := Lib.hid hw
      have HR := Lib.hid hr
      have HH := Lib.hid h
      clear hw hr h hlen hc hl c0 c3 c4
      go_enter Tryz.func112, Tryz.ntmps112
      go_wp2_with (first | (go_at_call 142; refine (use_k _ 0 _ _ _ _ HH.out HR.out).mono ?_; rintro e w' ⟨rfl, rfl⟩) | (go_at_call 70; refine HW.out.mono ?_; rintro e w' ⟨rfl, hbk, hfr, hsz⟩))
      go_ret2
      exact ⟨rfl, hbk, hfr, hsz⟩
end Go.Proofs.YtgpohemcfgepeaaGreat

namespace Go.Proofs.YtgpohemcfgepeaaGreat
open Go.RowKit Go.MapKept
def writeE (D : Dv) (k : Int) (l : List UInt8) : Int := if useE D k l.length = 0 then actE D else useE D k l.length
def writeD (D : Dv) (k : Int) (l : List UInt8) : Dv := if useE D k l.length = 0 then (if actE D = 0 then { actD D with cache := upd (actD D).cache k (some (pad l)) } else actD D) else D
theorem actD_n (D : Dv) : (actD D).n = D.n := by unfold actD; split <;> (try split) <;> rfl
theorem useE_zero {D : Dv} {k : Int} {n : Nat} (h : useE D k n = 0) : D.off = false ∧ 0 ≤ k ∧ k < D.n ∧ n ≤ 1024 := by
  unfold useE at h
  split at h
  · cases h
  · split at h
    · cases h
    · rename_i h1 h2
      exact ⟨by simpa using h1, by omega, by omega, by omega⟩
theorem upd_keys {n : Nat} {g : Int → Option (List UInt8)} (hg : ∀ k l, g k = some l → 0 ≤ k ∧ k < n ∧ l.length = 1024) {k : Int} {l : List UInt8} (h0 : 0 ≤ k) (h1 : k < n) (hl : l.length = 1024) :
    ∀ j m, upd g k (some l) j = some m → 0 ≤ j ∧ j < n ∧ m.length = 1024 := by
  intro j m hj
  by_cases e : j = k
  · subst e; rw [upd_same] at hj; cases hj; exact ⟨h0, h1, hl⟩
  · rw [upd_ne _ _ e] at hj; exact hg j m hj
set_option maxRecDepth 100000 in
set_option maxHeartbeats 1000000 in
theorem write_k {b ml mc : Nat} {D : Dv} (k : Int) {v : Value} {l : List UInt8} (w : World) (h : DevAt w b ml mc D) (hv : Bytes [b, ml, mc] w v l) :
    Calls Tryz.prog 134 #[devP b, .int .i64 k, v] w fun e w' => e = .returned (.int .i64 (writeE D k l)) ∧ DevAt w' b ml mc (writeD D k l) ∧ Fr [b, mc] w w' := by
  obtain ⟨a, cp, rfl, _⟩ := Slc.form hv
  unfold writeE writeD
  by_cases hu : useE D k l.length = 0
  · rw [if_pos hu, if_pos hu]
    obtain ⟨_, hk0, hk1, hk2⟩ := useE_zero hu
    by_cases ha : actE D = 0
    · rw [if_pos ha, ha]
      have HU := Lib.hid hu
      have HA := Lib.hid ha
      have HH := Lib.hid h
      have HV := Lib.hid hv
      clear hu ha h hv
      go_enter Tryz.func134, Tryz.ntmps134
      go_wp2_with (first
        | (go_at_call 142; refine (use_k _ 0 _ _ _ _ HH.out HU.out).mono ?_; rintro e w' ⟨rfl, rfl⟩)
        | (go_at_call 143; refine (act_k 0 _ HH.out HA.out).mono ?_; rintro e w1 ⟨rfl, hd1, hf1, hs1⟩; have HD1 := Lib.hid hd1; have HF1 := Lib.hid hf1; have c2 := hd1.cells.2.2.1; clear hd1 hf1 hs1))
      have HV1 : Hid (Bytes [b, ml, mc] w1 (.slice a l.length cp) l) := HV.out.kept (HF1.out.mono (by simp))
      go_region_with (go_at_call 70; refine (whole_k (S := [b, ml, mc]) (l := l) _ (by exact HV1.out) hk2).mono ?_; rintro e w2 ⟨rfl, hbk0, hfr, hsz⟩; have hbk : Blk w2 w1.heap.size (pad l) := hbk0; clear hbk0; have c22 := (HD1.out.kept hfr.ofDrew).cells.2.2.1; obtain ⟨w3, hmu, hbm, hf3, hs3⟩ := (HD1.out.kept hfr.ofDrew).cacheM.put (by simp) k (Blk.bytes (S := [b, ml, mc]) (n := 1024) hbk (by have := HD1.out.lt; simp only [List.mem_cons, List.not_mem_nil, or_false, not_or]; omega) (pad_length hk2)); have HX := Lib.hid (And.intro hbk (And.intro hfr (And.intro hbm (And.intro hf3 hs3)))); clear hbk hfr hsz hbm hf3 hs3)
      all_goals
        go_wp2
        go_ret
        obtain ⟨_, hfr, hbm, hf3, _⟩ := HX.out
        have hd2 := HD1.out.kept hfr.ofDrew
        refine ⟨rfl, hd2.cacheIs hf3 hbm (upd_keys hd2.fine.keysC hk0 (by rw [actD_n]; exact hk1) (pad_length hk2)), ?_⟩
        exact ((HF1.out.mono (by simp)).trans (hfr.ofDrew.nil)).trans (hf3.mono (by simp))
    · rw [if_neg ha]
      generalize hr : actE D = r at *
      have hn : (r != 0) = true := by simp [ha]
      have HU := Lib.hid hu
      have HA := Lib.hid hr
      have HH := Lib.hid h
      clear hu ha h hv hr
      go_enter Tryz.func134, Tryz.ntmps134
      go_wp2_with (first
        | (go_at_call 142; refine (use_k _ 0 _ _ _ _ HH.out HU.out).mono ?_; rintro e w' ⟨rfl, rfl⟩)
        | (go_at_call 143; refine (act_k r _ HH.out HA.out).mono ?_; rintro e w1 ⟨rfl, hd1, hf1, hs1⟩))
      go_ret
      exact ⟨rfl, hd1, hf1.mono (by simp)⟩
  · rw [if_neg hu, if_neg hu]
    generalize hr : useE D k l.length = r at *
    have hn : (r != 0) = true := by simp [hu]
    have HU := Lib.hid hr
    have HH := Lib.hid h
    clear hu h hv hr
    go_enter Tryz.func134, Tryz.ntmps134
    go_wp2_with (first
      | (go_at_call 142; refine (use_k _ r _ _ _ _ HH.out HU.out).mono ?_; rintro e w' ⟨rfl, rfl⟩))
    go_ret
    exact ⟨rfl, HH.out, Fr.refl _ _⟩
end Go.Proofs.YtgpohemcfgepeaaGreat

namespace Go.Proofs.YtgpohemcfgepeaaGreat
open Go.RowKit Go.MapKept
def joinM (c l : Int → Option (List UInt8)) : Int → Option (List UInt8) := fun k => match c k with | some x => some x | none => l k
def Copied (w : World) (S : List Nat) (ml : Nat) (es : Array MapEntry) (seen : Array Nat) (c l : Int → Option (List UInt8)) : Prop :=
  ∃ g, BM S w ml g ∧ (∀ k, (∃ x ∈ es.toList, x.born ∈ seen.toList ∧ x.key = .int .i64 k) → g k = c k) ∧
    (∀ k, (∀ x ∈ es.toList, x.born ∈ seen.toList → x.key ≠ .int .i64 k) → g k = l k)
theorem Copied.end {w : World} {S : List Nat} {ml : Nat} {es : Array MapEntry} {seen : Array Nat} {c l : Int → Option (List UInt8)} {f : Int → Option Value}
    (h : Copied w S ml es seen c l) (hf : ∀ k v, f k = some v ↔ ∃ x ∈ es.toList, x.key = .int .i64 k ∧ x.val = v)
    (hc : ∀ k, (c k = none → f k = none) ∧ ∀ x, c k = some x → ∃ v, f k = some v ∧ Bytes S w v x) (hall : ∀ x ∈ es.toList, x.born ∈ seen.toList) : BM S w ml (joinM c l) := by
  obtain ⟨g, hg, h1, h2⟩ := h
  have : g = joinM c l := by
    funext k
    unfold joinM
    cases hk : c k with
    | some x =>
      obtain ⟨v, hv, _⟩ := (hc k).2 x hk
      obtain ⟨e, he, hek, _⟩ := (hf k v).1 hv
      rw [h1 k ⟨e, he, hall e he, hek⟩, hk]
    | none =>
      refine h2 k (fun e he _ hek => ?_)
      have := (hf k e.val).2 ⟨e, he, hek, rfl⟩
      rw [(hc k).1 hk] at this
      cases this
  rw [← this]; exact hg
theorem Copied.step {w' : World} {S : List Nat} {ml : Nat} {es : Array MapEntry} {clock : Nat} {seen : Array Nat} {c l : Int → Option (List UInt8)} {g : Int → Option (List UInt8)} {e : MapEntry} {k : Int} {x : List UInt8}
    (hs : Stamped es clock) (h1 : ∀ k, (∃ x ∈ es.toList, x.born ∈ seen.toList ∧ x.key = .int .i64 k) → g k = c k)
    (h2 : ∀ k, (∀ x ∈ es.toList, x.born ∈ seen.toList → x.key ≠ .int .i64 k) → g k = l k) (he : e ∈ es.toList) (hk : e.key = .int .i64 k) (hx : c k = some x)
    (hg : BM S w' ml (upd g k (some x))) : Copied w' S ml es (seen.push e.born) c l := by
  refine ⟨_, hg, fun j hj => ?_, fun j hj => ?_⟩
  · by_cases e1 : j = k
    · subst e1; rw [upd_same, hx]
    · rw [upd_ne _ _ e1]
      obtain ⟨y, hy, hyb, hyk⟩ := hj
      refine h1 j ⟨y, hy, ?_, hyk⟩
      simp only [Array.toList_push, List.mem_append, List.mem_singleton] at hyb
      rcases hyb with hyb | hyb
      · exact hyb
      · have hb := hs.2.1
        have : y = e := by
          obtain ⟨i, hi⟩ := List.mem_iff_getElem?.1 hy
          obtain ⟨i', hi'⟩ := List.mem_iff_getElem?.1 he
          have hnd := hs.2.1
          rw [List.Nodup, List.pairwise_iff_getElem] at hnd
          obtain ⟨hl, hv⟩ := List.getElem?_eq_some_iff.1 hi
          obtain ⟨hl', hv'⟩ := List.getElem?_eq_some_iff.1 hi'
          rcases Nat.lt_trichotomy i i' with hlt | rfl | hlt
          · exact (hnd i i' (by simpa using hl) (by simpa using hl') hlt (by rw [List.getElem_map, List.getElem_map, hv, hv', hyb])).elim
          · rw [← hv, ← hv']
          · exact (hnd i' i (by simpa using hl') (by simpa using hl) hlt (by rw [List.getElem_map, List.getElem_map, hv, hv', hyb])).elim
        subst this
        rw [hk] at hyk
        exact absurd (by injection hyk with _ h; exact h.symm) e1
  · have hne : j ≠ k := by
      rintro rfl
      exact hj e he (by simp) hk
    rw [upd_ne _ _ hne]
    exact h2 j (fun y hy hyb => hj y hy (by simp [hyb]))
theorem IterG.kept {w w' : World} {it r : Nat} {es : Array MapEntry} {clock : Nat} {seen : Array Nat} {S : List Nat} (h : IterG w it r es clock seen) (hf : Fr S w w') (h1 : it ∉ S) (h2 : r ∉ S) : IterG w' it r es clock seen := by
  obtain ⟨since, c0, hit, hb, rest⟩ := h
  exact ⟨since, c0, hf.heap hit h1, hf.heap hb h2, rest⟩
set_option maxRecDepth 100000 in
set_option maxHeartbeats 1000000 in
theorem maps_copy_k {b ml mc : Nat} {D : Dv} (w : World) (h : DevAt w b ml mc D) :
    Calls Tryz.prog 144 #[.map (some ml), .map (some mc)] w fun e w' => e = .returned (.tuple #[]) ∧ DevAt w' b ml mc { D with last := joinM D.cache D.last } ∧ Fr [ml] w w' := by
  have hlt := h.lt
  have hne := h.ne
  obtain ⟨f, ⟨es, clock, hb, hs, hks, hf⟩, hc⟩ := h.cacheM
  obtain ⟨hrg, hit0⟩ := IterG.start (P := Tryz.prog) Tryz.underlying114 hb hs
  have hfr0 : Fr [] w (w.alloc (.mapIter (some mc) clock #[] clock)) := Fr.alloc1 _ _
  have hstart : Copied (w.alloc (.mapIter (some mc) clock #[] clock)) [w.heap.size, b, ml, mc] ml es #[] D.cache D.last :=
    ⟨D.last, (h.lastM.more (S' := [w.heap.size, b, ml, mc]) (by simp)).kept hfr0.nil (hfr0.block _ hlt.2.1 (by simp)), by simp, by simp⟩
  have H0 := Lib.hid (And.intro hit0 (And.intro hfr0 hstart))
  have HS := Lib.hid hs
  have HK := Lib.hid (And.intro hks (And.intro hf hc))
  have HD := Lib.hid h
  have HB := Lib.hid hb
  clear hit0 hfr0 hstart hs hks hf hc h hb
  go_enter Tryz.func144, Tryz.ntmps144
  go_wp2_with fail
  go_loopw [4] (fun _ wr => ∃ seen, IterG wr w.heap.size mc es clock seen ∧ Fr [ml] w wr ∧ Copied wr [w.heap.size, b, ml, mc] ml es seen D.cache D.last ∧ w.heap.size < wr.heap.size)
    (fun _ wr => match wr.heap[w.heap.size]? with | some (.mapIter _ _ seen _) => (leftOf es seen).size | _ => 0)
  case atStart =>
    exact ⟨#[], H0.out.1, H0.out.2.1.nil, H0.out.2.2, by simp⟩
  case round =>
    obtain ⟨seen, hit, hfr, hcp, hsz⟩ := hrel
    have hm0 : (match wr.heap[w.heap.size]? with | some (.mapIter _ _ seen _) => (leftOf es seen).size | _ => 0) = (leftOf es seen).size := by
      obtain ⟨_, _, hi, _⟩ := hit; rw [hi]
    rcases IterG.step (P := Tryz.prog) hit with ⟨hn, hall⟩ | ⟨e, he, hnew, w1, hn, hen, hit1, hfr1, hs1, hless⟩
    · have hfin : DevAt wr b ml mc { D with last := joinM D.cache D.last } := by
        have hfS : Fr [w.heap.size, b, ml, mc] w wr := hfr.mono (by simp)
        have hbm := hcp.end HK.out.2.1 (fun k => ⟨(HK.out.2.2 k).1, fun x hx => by obtain ⟨v, hv, hbv⟩ := (HK.out.2.2 k).2 x hx; exact ⟨v, hv, (hbv.more (S' := [w.heap.size, b, ml, mc]) (by simp)).kept hfS⟩⟩) hall
        refine HD.out.lastIs hfr (hbm.more (by simp)) (fun k l hk => ?_)
        unfold joinM at hk
        cases hck : D.cache k with
        | some x => rw [hck] at hk; cases hk; exact HD.out.fine.keysC k _ hck
        | none => rw [hck] at hk; exact HD.out.fine.keysL k _ hk
      have HF := Lib.hid (And.intro hfin hfr)
      clear hfin hfr hall hcp hit hm0
      go_wp2
      go_end0
      exact ⟨rfl, HF.out⟩
    · obtain ⟨k, hk⟩ := HK.out.1 e he
      obtain ⟨g, hg, hg1, hg2⟩ := hcp
      have hfk : f k = some e.val := (HK.out.2.1 k _).2 ⟨e, he, hk, rfl⟩
      obtain ⟨x, hx, hxv⟩ : ∃ x, D.cache k = some x ∧ Bytes [b, ml, mc] w e.val x := by
        cases hck : D.cache k with
        | none => rw [(HK.out.2.2 k).1 hck] at hfk; cases hfk
        | some x =>
          obtain ⟨v, hv, hbv⟩ := (HK.out.2.2 k).2 x hck
          rw [hfk] at hv; cases hv
          exact ⟨x, rfl, hbv⟩
      have hf1 : Fr [ml] w w1 := hfr.andThen hfr1 (by simp)
      have hg' : BM [w.heap.size, b, ml, mc] w1 ml g := hg.kept (hfr1.mono (by simp)) (hfr1.block _ hg.lt (by simp; omega))
      have hxv1 : Bytes [w.heap.size, b, ml, mc] w1 e.val x := (hxv.more (S' := [w.heap.size, b, ml, mc]) (by simp)).kept (hf1.mono (by simp))
      obtain ⟨w2, hmu, hbm2, hf2, hs2⟩ := hg'.put (by simp) k hxv1
      have hit2 := hit1.kept hf2 (by simp; omega) (by simp; omega)
      have hm2 : (match w2.heap[w.heap.size]? with | some (.mapIter _ _ seen _) => (leftOf es seen).size | _ => 0) = (leftOf es (seen.push e.born)).size := by
        obtain ⟨_, _, hi, _⟩ := hit2; rw [hi]
      have hfin : IterG w2 w.heap.size mc es clock (seen.push e.born) ∧ Fr [ml] w w2 ∧ Copied w2 [w.heap.size, b, ml, mc] ml es (seen.push e.born) D.cache D.last ∧ w.heap.size < w2.heap.size :=
        ⟨hit2, hf1.trans hf2, Copied.step HS.out hg1 hg2 he hk hx hbm2, by omega⟩
      have HF := Lib.hid hfin
      have HM := Lib.hid (And.intro hm0 (And.intro hm2 hless))
      rw [hk] at hn hen
      clear hfin hm0 hm2 hless hit2 hbm2 hf2 hs2 hxv1 hg' hf1 hx hxv hfk hg hg1 hg2 hk he hnew hit hfr hsz hit1 hfr1 hs1
      go_wp2
      go_roundw
      case rel => exact ⟨_, HF.out⟩
      case measure => rw [HM.out.1, HM.out.2.1]; exact HM.out.2.2
end Go.Proofs.YtgpohemcfgepeaaGreat

namespace Go.Proofs.YtgpohemcfgepeaaGreat
open Go.RowKit Go.MapKept
def syncE (D : Dv) : Int := if D.off then 40 else actE D
def syncD (D : Dv) : Dv := if D.off then D else if actE D = 0 then { actD D with last := joinM (actD D).cache (actD D).last, cache := fun _ => none } else actD D
theorem useE_0 {D : Dv} (h : D.fine) : useE D 0 0 = if D.off then 40 else 0 := by
  unfold useE
  have := h.n2
  by_cases ho : D.off = true
  · rw [if_pos ho, if_pos ho]
  · rw [if_neg ho, if_neg ho, if_neg (by omega)]
set_option maxRecDepth 100000 in
set_option maxHeartbeats 1000000 in
theorem sync_k {b ml mc : Nat} {D : Dv} (w : World) (h : DevAt w b ml mc D) :
    Calls Tryz.prog 105 #[devP b] w fun e w' => e = .returned (.int .i64 (syncE D)) ∧ DevAt w' b ml mc (syncD D) ∧ Fr [b, ml, mc] w w' := by
  have h0 := useE_0 h.fine
  unfold syncE syncD
  by_cases ho : D.off = true
  · rw [if_pos ho, if_pos ho]
    rw [if_pos ho] at h0
    have HU := Lib.hid h0
    have HH := Lib.hid h
    clear ho h h0
    go_enter Tryz.func105, Tryz.ntmps105
    go_wp2_with (first | (go_at_call 142; refine (use_k _ 40 _ _ _ _ HH.out HU.out).mono ?_; rintro e w' ⟨rfl, rfl⟩))
    go_ret
    exact ⟨rfl, HH.out, Fr.refl _ _⟩
  · rw [if_neg ho, if_neg ho]
    rw [if_neg ho] at h0
    by_cases ha : actE D = 0
    · rw [if_pos ha, ha]
      have HU := Lib.hid h0
      have HA := Lib.hid ha
      have HH := Lib.hid h
      clear h0 ha h ho
      go_enter Tryz.func105, Tryz.ntmps105
      go_wp2_with (first
        | (go_at_call 142; refine (use_k _ 0 _ _ _ _ HH.out HU.out).mono ?_; rintro e w' ⟨rfl, rfl⟩)
        | (go_at_call 143; refine (act_k 0 _ HH.out HA.out).mono ?_; rintro e w1 ⟨rfl, hd1, hf1, hs1⟩; have HD1 := Lib.hid hd1; have HF1 := Lib.hid hf1; have c1 := hd1.cells.2.1; have c2 := hd1.cells.2.2.1; clear hd1 hf1 hs1))
      go_region_with (go_at_call 144; refine (maps_copy_k (b := b) (D := actD D) _ (by exact HD1.out.drew)).mono ?_; rintro e w2 ⟨rfl, hd2, hf2⟩; have HD2 := Lib.hid hd2; have HF2 := Lib.hid hf2.ofDrew; have c22 := hd2.cells.2.2.1; clear hf2; obtain ⟨w3, hcl, hbm, hf3, hs3⟩ := hd2.cacheM.clr 0; have HX := Lib.hid (And.intro hbm hf3); clear hbm hf3 hs3 hd2)
      all_goals
        go_wp2
        go_ret
        obtain ⟨hbm, hf3⟩ := HX.out
        refine ⟨rfl, HD2.out.cacheIs hf3 hbm (fun _ _ h => by cases h), ?_⟩
        exact ((HF1.out.mono (by simp)).trans ((HF2.out : Fr [ml] w1 w2).mono (by simp))).trans (hf3.mono (by simp))
    · rw [if_neg ha]
      generalize hr : actE D = r at *
      have hn : (r != 0) = true := by simp [ha]
      have HU := Lib.hid h0
      have HA := Lib.hid hr
      have HH := Lib.hid h
      clear h0 ha h hr ho
      go_enter Tryz.func105, Tryz.ntmps105
      go_wp2_with (first
        | (go_at_call 142; refine (use_k _ 0 _ _ _ _ HH.out HU.out).mono ?_; rintro e w' ⟨rfl, rfl⟩)
        | (go_at_call 143; refine (act_k r _ HH.out HA.out).mono ?_; rintro e w1 ⟨rfl, hd1, hf1, hs1⟩))
      go_ret
      exact ⟨rfl, hd1, hf1.mono (by simp)⟩
def spoilE (D : Dv) (k a : Int) : Int := if k < 0 ∨ D.n ≤ k then 41 else if a < 0 ∨ 1024 ≤ a then 1 else 0
def spoiled (l : List UInt8) (a : Int) (by' : UInt8) : List UInt8 := l.set a.toNat (l.getD a.toNat 0 ^^^ by')
def spoilD (D : Dv) (k a : Int) (by' : UInt8) : Dv :=
  if spoilE D k a = 0 then (match D.cache k with
    | some l => { D with cache := upd D.cache k (some (spoiled l a by')) }
    | none => { D with last := upd D.last k (some (spoiled ((D.last k).getD zeros) a by')) }) else D
end Go.Proofs.YtgpohemcfgepeaaGreat

namespace Go.Proofs.YtgpohemcfgepeaaGreat
open Go.RowKit Go.MapKept
end Go.Proofs.YtgpohemcfgepeaaGreat

namespace Go.Proofs.YtgpohemcfgepeaaGreat
open Go.RowKit Go.MapKept
end Go.Proofs.YtgpohemcfgepeaaGreat

namespace Go.Proofs.YtgpohemcfgepeaaGreat
open Go.RowKit Go.MapKept
def keepStep (D : Dv) (n : Int) : Dv := match D.cache n with
  | some l => { D with last := upd D.last n (some l), cache := upd D.cache n none }
  | none => D
def keepAll (D : Dv) (keep : List Int) : Dv := keep.foldl keepStep D
def clampN (cut : Int) : Nat := (min (max cut 0) 1024).toNat
def tornD (D : Dv) (torn cut : Int) : Dv := match D.cache torn with
  | some l => { D with last := upd D.last torn (some (l.take (clampN cut) ++ ((D.last torn).getD zeros).drop (clampN cut))) }
  | none => D
def wakeD (D : Dv) : Dv := { D with cache := fun _ => none, off := false, fuse := -1 }
def restartD (D : Dv) (keep : List Int) (torn cut : Int) : Dv := wakeD (tornD (keepAll D keep) torn cut)
section
variable {w : World} {b ml mc : Nat} {D : Dv}
end
end Go.Proofs.YtgpohemcfgepeaaGreat

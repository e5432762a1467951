/- Plain words that all walks of this seat share: frames of memory, maps in memory, slices in memory, bytes. No program in sight. -/
import Derived.WalkKit
import Derived.WalkSpells
import Derived.WalkLawsBesides
import Derived.MapKept
import Derived.Maps.RangeRun
namespace Go.Proofs.Ytgockpichhgijaa
open Go.RowKit Go.MapKept

/-- Of what lay in w, nothing but the blocks in S has turned in w'. -/
structure Fr (S : List Nat) (w w' : World) : Prop where
  os : w'.os = w.os
  tape : w'.tape = w.tape
  output : w'.output = w.output
  size : w.heap.size ≤ w'.heap.size
  block : ∀ k, k < w.heap.size → k ∉ S → w'.heap[k]? = w.heap[k]?

theorem Fr.refl (S : List Nat) (w : World) : Fr S w w := ⟨rfl, rfl, rfl, Nat.le_refl _, fun _ _ _ => rfl⟩
theorem Fr.trans {S : List Nat} {a b c : World} (h : Fr S a b) (k : Fr S b c) : Fr S a c :=
  ⟨k.os.trans h.os, k.tape.trans h.tape, k.output.trans h.output, Nat.le_trans h.size k.size, fun i hi hs => (k.block i (Nat.lt_of_lt_of_le hi h.size) hs).trans (h.block i hi hs)⟩
theorem Fr.mono {S S' : List Nat} {w w' : World} (h : Fr S w w') (hs : ∀ x, x ∈ S → x < w.heap.size → x ∈ S') : Fr S' w w' :=
  ⟨h.os, h.tape, h.output, h.size, fun k hk hn => h.block k hk (fun hm => hn (hs k hm hk))⟩
theorem Fr.andThen {S S' : List Nat} {a b c : World} (h : Fr S a b) (k : Fr S' b c) (hs : ∀ x, x ∈ S' → x ∈ S ∨ a.heap.size ≤ x) : Fr S a c :=
  ⟨k.os.trans h.os, k.tape.trans h.tape, k.output.trans h.output, Nat.le_trans h.size k.size, fun i hi hn =>
    (k.block i (Nat.lt_of_lt_of_le hi h.size) (fun hm => (hs i hm).elim hn (fun h => by omega))).trans (h.block i hi hn)⟩
theorem Fr.nil {S : List Nat} {w w' : World} (h : Fr [] w w') : Fr S w w' := h.mono (by simp)
theorem Fr.drop {S : List Nat} {w w' : World} (h : Fr S w w') (hs : ∀ x, x ∈ S → w.heap.size ≤ x) : Fr [] w w' :=
  h.mono (fun x hx hl => absurd (hs x hx) (by omega))
theorem Fr.of_below {w w' : World} (h : Below w.heap.size w w') : Fr [] w w' := ⟨h.os, h.tape, h.output, h.size, fun k hk _ => h.block k hk⟩
theorem Fr.below {S : List Nat} {w w' : World} {B : Nat} (h : Fr S w w') (hB : B ≤ w.heap.size) (hs : ∀ x, x ∈ S → B ≤ x) : Below B w w' :=
  ⟨h.os, h.tape, h.output, h.size, fun k hk => h.block k (by omega) (fun hm => by have := hs k hm; omega)⟩
theorem Fr.toBelow {w w' : World} (h : Fr [] w w') : Below w.heap.size w w' := h.below (Nat.le_refl _) (by simp)
theorem Fr.drew {S : List Nat} {a w : World} (h : Fr S a w) : Fr S a w.drew := ⟨h.os, h.tape, h.output, h.size, h.block⟩
theorem Fr.ofDrew {S : List Nat} {a w : World} (h : Fr S a.drew w) : Fr S a w := ⟨h.os, h.tape, h.output, h.size, h.block⟩
theorem Fr.alloc {S : List Nat} {a w : World} (h : Fr S a w) (o : Obj) : Fr S a (w.alloc o) :=
  h.trans ⟨rfl, rfl, rfl, by simp, fun k hk _ => Below.heap_alloc _ _ _ hk⟩
theorem Fr.alloc1 (w : World) (o : Obj) : Fr [] w (w.alloc o) := (Fr.refl [] w).alloc o
theorem Fr.put (w : World) (r : Nat) (o : Obj) : Fr [r] w { w with heap := w.heap.setIfInBounds r o } :=
  ⟨rfl, rfl, rfl, by simp, fun k _ hs => by
    have hne : ¬ r = k := fun h => hs (by simp [h])
    simp [hne]⟩
theorem Fr.setCell (w : World) (a : Addr) (v : Value) : Fr [a.block] w (w.setCell a v) :=
  ⟨rfl, rfl, rfl, by simp [World.setCell], fun k _ hs => Below.heap_setCell _ _ _ _ (fun h => hs (by simp [h]))⟩
theorem Fr.grown {w w' : World} {row : Option Nat} (h : w.grownBy w' row) : Fr (row.toList) w w' :=
  ⟨h.os, h.tape, h.output, h.size, fun k hk hs => h.block k hk (fun e => hs (by simp [← e]))⟩
theorem Fr.cell {S : List Nat} {w w' : World} (h : Fr S w w') {a : Addr} (hl : a.block < w.heap.size) (hs : a.block ∉ S) : w'.cell? a = w.cell? a :=
  World.cell?_of_block (w := w) (h.block a.block hl hs)
theorem Fr.frozen {S : List Nat} {w w' : World} (h : Fr S w w') {a : Addr} (hl : a.block < w.heap.size) (hs : a.block ∉ S) : w'.frozen? a = w.frozen? a :=
  World.frozen?_of_block (w := w) (h.block a.block hl hs)
theorem lt_of_heap {w : World} {b : Nat} {o : Obj} (h : w.heap[b]? = some o) : b < w.heap.size := (Array.getElem?_eq_some_iff.1 h).1
theorem Fr.heap {S : List Nat} {w w' : World} (h : Fr S w w') {b : Nat} {o : Obj} (hb : w.heap[b]? = some o) (hs : b ∉ S) : w'.heap[b]? = some o :=
  (h.block b (lt_of_heap hb) hs).trans hb
theorem lt_of_cell {w : World} {a : Addr} {v : Value} (h : w.cell? a = some v) : a.block < w.heap.size := World.block_lt_of_cell? w a h
theorem Fr.cellSome {S : List Nat} {w w' : World} (h : Fr S w w') {a : Addr} {v : Value} (hc : w.cell? a = some v) (hs : a.block ∉ S) : w'.cell? a = some v :=
  (h.cell (lt_of_cell hc) hs).trans hc

/-! ### a block of cells, known whole -/
theorem blk_cell {w : World} {b : Nat} {cs : Array Value} {T : TypeId} {z : Nat × Nat} (h : w.heap[b]? = some (.cells cs T z)) (i : Nat) : w.cell? ⟨b, i, none⟩ = cs[i]? := by
  simp [World.cell?, h]
theorem blk_free {w : World} {b : Nat} {cs : Array Value} {T : TypeId} (h : w.heap[b]? = some (.cells cs T (0, 0))) (i : Nat) : w.frozen? ⟨b, i, none⟩ = false := by
  simp [World.frozen?, h]
theorem blk_set {w : World} {b : Nat} {cs : Array Value} {T : TypeId} {z : Nat × Nat} (h : w.heap[b]? = some (.cells cs T z)) (i : Nat) (v : Value) :
    (w.setCell ⟨b, i, none⟩ v).heap[b]? = some (.cells (cs.setIfInBounds i v) T z) := by
  simp [World.setCell, Array.getElem?_modify, h]
theorem blk_set_ne {w : World} {b c : Nat} {o : Obj} (h : w.heap[c]? = some o) (hne : c ≠ b) (i : Nat) (v : Value) : (w.setCell ⟨b, i, none⟩ v).heap[c]? = some o := by
  rw [Below.heap_setCell _ _ _ _ hne]; exact h
theorem blk_alloc {w : World} {c : Nat} {o : Obj} (h : w.heap[c]? = some o) (o' : Obj) : (w.alloc o').heap[c]? = some o := by
  rw [Below.heap_alloc _ _ _ (lt_of_heap h)]; exact h
theorem blk_new (w : World) (o : Obj) : (w.alloc o).heap[w.heap.size]? = some o := (MapKept.heap_alloc w o).1

/-! ### a map in memory -/
structure KE {κ : Type} (d : TypeDesc) (enc : κ → Value) : Prop where
  key : ∀ k, IsKey d (enc k)
  inj : ∀ a b, enc a = enc b → a = b

theorem keInt : KE (.int .i64) (Value.int .i64) := ⟨fun _ => rfl, fun a b h => by injection h⟩
theorem keStr : KE .string Value.string := ⟨fun _ => trivial, fun a b h => by injection h⟩

/-- Block r of w is a map whose entry at k is f k. -/
def MapG {κ : Type} (enc : κ → Value) (w : World) (r : Nat) (f : κ → Option Value) : Prop :=
  ∃ es clock, w.heap[r]? = some (.map es clock) ∧ Stamped es clock ∧ (∀ x ∈ es.toList, ∃ k, x.key = enc k) ∧
    (∀ k v, f k = some v ↔ ∃ x ∈ es.toList, x.key = enc k ∧ x.val = v)

def upd {κ : Type} {α : Type} [DecidableEq κ] (f : κ → Option α) (k : κ) (v : Option α) : κ → Option α := fun x => if x = k then v else f x
theorem upd_same {κ : Type} {α : Type} [DecidableEq κ] (f : κ → Option α) (k : κ) (v : Option α) : upd f k v k = v := by simp [upd]
theorem upd_ne {κ : Type} {α : Type} [DecidableEq κ] (f : κ → Option α) {k x : κ} (v : Option α) (h : x ≠ k) : upd f k v x = f x := by simp [upd, h]

section maps
variable {κ : Type} {d : TypeDesc} {enc : κ → Value} {w : World} {r : Nat} {f : κ → Option Value} {P : Program}

theorem MapG.lt (h : MapG enc w r f) : r < w.heap.size := by
  obtain ⟨_, _, hb, _⟩ := h; exact lt_of_heap hb
theorem MapG.kept {S : List Nat} {w' : World} (h : MapG enc w r f) (hf : Fr S w w') (hs : r ∉ S) : MapG enc w' r f := by
  obtain ⟨es, clock, hb, rest⟩ := h; exact ⟨es, clock, hf.heap hb hs, rest⟩
theorem MapG.notCells (h : MapG enc w r f) {b : Nat} {cs : Array Value} {T : TypeId} {z : Nat × Nat} (hb : w.heap[b]? = some (.cells cs T z)) : b ≠ r := by
  rintro rfl; obtain ⟨es, clock, hr, _⟩ := h; rw [hb] at hr; cases hr
theorem MapG.made (w : World) : MapG enc (w.alloc (.map #[] 0)) w.heap.size (fun _ => none) :=
  ⟨#[], 0, blk_new w _, stamped_empty 0, by simp, by simp⟩
theorem MapG.congr {g : κ → Option Value} (h : MapG enc w r f) (e : ∀ k, f k = g k) : MapG enc w r g := by
  have : f = g := funext e
  exact this ▸ h

theorem MapG.uniq {es : Array MapEntry} {clock : Nat} (hs : Stamped es clock) {x y : MapEntry} (hx : x ∈ es.toList) (hy : y ∈ es.toList) (he : x.key = y.key) : x = y := by
  have hn := ((stamped_iff es clock).1 hs).2.2
  clear hs
  generalize es.toList = l at *
  induction hn with
  | nil => simp at hx
  | cons h _ ih =>
    rcases List.mem_cons.1 hx with rfl | hx' <;> rcases List.mem_cons.1 hy with rfl | hy'
    · rfl
    · exact absurd he (h _ hy')
    · exact absurd he.symm (h _ hx')
    · exact ih hx' hy'

theorem MapG.lookup_some (K : KE d enc) {t kt et : TypeId} (ht : P.underlying t = some (.map kt et)) (hk : P.underlying kt = some d) (h : MapG enc w r f) {k : κ} {v : Value} (hv : f k = some v) (c : Bool) :
    (Instr.lookup t (.map (some r)) (enc k) c).run P w = .ok (if c then .tuple #[v, .bool true] else v) w := by
  obtain ⟨es, clock, hb, hs, hks, hf⟩ := h
  obtain ⟨x, hx, hxk, hxv⟩ := (hf k v).1 hv
  have hks' : ∀ x ∈ es.toList, IsKey d x.key := fun x hx => by obtain ⟨k', e⟩ := hks x hx; rw [e]; exact K.key k'
  rcases findNow_spec (K.key k) es.toList 0 hks' with ⟨_, h2⟩ | ⟨j, e, h1, h2, h3⟩
  · exact absurd hxk (h2 x hx)
  · have : e = x := MapG.uniq hs (List.mem_of_getElem? h2) hx (h3.trans hxk.symm)
    subst this; subst hxv
    cases c <;> simp [Instr.lookup, run_underlying ht, MapKept.run_getObj_map hb, run_checkKey hk (K.key k), run_findKey hk h1, Result.andThen]

theorem MapG.lookup_none (K : KE d enc) {t kt et : TypeId} (ht : P.underlying t = some (.map kt et)) (hk : P.underlying kt = some d) (h : MapG enc w r f) {k : κ} (hv : f k = none) {z : Value} (hz : (zeroValue et).run P w = .ok z w) (c : Bool) :
    (Instr.lookup t (.map (some r)) (enc k) c).run P w = .ok (if c then .tuple #[z, .bool false] else z) w := by
  obtain ⟨es, clock, hb, hs, hks, hf⟩ := h
  have hks' : ∀ x ∈ es.toList, IsKey d x.key := fun x hx => by obtain ⟨k', e⟩ := hks x hx; rw [e]; exact K.key k'
  rcases findNow_spec (K.key k) es.toList 0 hks' with ⟨h1, _⟩ | ⟨j, e, h1, h2, h3⟩
  · cases c <;> simp [Instr.lookup, run_underlying ht, MapKept.run_getObj_map hb, run_checkKey hk (K.key k), run_findKey hk h1, hz, Result.andThen]
  · have : f k = some e.val := (hf k _).2 ⟨e, List.mem_of_getElem? h2, h3, rfl⟩
    rw [hv] at this; cases this

theorem MapG.update [DecidableEq κ] (K : KE d enc) {t kt et : TypeId} (ht : P.underlying t = some (.map kt et)) (hk : P.underlying kt = some d) (h : MapG enc w r f) (k : κ) (v : Value) :
    ∃ w2, (Instr.mapUpdate t (.map (some r)) (enc k) v).run P w = .ok () w2 ∧ MapG enc w2 r (upd f k (some v)) ∧ Fr [r] w w2 ∧ w2.heap.size = w.heap.size := by
  obtain ⟨es, clock, hb, hs, hks, hf⟩ := h
  have hks' : ∀ x ∈ es.toList, IsKey d x.key := fun x hx => by obtain ⟨k', e⟩ := hks x hx; rw [e]; exact K.key k'
  rcases findNow_spec (K.key k) es.toList 0 hks' with ⟨h1, h2⟩ | ⟨j, e, h1, h2, h3⟩
  · refine ⟨_, by simp [Instr.mapUpdate, run_underlying ht, MapKept.run_getObj_map hb, run_checkKey hk (K.key k), run_findKey hk h1, run_setObj_map _ hb, Result.andThen]; rfl, ?_, Fr.put _ _ _, by simp⟩
    refine ⟨_, _, (heap_set hb).1, stamped_push hs h2, ?_, ?_⟩
    · intro x hx
      simp only [Array.toList_push, List.mem_append, List.mem_singleton] at hx
      rcases hx with hx | rfl
      · exact hks x hx
      · exact ⟨k, rfl⟩
    · intro k' v'
      by_cases hkk : k' = k
      · subst hkk
        simp only [upd_same, Array.toList_push, List.mem_append, List.mem_singleton]
        constructor
        · intro e; cases e; exact ⟨_, .inr rfl, rfl, rfl⟩
        · rintro ⟨x, hx | rfl, hxk, hxv⟩
          · exact absurd hxk (h2 x hx)
          · rw [← hxv]
      · rw [upd_ne _ _ hkk, hf]
        simp only [Array.toList_push, List.mem_append, List.mem_singleton]
        constructor
        · rintro ⟨x, hx, e1, e2⟩; exact ⟨x, .inl hx, e1, e2⟩
        · rintro ⟨x, hx | rfl, e1, e2⟩
          · exact ⟨x, hx, e1, e2⟩
          · exact absurd (K.inj _ _ e1).symm hkk
  · have hj : es[j]? = some e := by simpa using h2
    have hjl : j < es.size := (Array.getElem?_eq_some_iff.1 hj).1
    refine ⟨_, by simp [Instr.mapUpdate, run_underlying ht, MapKept.run_getObj_map hb, run_checkKey hk (K.key k), run_findKey hk h1, hj, h3, run_keyThatStays (K.key k), run_setObj_map _ hb, Result.andThen]; rfl, ?_, Fr.put _ _ _, by simp⟩
    have hkey : ∀ e', es[j]? = some e' → ({ e' with key := enc k, val := v } : MapEntry).key = e'.key := fun e' he' => by rw [hj] at he'; cases he'; exact h3.symm
    have hmem : ∀ x, x ∈ (es.modify j fun e => { e with key := enc k, val := v }).toList ↔ (x = { e with key := enc k, val := v } ∨ (x ∈ es.toList ∧ x.key ≠ enc k)) := by
      intro x
      simp only [List.mem_iff_getElem?, Array.getElem?_toList, Array.getElem?_modify]
      constructor
      · rintro ⟨i, hi⟩
        by_cases hij : j = i
        · subst hij
          rw [if_pos rfl, hj] at hi
          simp only [Option.map_some, Option.some.injEq] at hi
          exact .inl hi.symm
        · rw [if_neg hij] at hi
          refine .inr ⟨⟨i, hi⟩, fun hxk => ?_⟩
          have := MapG.uniq hs (List.mem_of_getElem? (by simpa using hi)) (List.mem_of_getElem? h2) (hxk.trans h3.symm)
          subst this
          have hn := ((stamped_iff es clock).1 hs).2.2
          rw [List.pairwise_iff_getElem] at hn
          obtain ⟨hil, hie⟩ := Array.getElem?_eq_some_iff.1 hi
          obtain ⟨_, hje⟩ := Array.getElem?_eq_some_iff.1 hj
          rcases Nat.lt_or_gt_of_ne hij with hlt | hlt
          · exact hn j i (by simpa using hjl) (by simpa using hil) hlt (by simp [hie, hje])
          · exact hn i j (by simpa using hil) (by simpa using hjl) hlt (by simp [hie, hje])
      · rintro (rfl | ⟨⟨i, hi⟩, hxk⟩)
        · exact ⟨j, by rw [if_pos rfl, hj]; rfl⟩
        · refine ⟨i, ?_⟩
          rw [if_neg ?_]
          · exact hi
          · rintro rfl; rw [hj] at hi; cases hi; exact hxk h3
    refine ⟨_, _, (heap_set hb).1, stamped_modify hs _ _ (fun _ _ => rfl) (fun e' _ he' => hkey e' he'), ?_, ?_⟩
    · intro x hx
      rcases (hmem x).1 hx with rfl | ⟨hx', _⟩
      · exact ⟨k, rfl⟩
      · exact hks x hx'
    · intro k' v'
      by_cases hkk : k' = k
      · subst hkk
        rw [upd_same]
        constructor
        · intro ev; cases ev; exact ⟨_, (hmem _).2 (.inl rfl), rfl, rfl⟩
        · rintro ⟨x, hx, e1, e2⟩
          rcases (hmem x).1 hx with rfl | ⟨_, hne⟩
          · rw [← e2]
          · exact absurd e1 hne
      · rw [upd_ne _ _ hkk, hf]
        constructor
        · rintro ⟨x, hx, e1, e2⟩
          exact ⟨x, (hmem x).2 (.inr ⟨hx, fun e => hkk (K.inj _ _ (e1.symm.trans e))⟩), e1, e2⟩
        · rintro ⟨x, hx, e1, e2⟩
          rcases (hmem x).1 hx with rfl | ⟨hx', _⟩
          · exact absurd (K.inj _ _ e1).symm hkk
          · exact ⟨x, hx', e1, e2⟩

theorem MapG.delete [DecidableEq κ] (K : KE d enc) {t kt et ty : TypeId} (ht : P.underlying t = some (.map kt et)) (hk : P.underlying kt = some d) (h : MapG enc w r f) (k : κ) :
    ∃ w2, (Builtin.delete_ #[t, kt] ty #[.map (some r), enc k]).run P w = .ok (.tuple #[]) w2 ∧ MapG enc w2 r (upd f k none) ∧ Fr [r] w w2 ∧ w2.heap.size = w.heap.size := by
  obtain ⟨es, clock, hb, hs, hks, hf⟩ := h
  have hks' : ∀ x ∈ es.toList, IsKey d x.key := fun x hx => by obtain ⟨k', e⟩ := hks x hx; rw [e]; exact K.key k'
  rcases findNow_spec (K.key k) es.toList 0 hks' with ⟨h1, h2⟩ | ⟨j, e, h1, h2, h3⟩
  · refine ⟨_, by simp [Builtin.delete_, run_underlying ht, MapKept.run_getObj_map hb, run_checkKey hk (K.key k), run_findKey hk h1, run_setObj_map _ hb, Result.andThen]; rfl, ?_, Fr.put _ _ _, by simp⟩
    refine ⟨_, _, (heap_set hb).1, hs, hks, fun k' v' => ?_⟩
    by_cases hkk : k' = k
    · subst hkk
      rw [upd_same]
      constructor
      · intro e; cases e
      · rintro ⟨x, hx, e1, _⟩; exact absurd e1 (h2 x hx)
    · rw [upd_ne _ _ hkk, hf]
  · have hj : es[j]? = some e := by simpa using h2
    have hjl : j < es.size := (Array.getElem?_eq_some_iff.1 hj).1
    have hmem : ∀ x, x ∈ (es.eraseIdxIfInBounds j).toList ↔ (x ∈ es.toList ∧ x.key ≠ enc k) := by
      intro x
      have hn := ((stamped_iff es clock).1 hs).2.2
      simp only [Array.eraseIdxIfInBounds, hjl, dif_pos, Array.toList_eraseIdx]
      rw [List.mem_eraseIdx_iff_getElem?]
      constructor
      · rintro ⟨i, hij, hi⟩
        refine ⟨List.mem_of_getElem? hi, fun hxk => ?_⟩
        have := MapG.uniq hs (List.mem_of_getElem? hi) (List.mem_of_getElem? h2) (hxk.trans h3.symm)
        subst this
        rw [List.pairwise_iff_getElem] at hn
        obtain ⟨hil, hie⟩ := List.getElem?_eq_some_iff.1 hi
        obtain ⟨hjl', hje⟩ := List.getElem?_eq_some_iff.1 h2
        rcases Nat.lt_or_gt_of_ne hij with hlt | hlt
        · exact hn i j hil hjl' hlt (by rw [hie, hje])
        · exact hn j i hjl' hil hlt (by rw [hie, hje])
      · rintro ⟨hx, hxk⟩
        obtain ⟨i, hi⟩ := List.mem_iff_getElem?.1 hx
        refine ⟨i, ?_, hi⟩
        rintro rfl; rw [h2] at hi; cases hi; exact hxk h3
    refine ⟨_, by simp [Builtin.delete_, run_underlying ht, MapKept.run_getObj_map hb, run_checkKey hk (K.key k), run_findKey hk h1, run_setObj_map _ hb, Result.andThen]; rfl, ?_, Fr.put _ _ _, by simp⟩
    refine ⟨_, _, (heap_set hb).1, stamped_erase hs _, fun x hx => hks x ((hmem x).1 hx).1, fun k' v' => ?_⟩
    by_cases hkk : k' = k
    · subst hkk
      rw [upd_same]
      constructor
      · intro e; cases e
      · rintro ⟨x, hx, e1, _⟩; exact absurd e1 ((hmem x).1 hx).2
    · rw [upd_ne _ _ hkk, hf]
      constructor
      · rintro ⟨x, hx, e1, e2⟩; exact ⟨x, (hmem x).2 ⟨hx, fun e => hkk (K.inj _ _ (e1.symm.trans e))⟩, e1, e2⟩
      · rintro ⟨x, hx, e1, e2⟩; exact ⟨x, ((hmem x).1 hx).1, e1, e2⟩

theorem MapG.clear {t kt et ty : TypeId} (ht : P.underlying t = some (.map kt et)) (h : MapG enc w r f) :
    ∃ w2, (Builtin.clear_ #[t] ty #[.map (some r)]).run P w = .ok (.tuple #[]) w2 ∧ MapG enc w2 r (fun _ => none) ∧ Fr [r] w w2 ∧ w2.heap.size = w.heap.size := by
  obtain ⟨es, clock, hb, hs, hks, hf⟩ := h
  refine ⟨_, by simp [Builtin.clear_, run_underlying ht, MapKept.run_getObj_map hb, run_setObj_map _ hb, Result.andThen]; rfl, ?_, Fr.put _ _ _, by simp⟩
  exact ⟨_, _, (heap_set hb).1, stamped_empty _, by simp, by simp⟩

/-- Block 'it' goes through the map in block r, whose entries are es; those born in 'seen' have come. -/
def IterG (w : World) (it r : Nat) (es : Array MapEntry) (clock : Nat) (seen : Array Nat) : Prop :=
  ∃ since c0, w.heap[it]? = some (.mapIter (some r) since seen c0) ∧ w.heap[r]? = some (.map es clock) ∧ Stamped es clock ∧ (∀ x ∈ es.toList, x.born < since) ∧ since ≤ c0 ∧ since ≤ clock

theorem IterG.start {t kt et : TypeId} (ht : P.underlying t = some (.map kt et)) {es : Array MapEntry} {clock : Nat} (hb : w.heap[r]? = some (.map es clock)) (hs : Stamped es clock) :
    (Instr.range t (.map (some r))).run P w = .ok (.pointer (some ⟨w.heap.size, 0, none⟩)) (w.alloc (.mapIter (some r) clock #[] clock)) ∧
    IterG (w.alloc (.mapIter (some r) clock #[] clock)) w.heap.size r es clock #[] := by
  refine ⟨by simp [Instr.range, run_underlying ht, MapKept.run_getObj_map hb, Result.andThen], clock, clock, blk_new w _, blk_alloc hb _, hs, hs.1, Nat.le_refl _, Nat.le_refl _⟩

theorem IterG.step {es : Array MapEntry} {clock : Nat} {seen : Array Nat} {it : Nat} (h : IterG w it r es clock seen) :
    ((∀ ty, (Instr.next (.pointer (some ⟨it, 0, none⟩)) false ty).run P w = .ok (.tuple #[.bool false]) w) ∧ ∀ x ∈ es.toList, x.born ∈ seen.toList) ∨
    ∃ e ∈ es.toList, e.born ∉ seen.toList ∧ ∃ w1, (∀ ty, (Instr.next (.pointer (some ⟨it, 0, none⟩)) false ty).run P w = .ok (.tuple #[.bool true, e.key, e.val]) w1) ∧
      (Instr.entry (.pointer (some ⟨it, 0, none⟩))).run P w1 = .ok (.tuple #[e.key, e.val]) w1 ∧
      IterG w1 it r es clock (seen.push e.born) ∧ Fr [it] w w1 ∧ w1.heap.size = w.heap.size ∧ (leftOf es (seen.push e.born)).size < (leftOf es seen).size := by
  obtain ⟨since, c0, hit, hb, hs, hold, hsc, hscl⟩ := h
  have hne : it ≠ r := by rintro rfl; rw [hit] at hb; cases hb
  have key := fun ty => run_next_at (P := P) w ty it r since c0 seen es clock hit hb hold hsc
  by_cases h0 : (leftOf es seen).size = 0
  · left
    refine ⟨fun ty => ?_, fun x hx => ?_⟩
    · rcases key ty with ⟨_, h⟩ | ⟨e, he, _⟩
      · exact h
      · have : (leftOf es seen) = #[] := Array.eq_empty_of_size_eq_zero h0
        rw [this] at he; simp at he
    · have : (leftOf es seen) = #[] := Array.eq_empty_of_size_eq_zero h0
      unfold leftOf at this
      rw [Array.filter_eq_empty_iff] at this
      have := this x (by simpa using hx)
      simpa using this
  · right
    rcases key 0 with ⟨h, _⟩ | ⟨e, he, w1, hw1, hrun⟩
    · exact absurd h h0
    · have he' : e ∈ es.toList ∧ e.born ∉ seen.toList := by
        unfold leftOf at he
        simp only [Array.toList_filter, List.mem_filter] at he
        exact ⟨he.1, by simpa using he.2⟩
      have hbb : w1.heap = w.heap := by rcases hw1 with rfl | rfl <;> rfl
      have hltit := lt_of_heap hit
      have hit1 : ({ w1 with heap := w1.heap.setIfInBounds it (.mapIter (some r) since (seen.push e.born) clock) } : World).heap[it]? = some (.mapIter (some r) since (seen.push e.born) clock) := by
        simp [hbb, hltit]
      have hb1 : ({ w1 with heap := w1.heap.setIfInBounds it (.mapIter (some r) since (seen.push e.born) clock) } : World).heap[r]? = some (.map es clock) := by
        simp [hbb, hne, hb]
      refine ⟨e, he'.1, he'.2, _, fun ty => hrun, ?_, ⟨since, clock, hit1, hb1, hs, hold, hscl, hscl⟩, ?_, by simp [ChangeMaps.setBlock, hbb], ?_⟩
      · exact run_entry_at _ it r since seen es clock e hit1 hb1 he'.1 hs.2.1
      · refine ⟨?_, ?_, ?_, by simp [ChangeMaps.setBlock, hbb], fun k hk hs => ?_⟩
        · rcases hw1 with rfl | rfl <;> rfl
        · rcases hw1 with rfl | rfl <;> rfl
        · rcases hw1 with rfl | rfl <;> rfl
        · have hne' : ¬ it = k := fun h => hs (by simp [h])
          simp [ChangeMaps.setBlock, hbb, hne']
      · unfold leftOf at he ⊢
        have e1 : es.filter (fun x => !(seen.push e.born).contains x.born) = (es.filter (fun x => !seen.contains x.born)).filter (fun x => !(x.born == e.born)) := by
          rw [Array.filter_filter]
          congr 1
          funext x
          simp only [Array.contains_push]
          cases h1 : (x.born == e.born) <;> cases h2 : seen.contains x.born <;> simp_all <;> omega
        rw [e1]
        exact Array.size_filter_lt_size_iff_exists.2 ⟨e, by simpa using he, by simp⟩
end maps
end Go.Proofs.Ytgockpichhgijaa

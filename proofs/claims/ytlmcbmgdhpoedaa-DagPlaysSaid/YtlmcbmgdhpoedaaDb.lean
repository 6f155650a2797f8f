/- How a graph lies in memory, and what keeps it. -/
import Derived.Test.YtlmcbmgdhpoedaaVw
import Derived.Test.YtlmcbmgdhpoedaaMp
import Derived.Test.YtlmcbmgdhpoedaaDa
namespace Go.Proofs.Ytlmcbmgdhpoedaa.Db
open Go Go.RowKit Go.Proofs.Ytlmcbmgdhpoedaa.Aa Go.Proofs.Ytlmcbmgdhpoedaa.Vw Go.Proofs.Ytlmcbmgdhpoedaa.Mp Go.Proofs.Ytlmcbmgdhpoedaa.Da
set_option linter.unusedVariables false
set_option linter.unusedSimpArgs false

/-- A value that reads as a list of ids. -/
def RowV (w : World) (v : Value) (xs : List Nm) : Prop := ∃ A c, v = .slice A xs.length c ∧ El.str.Row w A c xs
/-- The blocks of S are maps. -/
def MapsAt (w : World) (S : Nat → Prop) : Prop := ∀ k, S k → ∃ es c, w.heap[k]? = some (.map es c)
theorem mapsAt_no (w : World) : MapsAt w no := fun k h => h.elim

section
variable {w w' : World} {S : Nat → Prop}
theorem cell_keep (hS : MapsAt w S) (h : Ch S w w') {a : Addr} {v : Value} (hc : w.cell? a = some v) : w'.cell? a = some v := by
  have hlt := World.block_lt_of_cell? w a hc
  have hn : ¬ S a.block := by
    intro hs
    obtain ⟨es, c, hb⟩ := hS _ hs
    unfold World.cell? at hc
    rw [hb] at hc
    simp at hc
  unfold World.cell? at hc ⊢
  rw [h.block _ hlt hn]
  exact hc
theorem row_keep (hS : MapsAt w S) (h : Ch S w w') {A : Option Addr} {c : Nat} {xs : List Nm} (hr : El.str.Row w A c xs) : El.str.Row w' A c xs :=
  ⟨hr.le, hr.max, hr.none_, fun i x hx => let ⟨ad, cs, h1, h2, h3⟩ := hr.get i x hx; ⟨ad, cs, h1, h2, fun j c hj => cell_keep hS h (h3 j c hj)⟩⟩
theorem RowV.keep {v : Value} {xs : List Nm} (hr : RowV w v xs) (hS : MapsAt w S) (h : Ch S w w') : RowV w' v xs := by
  obtain ⟨A, c, rfl, hr⟩ := hr; exact ⟨A, c, rfl, row_keep hS h hr⟩
theorem RowV.ch {v : Value} {xs : List Nm} (hr : RowV w v xs) (h : Ch no w w') : RowV w' v xs := hr.keep (mapsAt_no w) h
theorem RowV.nil (w : World) : RowV w (.slice none 0 0) [] := ⟨none, 0, rfl, El.Row.nil _ _⟩
theorem RowV.of_own {B : Nat} {e : TypeId} {v : Value} {xs : List Nm} (h : w.ownsRow B e 1 v xs.length (xs.map Value.string)) : RowV w v xs := El.Row.of_own h

/-- Entries, one by one: the keys are alike, the values read as the lists. -/
inductive Ent (w : World) : List (Nm × Value) → List (Nm × List Nm) → Prop where
  | nil : Ent w [] []
  | cons {p : Nm × Value} {q : Nm × List Nm} {m : List (Nm × Value)} {l : List (Nm × List Nm)} : p.1 = q.1 ∧ RowV w p.2 q.2 → Ent w m l → Ent w (p :: m) (q :: l)
variable {m : List (Nm × Value)} {l : List (Nm × List Nm)}
theorem Ent.keep (h : Ent w m l) (hS : MapsAt w S) (hc : Ch S w w') : Ent w' m l := by
  induction h with
  | nil => exact .nil
  | cons h1 _ ih => exact .cons ⟨h1.1, h1.2.keep hS hc⟩ ih
theorem Ent.keys (h : Ent w m l) : m.map (·.1) = l.map (·.1) := by
  induction h with
  | nil => rfl
  | cons h1 _ ih => simp only [List.map_cons, h1.1, ih]
theorem Ent.len (h : Ent w m l) : m.length = l.length := by
  have := congrArg List.length h.keys
  simpa using this
theorem Ent.get (h : Ent w m l) (x : Nm) : (mget m x = none ∧ Da.get l x = none) ∨ ∃ v ps, mget m x = some v ∧ Da.get l x = some ps ∧ RowV w v ps := by
  induction h with
  | nil => left; exact ⟨rfl, rfl⟩
  | @cons p q m l h1 _ ih =>
    rw [mget_cons]
    by_cases hx : p.1 = x
    · right
      refine ⟨p.2, q.2, by rw [if_pos hx], ?_, h1.2⟩
      unfold Da.get
      rw [List.find?_cons, show decide (q.1 = x) = true by rw [decide_eq_true_eq, ← h1.1]; exact hx]
      rfl
    · rw [if_neg hx]
      have e : Da.get (q :: l) x = Da.get l x := by
        unfold Da.get
        rw [List.find?_cons, show decide (q.1 = x) = false by rw [decide_eq_false_iff_not, ← h1.1]; exact hx]
      rw [e]
      exact ih
theorem Ent.del (h : Ent w m l) (x : Nm) : Ent w (mdel m x) (l.filter (fun p => decide (p.1 ≠ x))) := by
  unfold mdel
  induction h with
  | nil => exact .nil
  | @cons p q m l h1 _ ih =>
    rw [List.filter_cons, List.filter_cons, h1.1]
    by_cases hx : q.1 = x
    · simpa [hx] using ih
    · have : decide (q.1 ≠ x) = true := by simpa using hx
      rw [this]
      exact .cons h1 ih
theorem Ent.snoc (h : Ent w m l) {x : Nm} {v : Value} {ps : List Nm} (hv : RowV w v ps) : Ent w (m ++ [(x, v)]) (l ++ [(x, ps)]) := by
  induction h with
  | nil => exact .cons ⟨rfl, hv⟩ .nil
  | cons h1 _ ih => exact .cons h1 ih
theorem mput_new {m : List (Nm × Value)} {x : Nm} {v : Value} (h : x ∉ m.map (·.1)) : mput m x v = m ++ [(x, v)] := by
  have hn : mget m x = none := mget_none.2 (fun p hp e => h (List.mem_map.2 ⟨p, hp, e⟩))
  unfold mput
  rw [hn]; rfl
end

/-- Who is in, with parents; with levels. -/
def insP (d : Gr) : List (Nm × List Nm) := d.ins.map fun e => (e.1, e.2.1)
def insL (d : Gr) : List (Nm × Value) := d.ins.map fun e => (e.1, Value.int .i64 (e.2.2 : Nat))
theorem insP_keys (d : Gr) : (insP d).map (·.1) = d.ids := by unfold insP Gr.ids; rw [List.map_map]; rfl
theorem insL_keys (d : Gr) : (insL d).map (·.1) = d.ids := by unfold insL Gr.ids; rw [List.map_map]; rfl
theorem get_insP (d : Gr) (x : Nm) : Da.get (insP d) x = (Da.get d.ins x).map (·.1) := by
  unfold Da.get insP
  rw [List.find?_map]
  rw [Option.map_map, Option.map_map]
  rfl
theorem get_insL (d : Gr) (x : Nm) : mget (insL d) x = (Da.get d.ins x).map (fun e => Value.int .i64 (e.2 : Nat)) := by
  unfold mget Da.get insL
  rw [List.find?_map]
  rw [Option.map_map, Option.map_map]
  rfl

/-- What lies in the one world lies in the other one. -/
def Sub (r w : World) : Prop := ∀ a v, r.cell? a = some v → w.cell? a = some v
theorem row_sub {r w : World} (h : Sub r w) {A : Option Addr} {c : Nat} {xs : List Nm} (hr : El.str.Row r A c xs) : El.str.Row w A c xs :=
  ⟨hr.le, hr.max, hr.none_, fun i x hx => let ⟨ad, cs, h1, h2, h3⟩ := hr.get i x hx; ⟨ad, cs, h1, h2, fun j c hj => h _ _ (h3 j c hj)⟩⟩
theorem RowV.sub {r w : World} {v : Value} {xs : List Nm} (hr : RowV r v xs) (h : Sub r w) : RowV w v xs := by
  obtain ⟨A, c, rfl, hr⟩ := hr; exact ⟨A, c, rfl, row_sub h hr⟩
theorem Ent.sub {r w : World} {m : List (Nm × Value)} {l : List (Nm × List Nm)} (h : Ent r m l) (hs : Sub r w) : Ent w m l := by
  induction h with
  | nil => exact .nil
  | cons h1 _ ih => exact .cons ⟨h1.1, h1.2.sub hs⟩ ih
/-- A graph's three maps lie at B, B + 1, B + 2, its struct at B + 3; its lists of parents lay in the world r already. -/
structure DagR (r w : World) (B : Nat) (d : Gr) : Prop where
  box : w.heap[B + 3]? = some (.cells #[.map (some B), .map (some (B + 1)), .map (some (B + 2))] 52 (0, 0))
  inm : ∃ m, MapV Value.string w B m ∧ Ent r m (insP d)
  wtm : ∃ m, MapV Value.string w (B + 1) m ∧ Ent r m d.waits
  lvm : MapV Value.string w (B + 2) (insL d)
  sub : Sub r w
abbrev DagV (w : World) (B : Nat) (d : Gr) : Prop := DagR w w B d
theorem DagR.to_v {r w : World} {B : Nat} {d : Gr} (h : DagR r w B d) : DagV w B d := by
  obtain ⟨hb, ⟨m, h1, h2⟩, ⟨m2, h3, h4⟩, h5, h6⟩ := h
  exact ⟨hb, ⟨m, h1, h2.sub h6⟩, ⟨m2, h3, h4.sub h6⟩, h5, fun _ _ h => h⟩
theorem sub_ch {r w w' : World} {S : Nat → Prop} (h : Sub r w) (hc : Ch S w w') (hS : ∀ k, S k → r.heap.size ≤ k) : Sub r w' := by
  intro a v hv
  have hlt := World.block_lt_of_cell? r a hv
  have h1 := h a v hv
  have hlt2 := World.block_lt_of_cell? w a h1
  unfold World.cell? at h1 ⊢
  rw [hc.block _ hlt2 (fun hs => by have := hS _ hs; omega)]
  exact h1
theorem sub_maps {r w w' : World} {S : Nat → Prop} (h : Sub r w) (hS : MapsAt w S) (hc : Ch S w w') : Sub r w' := fun a v hv => cell_keep hS hc (h a v hv)
/-- What turns above r, and none of its blocks, keeps it. -/
theorem DagR.above {r w w' : World} {S : Nat → Prop} {B : Nat} {d : Gr} (h : DagR r w B d) (hc : Ch S w w') (hS : ∀ k, S k → r.heap.size ≤ k) (hB : B + 3 < r.heap.size) : DagR r w' B d := by
  obtain ⟨hb, ⟨m, h1, h2⟩, ⟨m2, h3, h4⟩, h5, h6⟩ := h
  have hn : ∀ k, k ≤ B + 3 → ¬ S k := fun k hk hs => by have := hS k hs; omega
  exact ⟨hc.blk hb (hn _ (by omega)), ⟨m, h1.ch hc (hn _ (by omega)), h2⟩, ⟨m2, h3.ch hc (hn _ (by omega)), h4⟩, h5.ch hc (hn _ (by omega)), sub_ch h6 hc hS⟩
/-- Its maps' blocks. -/
def three (B : Nat) : Nat → Prop := fun k => k = B ∨ k = B + 1 ∨ k = B + 2

section
variable {w w' : World} {S : Nat → Prop} {B : Nat} {d : Gr}
theorem mapV_blk {w : World} {b : Nat} {m : List (Nm × Value)} (h : MapV Value.string w b m) : ∃ es c, w.heap[b]? = some (.map es c) := by
  obtain ⟨⟨es, c, hb, _⟩, _⟩ := h; exact ⟨es, c, hb⟩
theorem DagR.maps {r : World} (h : DagR r w B d) : MapsAt w (three B) := by
  obtain ⟨_, ⟨m, h1, _⟩, ⟨m2, h2, _⟩, h3, _⟩ := h
  rintro k (rfl | rfl | rfl)
  · exact mapV_blk h1
  · exact mapV_blk h2
  · exact mapV_blk h3
theorem DagR.lt {r : World} (h : DagR r w B d) : B + 3 < w.heap.size := blk_lt' h.box
theorem DagV.keep (h : DagV w B d) (hS : MapsAt w S) (hc : Ch S w w') (h0 : ¬ S B) (h1 : ¬ S (B + 1)) (h2 : ¬ S (B + 2)) : DagV w' B d := by
  have h3 : ¬ S (B + 3) := by
    intro hs
    obtain ⟨es, c, hb⟩ := hS _ hs
    rw [h.box] at hb
    cases hb
  obtain ⟨m, hm, he⟩ := h.inm
  obtain ⟨m2, hm2, he2⟩ := h.wtm
  exact ⟨hc.blk h.box h3, ⟨m, hm.ch hc h0, he.keep hS hc⟩, ⟨m2, hm2.ch hc h1, he2.keep hS hc⟩, h.lvm.ch hc h2, fun _ _ h => h⟩
theorem DagV.ch (h : DagV w B d) (hc : Ch no w w') : DagV w' B d := h.keep (mapsAt_no w) hc (no_not _) (no_not _) (no_not _)

/-- What is stored where. -/
theorem DagR.cell0 {r : World} (h : DagR r w B d) : w.cell? ⟨B + 3, 0, none⟩ = some (.map (some B)) := (bCell h.box 0).trans rfl
theorem DagR.cell1 {r : World} (h : DagR r w B d) : w.cell? ⟨B + 3, 1, none⟩ = some (.map (some (B + 1))) := (bCell h.box 1).trans rfl
theorem DagR.cell2 {r : World} (h : DagR r w B d) : w.cell? ⟨B + 3, 2, none⟩ = some (.map (some (B + 2))) := (bCell h.box 2).trans rfl

/-- What the three maps tell. -/
theorem DagR.look_in {r : World} {P : Program} {t kt et : TypeId} (ht : P.underlying t = some (.map kt et)) (hk : P.underlying kt = some .string) (hz : ∀ w, (zeroValue et).run P w = .ok (.slice none 0 0) w) (h : DagR r w B d) (x : Nm) (ok : Bool) :
    ∃ v, (Instr.lookup t (.map (some B)) (.string x) ok).run P w = .ok (if ok then .tuple #[v, .bool (d.has x)] else v) w ∧ RowV r v (d.par x) := by
  obtain ⟨m, hm, he⟩ := h.inm
  have hr := run_get strKey ht hk hm x ok (hz w)
  rcases he.get x with ⟨h1, h2⟩ | ⟨v, ps, h1, h2, h3⟩
  · rw [get_insP, Option.map_eq_none_iff] at h2
    refine ⟨_, by rw [hr, h1]; congr 1; have : d.has x = false := by (unfold Gr.has Gr.ids; rw [decide_eq_false_iff_not]; exact get_none.1 h2)
                  rw [this]; rfl, ?_⟩
    unfold Gr.par
    rw [h2]
    exact RowV.nil r
  · rw [get_insP, Option.map_eq_some_iff] at h2
    obtain ⟨e, h2, rfl⟩ := h2
    refine ⟨v, by rw [hr, h1]; congr 1; have : d.has x = true := by (unfold Gr.has Gr.ids; rw [decide_eq_true_eq]; exact List.mem_map.2 ⟨_, get_some_mem h2, rfl⟩)
                  rw [this]; rfl, ?_⟩
    unfold Gr.par
    rw [h2]
    exact h3
theorem DagR.look_wt {r : World} {P : Program} {t kt et : TypeId} (ht : P.underlying t = some (.map kt et)) (hk : P.underlying kt = some .string) (hz : ∀ w, (zeroValue et).run P w = .ok (.slice none 0 0) w) (h : DagR r w B d) (x : Nm) (ok : Bool) :
    ∃ v, (Instr.lookup t (.map (some (B + 1))) (.string x) ok).run P w = .ok (if ok then .tuple #[v, .bool (d.hasW x)] else v) w ∧ RowV r v (d.wpar x) := by
  obtain ⟨m, hm, he⟩ := h.wtm
  have hr := run_get strKey ht hk hm x ok (hz w)
  rcases he.get x with ⟨h1, h2⟩ | ⟨v, ps, h1, h2, h3⟩
  · refine ⟨_, by rw [hr, h1]; congr 1; have : d.hasW x = false := by (unfold Gr.hasW Gr.wids; rw [decide_eq_false_iff_not]; exact get_none.1 h2)
                  rw [this]; rfl, ?_⟩
    unfold Gr.wpar
    rw [h2]
    exact RowV.nil r
  · refine ⟨v, by rw [hr, h1]; congr 1; have : d.hasW x = true := by (unfold Gr.hasW Gr.wids; rw [decide_eq_true_eq]; exact List.mem_map.2 ⟨_, get_some_mem h2, rfl⟩)
                  rw [this]; rfl, ?_⟩
    unfold Gr.wpar
    rw [h2]
    exact h3
theorem DagR.look_lv {r : World} {P : Program} {t kt et : TypeId} (ht : P.underlying t = some (.map kt et)) (hk : P.underlying kt = some .string) (hz : ∀ w, (zeroValue et).run P w = .ok (.int .i64 0) w) (h : DagR r w B d) (x : Nm) :
    (Instr.lookup t (.map (some (B + 2))) (.string x) false).run P w = .ok (.int .i64 (d.lev x : Nat)) w := by
  have hr := run_get strKey ht hk h.lvm x false (hz w)
  rw [hr, get_insL]
  unfold Gr.lev
  cases Da.get d.ins x <;> rfl
end
end Go.Proofs.Ytlmcbmgdhpoedaa.Db

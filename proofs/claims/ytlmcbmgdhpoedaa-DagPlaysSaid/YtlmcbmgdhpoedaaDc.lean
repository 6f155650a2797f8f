/- A graph's small functions: walked. -/
import Derived.Test.YtlmcbmgdhpoedaaChecked
import Derived.WalkKit
import Derived.RegionTactic
import Derived.ChangeAlike
import Derived.Deep.RegionWith
import Derived.BigQuiet
import Derived.Deep.QuietTactic
import Derived.Lib.Hide
import Derived.Outline
import Derived.Deep.LoopGhost
import Derived.OwnWalk
import Derived.WalkSpells
import Derived.Lib.SliceRun
import Derived.Carry
import Derived.Test.YtlmcbmgdhpoedaaDb
namespace Go.Proofs.Ytlmcbmgdhpoedaa.Dc
open Go Go.RowKit Go.Proofs.Ytlmcbmgdhpoedaa.Aa Go.Proofs.Ytlmcbmgdhpoedaa.Vw Go.Proofs.Ytlmcbmgdhpoedaa.Mp Go.Proofs.Ytlmcbmgdhpoedaa.Da Go.Proofs.Ytlmcbmgdhpoedaa.Db
set_option linter.unusedVariables false
set_option linter.unusedSimpArgs false

/-- A graph, by its place. -/
abbrev ptr (B : Nat) : Value := .pointer (some ⟨B + 3, 0, none⟩)
theorem zeroIds (w : World) : (zeroValue 27).run Try.prog w = .ok (.slice none 0 0) w := by kernel_rfl
theorem zeroInt (w : World) : (zeroValue 3).run Try.prog w = .ok (.int .i64 0) w := by kernel_rfl
theorem new_of (w : World) : Calls Try.prog 14 #[] w fun e w' => e = .returned (ptr w.heap.size) ∧ DagV w' w.heap.size Gr.new ∧ Ch no w w' := by
  have hmm := @run_makeMap Try.prog
  go_enter Try.func14, Try.ntmps14
  go_wp2_with fail
  go_ret
  obtain ⟨W1, h1⟩ : ∃ W1, w.alloc (.map #[] 0) = W1 := ⟨_, rfl⟩
  obtain ⟨W2, h2⟩ : ∃ W2, W1.alloc (.map #[] 0) = W2 := ⟨_, rfl⟩
  obtain ⟨W3, h3⟩ : ∃ W3, W2.alloc (.map #[] 0) = W3 := ⟨_, rfl⟩
  have s1 : W1.heap.size = w.heap.size + 1 := by rw [← h1]; simp
  have s2 : W2.heap.size = w.heap.size + 2 := by rw [← h2]; simp [s1]
  have s3 : W3.heap.size = w.heap.size + 3 := by rw [← h3]; simp [s2]
  have m1 : MapV Value.string W1 w.heap.size ([] : List (Nm × Value)) := by rw [← h1]; exact MapV.new w
  have m2 : MapV Value.string W2 (w.heap.size + 1) ([] : List (Nm × Value)) := by rw [← h2, ← s1]; exact MapV.new W1
  have m3 : MapV Value.string W3 (w.heap.size + 2) ([] : List (Nm × Value)) := by rw [← h3, ← s2]; exact MapV.new W2
  have c1 : Ch no w W1 := by rw [← h1]; exact (Ch.refl _ _).alloc _
  have c2 : Ch no W1 W2 := by rw [← h2]; exact (Ch.refl _ _).alloc _
  have c3 : Ch no W2 W3 := by rw [← h3]; exact (Ch.refl _ _).alloc _
  simp only [h1, h2, h3, s1, s2, s3]
  have c4 := (Ch.refl no W3).alloc (.cells #[.map (some w.heap.size), .map (some (w.heap.size + 1)), .map (some (w.heap.size + 2))] 52)
  refine ⟨rfl, ⟨?_, ⟨[], ((m1.ch c2 (no_not _)).ch c3 (no_not _)).ch c4 (no_not _), .nil⟩, ⟨[], (m2.ch c3 (no_not _)).ch c4 (no_not _), .nil⟩, m3.ch c4 (no_not _), fun _ _ h => h⟩, ((c1.then_ c2).then_ c3).then_ c4⟩
  rw [← s3]
  exact bNew W3 _
theorem has_of (B : Nat) (d : Gr) (x : Nm) (w : World) (h : DagV w B d) :
    Calls Try.prog 24 #[ptr B, .string x] w fun e w' => e = .returned (.bool (d.has x)) ∧ w = w' := by
  have h0 := h.cell0
  obtain ⟨v, hl, hv⟩ := h.look_in (P := Try.prog) Try.underlying49 Try.underlying30 zeroIds x true
  simp only [if_true] at hl
  go_enter Try.func24, Try.ntmps24
  go_wp2_with fail
  go_ret
  exact ⟨rfl, rfl⟩

theorem many_of (B : Nat) (d : Gr) (w : World) (h : DagV w B d) :
    Calls Try.prog 16 #[ptr B] w fun e w' => e = .returned (.int .i64 (d.ins.length : Nat)) ∧ w = w' := by
  have h0 := h.cell0
  obtain ⟨m, ⟨⟨es, c, hb, hst, he⟩, hu⟩, hE⟩ := h.inm
  have hsz : es.size = d.ins.length := by
    have h1 := congrArg List.length he
    have h2 := hE.len
    have h3 : (insP d).length = d.ins.length := by unfold insP; simp
    simp only [List.length_map, Array.length_toList] at h1
    omega
  have hl : ∀ ty, (Builtin.len_ #[49] ty #[.map (some B)]).run Try.prog w = .ok (.int .i64 (es.size : Nat)) w := by
    intro ty
    simp [Builtin.len_, MapKept.run_getObj_map hb, Result.andThen, goInt]
  rw [hsz] at hl
  go_enter Try.func16, Try.ntmps16
  go_wp2_with fail
  go_ret
  exact ⟨rfl, rfl⟩
theorem all_next (d : Gr) (ps : List Nm) (k : Nat) (hk : k < ps.length) (h : d.ready (ps.take k) = true) (hh : d.has ps[k] = true) : d.ready (ps.take (k + 1)) = true := by
  unfold Gr.ready at *
  rw [List.take_succ_eq_append_getElem hk, List.all_append, h]
  simp [hh]
theorem ready_of (B : Nat) (d : Gr) (A : Option Addr) (c : Nat) (ps : List Nm) (w : World) (h : DagV w B d) (hr : El.str.Row w A c ps) :
    Calls Try.prog 38 #[ptr B, .slice A ps.length c] w fun e w' => e = .returned (.bool (d.ready ps)) ∧ w = w' := by
  have hlx := hr.len
  have HD := Lib.hid h; have HX := Lib.hid hr; clear h hr
  go_enter Try.func38, Try.ntmps38
  go_wp2_with fail
  go_loopw [9] (fun i wr => ∃ k : Nat, k ≤ ps.length ∧ i = .int .i64 k ∧ Hid (d.ready (ps.take k) = true) ∧ w = wr) (fun i _ => ps.length - (intOf i).toNat)
  case atStart => exact ⟨0, by omega, rfl, Lib.hid rfl, rfl⟩
  case round =>
    obtain ⟨k, hk, rfl, HE, rfl⟩ := hrel
    by_cases hlt : k < ps.length
    · obtain ⟨a, rfl, hca⟩ := HX.out.flat_at k hlt
      cases hh : d.has ps[k] with
      | true =>
        have HN := Lib.hid (all_next d ps k hlt HE.out hh)
        have HH := Lib.hid hh; clear hh
        go_wp2_with (refine (has_of B d ps[k] _ HD.out).mono ?_; rintro e w' ⟨rfl, rfl⟩; rw [HH.out])
        go_roundw
        case rel => exact ⟨k + 1, by omega, by go_num, HN, trivial⟩
        case measure => simp [intOf]; omega
      | false =>
        have HN : Hid (d.ready ps = false) := Lib.hid (by
          unfold Gr.ready
          rw [List.all_eq_false]
          exact ⟨ps[k], List.getElem_mem _, by rw [hh]; simp⟩)
        have HH := Lib.hid hh; clear hh
        go_wp2_with (refine (has_of B d ps[k] _ HD.out).mono ?_; rintro e w' ⟨rfl, rfl⟩; rw [HH.out])
        go_ret
        exact ⟨by rw [HN.out]; rfl, rfl⟩
    · have HN : Hid (d.ready ps = true) := Lib.hid (by
        have := HE.out
        rwa [List.take_of_length_le (by omega)] at this)
      go_wp2_with fail
      go_ret
      exact ⟨by rw [HN.out]; rfl, rfl⟩
theorem level_of (B : Nat) (d : Gr) (x : Nm) (w : World) (h : DagV w B d) :
    Calls Try.prog 20 #[ptr B, .string x] w fun e w' => e = .returned (.int .i64 (d.level x)) ∧ w = w' := by
  have h2 := h.cell2
  have hl := h.look_lv (P := Try.prog) Try.underlying50 Try.underlying30 zeroInt x
  have HD := Lib.hid h; clear h
  cases hh : d.has x with
  | true =>
    have HN : Hid (d.level x = (d.lev x : Nat)) := Lib.hid (by unfold Gr.level; rw [hh]; rfl)
    have HH := Lib.hid hh; clear hh
    go_enter Try.func20, Try.ntmps20
    go_wp2_with (refine (has_of B d x _ HD.out).mono ?_; rintro e w' ⟨rfl, rfl⟩; rw [HH.out])
    go_ret
    exact ⟨by rw [HN.out]; rfl, rfl⟩
  | false =>
    have HN : Hid (d.level x = -1) := Lib.hid (by unfold Gr.level; rw [hh]; rfl)
    have HH := Lib.hid hh; clear hh
    go_enter Try.func20, Try.ntmps20
    go_wp2_with (refine (has_of B d x _ HD.out).mono ?_; rintro e w' ⟨rfl, rfl⟩; rw [HH.out])
    go_ret
    exact ⟨by rw [HN.out]; rfl, rfl⟩
end Go.Proofs.Ytlmcbmgdhpoedaa.Dc

/- The walk of the edits. -/
import Derived.Test.YtekeiieefkgopaaDoorMg
import Derived.Deep.DeepCutAuto
import Derived.Deep.CutBlock
import Derived.Deep.RegionHeld3
import Derived.Deep.AppendLies
namespace Go.Proofs.YtekeiieefkgopaaDoor.Mh
open Go.RowKit Go.Proofs.YtekeiieefkgopaaDoor.Aa Go.Proofs.YtekeiieefkgopaaDoor.Vw Go.Proofs.YtekeiieefkgopaaDoor.Ma Go.Proofs.YtekeiieefkgopaaDoor.Mr Go.Proofs.YtekeiieefkgopaaDoor.Mb Go.Proofs.YtekeiieefkgopaaDoor.Me Go.Proofs.YtekeiieefkgopaaDoor.Mf Go.Proofs.YtekeiieefkgopaaDoor.Mg
attribute [local go_sem] mx2 mn2 mxOp mnOp
set_option linter.unusedVariables false
set_option linter.unusedSimpArgs false

section
variable (xs ys : List ByteArray) (i k : Nat)
theorem way_done (h1 : xs.length ≤ i) (h2 : ys.length ≤ k) : way (xs.drop i) (ys.drop k) = [] := by
  rw [List.drop_eq_nil_of_le h1, List.drop_eq_nil_of_le h2]; simp [way]
theorem way_keep (h1 : i < xs.length) (h2 : k < ys.length) (h : xs[i] = ys[k]) : way (xs.drop i) (ys.drop k) = .keep :: way (xs.drop (i + 1)) (ys.drop (k + 1)) := by
  rw [List.drop_eq_getElem_cons h1, List.drop_eq_getElem_cons h2, way, if_pos h]
theorem way_del1 (h1 : i < xs.length) (h2 : ys.length ≤ k) : way (xs.drop i) (ys.drop k) = .del :: way (xs.drop (i + 1)) (ys.drop k) := by
  rw [List.drop_eq_getElem_cons h1, List.drop_eq_nil_of_le h2, way]
theorem way_ins1 (h1 : xs.length ≤ i) (h2 : k < ys.length) : way (xs.drop i) (ys.drop k) = .ins ys[k] :: way (xs.drop i) (ys.drop (k + 1)) := by
  rw [List.drop_eq_getElem_cons h2, List.drop_eq_nil_of_le h1, way]
theorem way_del2 (h1 : i < xs.length) (h2 : k < ys.length) (h : xs[i] ≠ ys[k]) (ht : tab xs ys i (k + 1) ≤ tab xs ys (i + 1) k) : way (xs.drop i) (ys.drop k) = .del :: way (xs.drop (i + 1)) (ys.drop k) := by
  unfold tab at ht
  rw [List.drop_eq_getElem_cons h1, List.drop_eq_getElem_cons h2] at *
  rw [way, if_neg h, if_pos ht]
theorem way_ins2 (h1 : i < xs.length) (h2 : k < ys.length) (h : xs[i] ≠ ys[k]) (ht : ¬ tab xs ys i (k + 1) ≤ tab xs ys (i + 1) k) : way (xs.drop i) (ys.drop k) = .ins ys[k] :: way (xs.drop i) (ys.drop (k + 1)) := by
  unfold tab at ht
  rw [List.drop_eq_getElem_cons h1, List.drop_eq_getElem_cons h2] at *
  rw [way, if_neg h, if_neg ht]
end

/-- How many edits there are, and lines in them. -/
def Bd (es : List EditP) (i k : Nat) : Prop := es.length ≤ i + k ∧ ∀ e ∈ es, e.ins.length ≤ k ∧ e.del ≤ i
/-- The edits with an open one behind. -/
def opened (o : Bool) (p : Nat) (es : List EditP) : List EditP := if o then es else es ++ [⟨p, 0, []⟩]
theorem opened_ne {o : Bool} {p : Nat} {es : List EditP} (h : o = true → es ≠ []) : 1 ≤ (opened o p es).length := by
  unfold opened
  cases o with
  | true =>
    simp only [if_true]
    have := h rfl
    cases es with
    | nil => exact absurd rfl this
    | cons a r => simp
  | false => simp
theorem Bd.opened {o : Bool} {p : Nat} {es : List EditP} {i k : Nat} (h : Bd es i k) : (opened o p es).length ≤ i + k + 1 ∧ ∀ e ∈ Mh.opened o p es, e.ins.length ≤ k ∧ e.del ≤ i := by
  obtain ⟨h1, h2⟩ := h
  unfold Mh.opened
  cases o with
  | true => exact ⟨by simp; omega, by simpa using h2⟩
  | false =>
    refine ⟨by simp; omega, fun e he => ?_⟩
    simp only [Bool.false_eq_true, if_false, List.mem_append, List.mem_singleton] at he
    rcases he with he | rfl
    · exact h2 e he
    · simp
theorem mem_modify {α : Type} {l : List α} {n : Nat} {f : α → α} {x : α} (h : x ∈ l.modify n f) : x ∈ l ∨ ∃ y ∈ l, x = f y := by
  obtain ⟨j, hj⟩ := List.getElem?_of_mem h
  rw [modify_at] at hj
  split at hj
  · cases hy : l[j]? with
    | none => rw [hy] at hj; simp at hj
    | some y => rw [hy] at hj; exact .inr ⟨y, List.mem_of_getElem? hy, by simpa using hj.symm⟩
  · exact .inl (List.mem_of_getElem? hj)
theorem Bd.del {o : Bool} {p : Nat} {es : List EditP} {i k : Nat} (h : Bd es i k) : Bd (lastDel (Mh.opened o p es)) (i + 1) k := by
  obtain ⟨h1, h2⟩ := h.opened (o := o) (p := p)
  refine ⟨by unfold lastDel; rw [List.length_modify]; omega, fun e he => ?_⟩
  unfold lastDel at he
  rcases mem_modify he with he | ⟨y, hy, rfl⟩
  · have := h2 e he; omega
  · have := h2 y hy; simp; omega
theorem Bd.ins {o : Bool} {p : Nat} {es : List EditP} {i k : Nat} (h : Bd es i k) (s : ByteArray) : Bd (lastIns (Mh.opened o p es) s) i (k + 1) := by
  obtain ⟨h1, h2⟩ := h.opened (o := o) (p := p)
  refine ⟨by unfold lastIns; rw [List.length_modify]; omega, fun e he => ?_⟩
  unfold lastIns at he
  rcases mem_modify he with he | ⟨y, hy, rfl⟩
  · have := h2 e he; omega
  · have := h2 y hy; simp; omega

theorem frz_ch {w w' : World} (h : Ch no w w') {a : Addr} (hb : a.block < w.heap.size) (hf : w.frozen? a = false) : w'.frozen? a = false := by
  rw [World.frozen?_of_block (h.block a.block hb (no_not _))]; exact hf
/-- What a cell holds. -/
def cellOr (w : World) (a : Addr) : Value := (w.cell? a).getD undef
theorem cellOr_some {w : World} {a : Addr} {u : Value} (h : w.cell? a = some u) : w.cell? a = some (cellOr w a) := by unfold cellOr; rw [h]; rfl
theorem cellOr_eq {w : World} {a : Addr} {u : Value} (h : w.cell? a = some u) : cellOr w a = u := by unfold cellOr; rw [h]; rfl
theorem set_far {w : World} {a b : Addr} {u v : Value} (h : w.cell? b = some u) (hb : b.block ≠ a.block) : (w.setCell a v).cell? b = some u := by
  rw [World.cell?_of_block (((Ch.refl (one a.block) w).set (p := a) (.inl rfl) v).block b.block (World.block_lt_of_cell? w b h) (fun e => hb e))]; exact h
/-- Between two rounds. -/
structure Rd (w0 w : World) (xs ys : List ByteArray) (p : Nat) (R : List EditP) (v : Value) (i k : Nat) (o : Bool) (es : List EditP) : Prop where
  eo : EO w w0.heap.size v es
  ne : o = true → es ≠ []
  way : grp (way (xs.drop i) (ys.drop k)) (p + i) o es = R
  bd : Bd es i k
  ch : Ch no w0 w
/-- Behind the opening of an edit. -/
structure Rd2 (w0 w : World) (xs ys : List ByteArray) (p : Nat) (R : List EditP) (g cap : Nat) (svs : Nat → Value) (i k : Nat) (o : Bool) (es : List EditP) : Prop where
  eb : EB w w0.heap.size g cap (opened o (p + i) es) svs
  ne : 1 ≤ (opened o (p + i) es).length
  way : grp (Mg.way (xs.drop i) (ys.drop k)) (p + i) o es = R
  bd : Bd es i k
  ch : Ch no w0 w

theorem eo_eb {w : World} {B : Nat} {v : Value} {es : List EditP} (h : EO w B v es) (hne : es ≠ []) : ∃ g cap svs, v = .slice (some ⟨g, 0, none⟩) es.length cap ∧ EB w B g cap es svs := by
  rcases h with ⟨_, h⟩ | h
  · exact absurd h hne
  · exact h

theorem open_eb {w : World} {B : Nat} {v : Value} {o : Bool} {p : Nat} {es : List EditP} (h : EO w B v (opened o p es)) (hne : o = true → es ≠ []) :
    ∃ g cap L svs, (opened o p es).length = L + 1 ∧ v = .slice (some ⟨g, 0, none⟩) (L + 1) cap ∧ EB w B g cap (opened o p es) svs := by
  have h1 := opened_ne (p := p) hne
  obtain ⟨g, cap, svs, rfl, heb⟩ := eo_eb h (by intro h; rw [h] at h1; simp at h1)
  refine ⟨g, cap, (opened o p es).length - 1, svs, by omega, ?_, heb⟩
  rw [Nat.sub_add_cancel h1]

theorem open_rel {w0 w w' : World} {xs ys : List ByteArray} {p i k : Nat} {R es : List EditP} {v v' : Value} {o : Bool} (h : Rd w0 w xs ys p R v i k o es) (heo : EO w' w0.heap.size v' (opened o (p + i) es)) (hc : Ch no w0 w') :
    ∃ g cap L svs, (opened o (p + i) es).length = L + 1 ∧ v' = .slice (some ⟨g, 0, none⟩) (L + 1) cap ∧ Value.bool true = .bool true ∧ Hid (Rd2 w0 w' xs ys p R g cap svs i k o es) := by
  obtain ⟨g, cap, L, svs, hL, rfl, heb⟩ := open_eb heo h.ne
  exact ⟨g, cap, L, svs, hL, rfl, rfl, ⟨heb, opened_ne h.ne, h.way, h.bd, hc⟩⟩

theorem Rd2.drewN {w0 w : World} {xs ys : List ByteArray} {p : Nat} {R : List EditP} {g cap : Nat} {svs : Nat → Value} {i k : Nat} {o : Bool} {es : List EditP} (h : Rd2 w0 w xs ys p R g cap svs i k o es) (n : Nat) :
    Rd2 w0 (w.drewN n) xs ys p R g cap svs i k o es := ⟨h.eb.ch ((Ch.refl no w).drewN n) (fun _ _ => no_not _), h.ne, h.way, h.bd, h.ch.drewN n⟩
theorem Rd2.step {w0 w w' : World} {xs ys : List ByteArray} {p : Nat} {R : List EditP} {g cap : Nat} {svs : Nat → Value} {i k : Nat} {o : Bool} {es : List EditP} (h : Rd2 w0 w xs ys p R g cap svs i k o es) (hc : Ch no w w') :
    Rd2 w0 w' xs ys p R g cap svs i k o es := ⟨h.eb.ch hc (fun _ _ => no_not _), h.ne, h.way, h.bd, h.ch.then_ hc⟩
theorem last_ne {o : Bool} {p L : Nat} {es fs : List EditP} (hL : (opened o p es).length = L + 1) (h : fs.length = (opened o p es).length) : fs ≠ [] := by
  intro hh; rw [hh, hL] at h; simp at h
theorem Rd2.del {w0 w : World} {xs ys : List ByteArray} {p : Nat} {R : List EditP} {g cap : Nat} {svs : Nat → Value} {i k L : Nat} {o : Bool} {es : List EditP} {e : EditP} (h : Rd2 w0 w xs ys p R g cap svs i k o es)
    (hL : (opened o (p + i) es).length = L + 1) (he : (opened o (p + i) es)[L]? = some e) (hw : Mg.way (xs.drop i) (ys.drop k) = .del :: Mg.way (xs.drop (i + 1)) (ys.drop k)) :
    Rd w0 (w.setCell ⟨g, L * 3 + 1, none⟩ (.int .i64 (e.del + 1))) xs ys p R (.slice (some ⟨g, 0, none⟩) (L + 1) cap) (i + 1) k true (lastDel (opened o (p + i) es)) := by
  have hl : (lastDel (opened o (p + i) es)).length = (opened o (p + i) es).length := by unfold lastDel; rw [List.length_modify]
  refine ⟨.inr ⟨g, cap, svs, by rw [hl, hL], h.eb.setDel L e hL.symm he _ rfl⟩, fun _ => last_ne hL hl, ?_, h.bd.del, h.ch.set (p := ⟨g, L * 3 + 1, none⟩) (.inr h.eb.ge) _⟩
  have := h.way
  rw [hw] at this
  exact this
theorem Rd2.ins {w0 w w1 : World} {xs ys : List ByteArray} {p : Nat} {R : List EditP} {g cap : Nat} {svs : Nat → Value} {i k L : Nat} {o : Bool} {es : List EditP} {e : EditP} (h : Rd2 w0 w xs ys p R g cap svs i k o es)
    (hL : (opened o (p + i) es).length = L + 1) (he : (opened o (p + i) es)[L]? = some e) (s : ByteArray) (hw : Mg.way (xs.drop i) (ys.drop k) = .ins s :: Mg.way (xs.drop i) (ys.drop (k + 1))) (v' : Value)
    (hown : OwnS w1 w0.heap.size v' (e.ins ++ [s])) (hg : w.grownBy w1 (svs L).ownBlock) (hat' : v'.ownBlock = (svs L).ownBlock ∨ ∃ b, v'.ownBlock = some b ∧ w.heap.size ≤ b) :
    Rd w0 (w1.setCell ⟨g, L * 3 + 2, none⟩ v') xs ys p R (.slice (some ⟨g, 0, none⟩) (L + 1) cap) i (k + 1) true (lastIns (opened o (p + i) es) s) := by
  have hl : (lastIns (opened o (p + i) es) s).length = (opened o (p + i) es).length := by unfold lastIns; rw [List.length_modify]
  have hc1 : Ch no w0 w1 := Ch.grown_new h.ch hg (fun b hb => own_ge (h.eb.own L e he) b hb)
  refine ⟨.inr ⟨g, cap, _, by rw [hl, hL], h.eb.setIns L e hL.symm he s v' hown hg hat'⟩, fun _ => last_ne hL hl, ?_, h.bd.ins s, hc1.set (p := ⟨g, L * 3 + 2, none⟩) (.inr h.eb.ge) _⟩
  have := h.way
  rw [hw] at this
  exact this

set_option maxRecDepth 100000 in
set_option maxHeartbeats 1600000 in
set_option pp.maxSteps 100000 in
set_option pp.deepTerms true in
theorem walk_any (p : Nat) (A B : Option Addr) (c d : Nat) (xs ys : List ByteArray) (w : World) (hx : El.str.Row w A c xs) (hy : El.str.Row w B d ys) (hn : xs.length ≤ 1000000) (hm : ys.length ≤ 1000000) (hp : p ≤ 1000000) :
    Calls Tryd.prog 148 #[.int .i64 p, .slice A xs.length c, .slice B ys.length d] w fun e w' => ∃ v, e = .returned v ∧ EO w' w.heap.size v (grp (way xs ys) p false []) ∧ Ch no w w' := by
  have HX0 := Lib.hid hx; have HY0 := Lib.hid hy
  go_enter Tryd.func148, Tryd.ntmps148
  go_wp2_with fail
  refine (table_any A B c d xs ys _ hx hy hn hm).mono ?_
  rintro e w1 ⟨gt, rfl, ht, hc⟩
  have HT := Lib.hid ht; clear ht
  have HC := Lib.hid hc
  have HX := Lib.hid (hx.ch hc); have HY := Lib.hid (hy.ch hc)
  have HR : Hid (Rd w1 w1 xs ys p (grp (way xs ys) p false []) (.slice none 0 0) 0 0 false []) := ⟨.inl ⟨rfl, rfl⟩, (fun h => by cases h), by simp, ⟨by simp, by simp⟩, Ch.refl _ _⟩
  clear hx hy hc HX0 HY0
  go_wp2_with fail
  go_loopw [8, 9, 10, 11] (fun v8 v9 v10 v11 wr => ∃ (i k : Nat) (o : Bool) (es : List EditP), i ≤ xs.length ∧ k ≤ ys.length ∧ v9 = .bool o ∧ v10 = .int .i64 i ∧ v11 = .int .i64 k ∧ Hid (Rd w1 wr xs ys p (grp (way xs ys) p false []) v8 i k o es)) (fun _ _ v10 v11 _ => xs.length + ys.length - ((intOf v10).toNat + (intOf v11).toNat))
  case atStart => exact ⟨0, 0, false, [], by omega, by omega, rfl, rfl, rfl, HR⟩
  case round =>
    clear HR
    obtain ⟨i, k, o, es, hik, hkk, rfl, rfl, rfl, HR⟩ := hrel
    by_cases hdone : i = xs.length ∧ k = ys.length
    · obtain ⟨rfl, rfl⟩ := hdone
      go_wp2_with fail
      go_ret
      refine ⟨_, rfl, ?_, HC.out.then_ HR.out.ch⟩
      have h := HR.out.way
      rw [way_done xs ys _ _ (Nat.le_refl _) (Nat.le_refl _)] at h
      have he := HR.out.eo
      rw [← h]
      exact he.less HC.out.size
    · by_cases hkeep : ∃ (h1 : i < xs.length) (h2 : k < ys.length), xs[i] = ys[k]
      · obtain ⟨h1, h2, he⟩ := hkeep
        obtain ⟨a, rfl, hca⟩ := (HX.out.ch HR.out.ch).flat_at i h1
        obtain ⟨b, rfl, hcb⟩ := (HY.out.ch HR.out.ch).flat_at k h2
        have hbe := beq_yes he
        have HW := Lib.hid (way_keep xs ys i k h1 h2 he)
        clear he
        go_wp2_with fail
        go_quiet (fail)
        go_wp2_with fail
        go_roundw
        case rel =>
          refine ⟨i + 1, k + 1, false, es, by omega, by omega, rfl, by go_num, by go_num, ⟨HR.out.eo.ch ((Ch.refl no _).drewN _) (fun _ _ => no_not _), (fun h => by cases h), ?_, ⟨by have := HR.out.bd.1; omega, fun e he => by have := HR.out.bd.2 e he; omega⟩, HR.out.ch.drewN _⟩⟩
          have h := HR.out.way
          rw [HW.out] at h
          exact h
        case measure => simp [intOf] <;> omega
      · have key : (i < xs.length ∧ k = ys.length) ∨ (∃ (h1 : i < xs.length) (h2 : k < ys.length), xs[i] ≠ ys[k] ∧ tab xs ys i (k + 1) ≤ tab xs ys (i + 1) k) ∨ (∃ (h1 : i < xs.length) (h2 : k < ys.length), xs[i] ≠ ys[k] ∧ ¬ tab xs ys i (k + 1) ≤ tab xs ys (i + 1) k) ∨ (i = xs.length ∧ k < ys.length) := by
          by_cases h1 : i < xs.length
          · by_cases h2 : k < ys.length
            · have he : xs[i] ≠ ys[k] := fun he => hkeep ⟨h1, h2, he⟩
              by_cases ht : tab xs ys i (k + 1) ≤ tab xs ys (i + 1) k
              · exact .inr (.inl ⟨h1, h2, he, ht⟩)
              · exact .inr (.inr (.inl ⟨h1, h2, he, ht⟩))
            · exact .inl ⟨h1, by omega⟩
          · exact .inr (.inr (.inr ⟨by omega, by omega⟩))
        clear hdone hkeep
        rcases key with ⟨h1, rfl⟩ | ⟨h1, h2, he, htab⟩ | ⟨h1, h2, he, htab⟩ | ⟨h1, h2⟩
        case' inl =>
          have HW := Lib.hid (way_del1 xs ys i _ h1 (Nat.le_refl _))
        case' inr.inl =>
          obtain ⟨a, rfl, hca⟩ := (HX.out.ch HR.out.ch).flat_at i h1
          obtain ⟨b, rfl, hcb⟩ := (HY.out.ch HR.out.ch).flat_at k h2
          have hbe := beq_no he
          have HW := Lib.hid (way_del2 xs ys i k h1 h2 he htab)
          have HE := Lib.hid htab
          clear he htab
        case' inr.inr.inl =>
          obtain ⟨a, rfl, hca⟩ := (HX.out.ch HR.out.ch).flat_at i h1
          obtain ⟨b, rfl, hcb⟩ := (HY.out.ch HR.out.ch).flat_at k h2
          have hbe := beq_no he
          have HW := Lib.hid (way_ins2 xs ys i k h1 h2 he htab)
          have HE := Lib.hid htab
          clear he htab
        case' inr.inr.inr =>
          have HW := Lib.hid (way_ins1 xs ys i k (by omega) h2)
          have hi2 : ¬ ((i : Int) < xs.length) := by omega
          have hi3 : ¬ (i < xs.length) := by omega
          have HI1 := Lib.hid h1
          clear h1
        all_goals
          have HR0 := HR
          go_wp2_with fail
          go_quiet (fail)
          go_upto_if 52 with (fail)
          refine wp_world (fun W => Hid (Rd w1 W xs ys p (grp (way xs ys) p false []) _ _ _ o es)) ⟨HR.out.eo.ch ((Ch.refl no _).drewN _) (fun _ _ => no_not _), HR.out.ne, HR.out.way, HR.out.bd, HR.out.ch.drewN _⟩ ?_
          intro W1 HR1
          clear HR0 HR
          try clear hca hcb
          go_cut [8, 9] (fun v8 v9 wc => ∃ (g cap L : Nat) (svs : Nat → Value), (opened o (p + _) es).length = L + 1 ∧ v8 = .slice (some ⟨g, 0, none⟩) (L + 1 : Nat) cap ∧ v9 = .bool true ∧ Hid (Rd2 w1 wc xs ys p (grp (way xs ys) p false []) g cap svs _ _ o es))
          case first =>
            cases o with
            | true =>
              go_wp2_with fail
              go_meet
              case rel => exact open_rel HR1.out HR1.out.eo HR1.out.ch
            | false =>
              have hbl := HR1.out.bd.1
              go_wp2_with (at_builtin; refine app_edit rfl _ _ rfl w1.heap.size _ es HR1.out.eo rfl _ (p + _) (Int.natCast_add _ _).symm rfl (by omega) HR1.out.ch.size ?_; intro v' w2 heo hch)
              go_meet
              case rel => exact open_rel HR1.out heo (hch HR1.out.ch (Nat.le_refl _))
        · obtain ⟨g, cap, L, svs, hL, rfl, rfl, HR2⟩ := hcut
          obtain ⟨e, he⟩ : ∃ e, (opened o (p + i) es)[L]? = some e := ⟨_, List.getElem?_eq_getElem (by omega)⟩
          obtain ⟨hcd, hci, hfd, hfi⟩ := HR2.out.eb.cellDel L e he
          have hbd := (HR2.out.bd.opened (o := o) (p := p + i)).2 e (List.mem_of_getElem? he)
          have HL := Lib.hid hL; have HE1 := Lib.hid he
          have hinl := hbd.1
          have hne : ((k : Int) == (ys.length : Int)) = false := by simp; omega
          have hLb : L ≤ 2000000 := by have := (HR2.out.bd.opened (o := o) (p := p + i)).1; omega
          clear hL he hbd hcd hfd
          go_wp2_with fail
          go_quiet (fail)
          go_wp2_with fail
          refine wp_world (fun W => Hid (Rd2 w1 W xs ys p (grp (way xs ys) p false []) g cap svs i k o es)) (HR2.out.drewN _) ?_
          intro W2 HR3
          clear HR2 HR1 hci hfi
          obtain ⟨b, rfl, hcb1⟩ := HY.out.flat_at k h2
          have hcb := cell_ch HR3.out.ch hcb1
          have hbn := World.block_lt_of_cell? w1 _ hcb1
          obtain ⟨_, hci, _, hfi⟩ := HR3.out.eb.cellDel L e HE1.out
          have HO := Lib.hid (HR3.out.eb.own L e HE1.out)
          have HA := Lib.hid (HR3.out.eb.apart L e HE1.out)
          obtain ⟨i0, hi, hz0, hz1, hz2⟩ := info_parts infoStr
          have hgl : g < W2.heap.size := World.block_lt_of_cell? W2 _ hci
          have hbl := World.block_lt_of_cell? W2 _ hcb
          have hsz := HR3.out.ch.size
          have HI := Lib.hid hi; have HZ0 := Lib.hid hz0; have HZ1 := Lib.hid hz1; have HZ2 := Lib.hid hz2
          clear hi hz0 hz1 hz2 hcb1
          go_region_law (refine step_append_lies _ (by rfl) _ _ _ (by rfl) w1.heap.size 9 i0 _ 1 16 Tryd.underlying25 HI.out HZ0.out HZ1.out HZ2.out rfl (by omega) (svs L) e.ins.length (e.ins.map Value.string) (by rfl) (own_ch HO.out ((Ch.refl no _).alloc _).drew (fun _ _ => no_not _)) ⟨W2.heap.size, 0, none⟩ 1 1 [.string ys[k]] (by rfl) (by rfl) (World.news_of_block (cs := #[.string ys[k]]) (t := 9) (fr := (0, 0)) (heap_alloc_new W2 _)) (by simp [Value.oneCell']) (by omega) (by unfold maxLen; omega) (by omega) (by simp; omega) (W2.heap.size + 1) (by simp) ?_; intro gg cap2 w3 hown1 hgrow hat hlt; have hc3 : w3.cell? ⟨g, L * 3 + 2, none⟩ = some (svs L) := (hgrow.cell_far ⟨g, L * 3 + 2, none⟩ (by simp; omega) (Ne.symm HA.out)).trans (cell_ch (((Ch.refl no W2).alloc _).drew) hci); have hf3 : w3.frozen? ⟨g, L * 3 + 2, none⟩ = false := (hgrow.frozen_far ⟨g, L * 3 + 2, none⟩ (by simp; omega) (Ne.symm HA.out)).trans (frz_ch (((Ch.refl no W2).alloc _).drew) hgl hfi))
          all_goals
            go_wp2_with fail
            go_roundw
            case rel => exact ⟨i, k + 1, true, _, by omega, by omega, rfl, rfl, by go_num, (HR3.out.step ((Ch.refl no W2).alloc _).drew).ins HL.out HE1.out ys[k] HW.out _ (by simpa [OwnS] using hown1) hgrow (hat.elim (fun h => .inl h.symm) (fun h => .inr ⟨_, rfl, by simp; omega⟩))⟩
            case measure => simp [intOf] <;> omega
        · obtain ⟨g, cap, L, svs, hL, rfl, rfl, HR2⟩ := hcut
          obtain ⟨e, he⟩ : ∃ e, (opened o (p + i) es)[L]? = some e := ⟨_, List.getElem?_eq_getElem (by omega)⟩
          obtain ⟨hcd, hci, hfd, hfi⟩ := HR2.out.eb.cellDel L e he
          have hbd := (HR2.out.bd.opened (o := o) (p := p + i)).2 e (List.mem_of_getElem? he)
          have HL := Lib.hid hL; have HE1 := Lib.hid he
          have hinl := hbd.1
          have hne : ((k : Int) == (ys.length : Int)) = false := by simp; omega
          have hLb : L ≤ 2000000 := by have := (HR2.out.bd.opened (o := o) (p := p + i)).1; omega
          clear hL he hbd hcd hfd
          obtain ⟨r1, t1, t2, _⟩ := (HT.out.ch HR2.out.ch (fun _ _ => no_not _)).at_ (i + 1) (by omega) (by omega)
          obtain ⟨r0, t3, t4, _⟩ := (HT.out.ch HR2.out.ch (fun _ _ => no_not _)).at_ i (by omega) (by omega)
          have t5 := t2.cell k (by omega) (by omega)
          have t6 := t4.cell (k + 1) (by omega) (by omega)
          have t7 : ((tab xs ys (i + 1) k : Nat) : Int) < (tab xs ys i (k + 1) : Nat) := by have := HE.out; omega
          have t8 : (i : Int) + 1 < xs.length + 1 := by omega
          have t9 : (k : Int) + 1 < ys.length + 1 := by omega
          have t10 : (i : Int) < xs.length + 1 := by omega
          have t11 : (k : Int) < ys.length + 1 := by omega
          have t12 : IntKind.i64.wrap ((i : Int) + 1) = (i : Int) + 1 := IntWalk.i64_in _ (by omega)
          have t13 : IntKind.i64.wrap ((k : Int) + 1) = (k : Int) + 1 := IntWalk.i64_in _ (by omega)
          have t14 : ((i : Int) + 1).toNat = i + 1 := by omega
          have t15 : ((k : Int) + 1).toNat = k + 1 := by omega
          clear t2 t4
          go_wp2_with fail
          go_quiet (fail)
          go_wp2_with fail
          refine wp_world (fun W => Hid (Rd2 w1 W xs ys p (grp (way xs ys) p false []) g cap svs i k o es)) (HR2.out.drewN _) ?_
          intro W2 HR3
          clear HR2 HR1 hci hfi t1 t3 t5 t6
          obtain ⟨b', eb, hcb1⟩ := HY.out.flat_at k h2
          cases eb
          have hcb := cell_ch HR3.out.ch hcb1
          have hbn := World.block_lt_of_cell? w1 _ hcb1
          obtain ⟨_, hci, _, hfi⟩ := HR3.out.eb.cellDel L e HE1.out
          have HO := Lib.hid (HR3.out.eb.own L e HE1.out)
          have HA := Lib.hid (HR3.out.eb.apart L e HE1.out)
          obtain ⟨i0, hi, hz0, hz1, hz2⟩ := info_parts infoStr
          have hgl : g < W2.heap.size := World.block_lt_of_cell? W2 _ hci
          have hbl := World.block_lt_of_cell? W2 _ hcb
          have hsz := HR3.out.ch.size
          have HI := Lib.hid hi; have HZ0 := Lib.hid hz0; have HZ1 := Lib.hid hz1; have HZ2 := Lib.hid hz2
          clear hi hz0 hz1 hz2 hcb1
          go_region_law (refine step_append_lies _ (by rfl) _ _ _ (by rfl) w1.heap.size 9 i0 _ 1 16 Tryd.underlying25 HI.out HZ0.out HZ1.out HZ2.out rfl (by omega) (svs L) e.ins.length (e.ins.map Value.string) (by rfl) (own_ch HO.out ((Ch.refl no _).alloc _).drew (fun _ _ => no_not _)) ⟨W2.heap.size, 0, none⟩ 1 1 [.string ys[k]] (by rfl) (by rfl) (World.news_of_block (cs := #[.string ys[k]]) (t := 9) (fr := (0, 0)) (heap_alloc_new W2 _)) (by simp [Value.oneCell']) (by omega) (by unfold maxLen; omega) (by omega) (by simp; omega) (W2.heap.size + 1) (by simp) ?_; intro gg cap2 w3 hown1 hgrow hat hlt; have hc3 : w3.cell? ⟨g, L * 3 + 2, none⟩ = some (svs L) := (hgrow.cell_far ⟨g, L * 3 + 2, none⟩ (by simp; omega) (Ne.symm HA.out)).trans (cell_ch (((Ch.refl no W2).alloc _).drew) hci); have hf3 : w3.frozen? ⟨g, L * 3 + 2, none⟩ = false := (hgrow.frozen_far ⟨g, L * 3 + 2, none⟩ (by simp; omega) (Ne.symm HA.out)).trans (frz_ch (((Ch.refl no W2).alloc _).drew) hgl hfi))
          all_goals
            go_wp2_with fail
            go_roundw
            case rel => exact ⟨i, k + 1, true, _, by omega, by omega, rfl, rfl, by go_num, (HR3.out.step ((Ch.refl no W2).alloc _).drew).ins HL.out HE1.out ys[k] HW.out _ (by simpa [OwnS] using hown1) hgrow (hat.elim (fun h => .inl h.symm) (fun h => .inr ⟨_, rfl, by simp; omega⟩))⟩
            case measure => simp [intOf] <;> omega
        · obtain ⟨g, cap, L, svs, hL, rfl, rfl, HR2⟩ := hcut
          obtain ⟨e, he⟩ : ∃ e, (opened o (p + i) es)[L]? = some e := ⟨_, List.getElem?_eq_getElem (by omega)⟩
          obtain ⟨hcd, hci, hfd, hfi⟩ := HR2.out.eb.cellDel L e he
          have hbd := (HR2.out.bd.opened (o := o) (p := p + i)).2 e (List.mem_of_getElem? he)
          have HL := Lib.hid hL; have HE1 := Lib.hid he
          have hdel := hbd.2
          have hLb : L ≤ 2000000 := by have := (HR2.out.bd.opened (o := o) (p := p + i)).1; omega
          clear hL he hbd
          have hne : ((k : Int) == (ys.length : Int)) = false := by simp; omega
          obtain ⟨r1, t1, t2, _⟩ := (HT.out.ch HR2.out.ch (fun _ _ => no_not _)).at_ (i + 1) (by omega) (by omega)
          obtain ⟨r0, t3, t4, _⟩ := (HT.out.ch HR2.out.ch (fun _ _ => no_not _)).at_ i (by omega) (by omega)
          have t5 := t2.cell k (by omega) (by omega)
          have t6 := t4.cell (k + 1) (by omega) (by omega)
          have t7 : ((tab xs ys i (k + 1) : Nat) : Int) ≤ (tab xs ys (i + 1) k : Nat) := by have := HE.out; omega
          have t8 : (i : Int) + 1 < xs.length + 1 := by omega
          have t9 : (k : Int) + 1 < ys.length + 1 := by omega
          have t10 : (i : Int) < xs.length + 1 := by omega
          have t11 : (k : Int) < ys.length + 1 := by omega
          have t12 : IntKind.i64.wrap ((i : Int) + 1) = (i : Int) + 1 := IntWalk.i64_in _ (by omega)
          have t13 : IntKind.i64.wrap ((k : Int) + 1) = (k : Int) + 1 := IntWalk.i64_in _ (by omega)
          have t14 : ((i : Int) + 1).toNat = i + 1 := by omega
          have t15 : ((k : Int) + 1).toNat = k + 1 := by omega
          clear t2 t4
          go_wp2_with fail
          go_quiet (fail)
          go_wp2_with fail
          go_roundw
          case rel => exact ⟨i + 1, k, true, _, by omega, by omega, rfl, by go_num, rfl, (HR2.out.drewN _).del HL.out HE1.out HW.out⟩
          case measure => simp [intOf] <;> omega
        · obtain ⟨g, cap, L, svs, hL, rfl, rfl, HR2⟩ := hcut
          obtain ⟨e, he⟩ : ∃ e, (opened o (p + i) es)[L]? = some e := ⟨_, List.getElem?_eq_getElem (by omega)⟩
          obtain ⟨hcd, hci, hfd, hfi⟩ := HR2.out.eb.cellDel L e he
          have hbd := (HR2.out.bd.opened (o := o) (p := p + i)).2 e (List.mem_of_getElem? he)
          have HL := Lib.hid hL; have HE1 := Lib.hid he
          have hdel := hbd.2
          have hLb : L ≤ 2000000 := by have := (HR2.out.bd.opened (o := o) (p := p + i)).1; omega
          clear hL he hbd
          go_wp2_with fail
          go_quiet (fail)
          go_wp2_with fail
          go_roundw
          case rel => exact ⟨i + 1, _, true, _, by omega, Nat.le_refl _, rfl, by go_num, rfl, (HR2.out.drewN _).del HL.out HE1.out HW.out⟩
          case measure => simp [intOf] <;> omega

end Go.Proofs.YtekeiieefkgopaaDoor.Mh

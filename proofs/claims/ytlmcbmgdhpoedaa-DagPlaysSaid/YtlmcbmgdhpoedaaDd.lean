/- One comes in: walked. -/
import Derived.WideKeyEntry
import Derived.Test.YtlmcbmgdhpoedaaMs
import Derived.Test.YtlmcbmgdhpoedaaMt
import Derived.Test.YtlmcbmgdhpoedaaDc
namespace Go.Proofs.Ytlmcbmgdhpoedaa.Dd
open Go Go.RowKit Go.Proofs.Ytlmcbmgdhpoedaa.Aa Go.Proofs.Ytlmcbmgdhpoedaa.Vw Go.Proofs.Ytlmcbmgdhpoedaa.Mp Go.Proofs.Ytlmcbmgdhpoedaa.Mr Go.Proofs.Ytlmcbmgdhpoedaa.Ms Go.Proofs.Ytlmcbmgdhpoedaa.Mt Go.Proofs.Ytlmcbmgdhpoedaa.Da Go.Proofs.Ytlmcbmgdhpoedaa.Db Go.Proofs.Ytlmcbmgdhpoedaa.Dc Go.MapKept
set_option linter.unusedVariables false
set_option linter.unusedSimpArgs false

section
variable {κ : Type} [DecidableEq κ] {enc : κ → Value} {P : Program} {d : TypeDesc} {t kt et : TypeId} {w : World} {b : Nat} {m : List (κ × Value)}
/-- A new key's entry, and what is stored into it then. -/
theorem run_entry_new (K : KeyLaw d enc) (ht : P.underlying t = some (.map kt et)) (hk : P.underlying kt = some d) (h : MapV enc w b m) (k : κ) (hn : mget m k = none) {z : Value} (hz : ∀ w, (zeroValue et).run P w = .ok z w) (v : Value) (t' : TypeId) :
    ∃ (w1 w2 : World) (st : Nat), (Instr.mapEntry t (.map (some b)) (enc k)).run P w = .ok (.tuple #[z, .int .i64 st]) w1 ∧ Ch (one b) w w1 ∧
      (Instr.entryStore t' (.map (some b)) (.int .i64 st) v).run P w1 = .ok () w2 ∧ MapV enc w2 b (m ++ [(k, v)]) ∧ Ch (one b) w1 w2 := by
  obtain ⟨⟨es, clock, hb, hst, he⟩, hu⟩ := h
  have hch : ∀ (W : World) (o : Obj) {o' : Obj}, W.heap[b]? = some o' → Ch (one b) W { W with heap := W.heap.setIfInBounds b o } := fun W o o' hW =>
    ⟨rfl, rfl, rfl, by simp, fun i hi hne => (heap_set hW).2 i (fun e => hne e)⟩
  rcases find_spec K he k with ⟨h1, h2, h3⟩ | ⟨j, e, h1, h2, h3⟩
  · have s := (stamped_iff es clock).1 hst
    obtain ⟨W1, hW1⟩ : ∃ W1 : World, W1 = { w with heap := w.heap.setIfInBounds b (.map (es.push ⟨enc k, z, clock⟩) (clock + 1)) } := ⟨_, rfl⟩
    have hb1 : W1.heap[b]? = some (.map (es.push ⟨enc k, z, clock⟩) (clock + 1)) := by rw [hW1]; exact (heap_set hb).1
    have hc1 : Ch (one b) w W1 := by rw [hW1]; exact hch w _ hb
    have hr1 : (Instr.mapEntry t (.map (some b)) (enc k)).run P w = .ok (.tuple #[z, .int .i64 clock]) W1 := by
      rw [hW1]
      simp [Instr.mapEntry, run_underlying ht, MapKept.run_getObj_map hb, MapKept.run_checkKey hk (K.key k), MapKept.run_findKey hk h1, hz, MapKept.run_setObj_map _ hb, Result.andThen, goInt]
    clear hW1
    have hidx : (es.push ⟨enc k, z, clock⟩).findIdx? (fun e => ((e.born : Nat) : Int) == ((clock : Nat) : Int)) = some es.size := by
      rw [WideElems.findIdx_arr]
      exact WideElems.findIdx_born (l := (es.push ⟨enc k, z, clock⟩).toList) (j := es.size) (e0 := ⟨enc k, z, clock⟩) (by
        simp only [Array.toList_push, List.map_append, List.map_cons, List.map_nil]
        refine List.nodup_append.2 ⟨s.2.1, by simp, fun a ha c hc e1 => ?_⟩
        simp only [List.mem_singleton] at hc
        obtain ⟨x, hx, rfl⟩ := List.mem_map.1 ha
        have := s.1 x hx
        omega) (by simp)
    have hmod : (es.push ⟨enc k, z, clock⟩).modify es.size (fun e => { e with val := v }) = es.push ⟨enc k, v, clock⟩ := by
      apply Array.ext'
      rw [Array.toList_modify, Array.toList_push, Array.toList_push, ← Array.length_toList, WideElems.modify_last]
    refine ⟨W1, { W1 with heap := W1.heap.setIfInBounds b (.map (es.push ⟨enc k, v, clock⟩) (clock + 1)) }, clock, hr1, hc1, ?_, ?_, hch _ _ hb1⟩
    · simp [Instr.entryStore, MapKept.run_getObj_map hb1, asInt, asIntOf, hidx, hmod, MapKept.run_setObj_map _ hb1, Result.andThen]
    · refine ⟨⟨es.push ⟨enc k, v, clock⟩, clock + 1, (heap_set hb1).1, stamped_push hst h3, by simp [he]⟩, ?_⟩
      have := unlike_put hu k v
      unfold mput at this
      rw [h2] at this
      simpa using this
  · have := (found_get K hu he h2 h3).2
    rw [hn] at this
    cases this
end
/-- The worlds between: four writes, one behind the other. -/
def wdS (W0 W1 W2 W3 W4 : World) (D : Nat → Bool) : World := bif D 17 then W4 else bif D 15 then W3 else bif D 14 then W2 else bif D 12 then W1 else W0
section
variable {W0 W1 W2 W3 W4 : World} {D : Nat → Bool}
theorem wdS_also {k : Nat} (h1 : 12 ≠ k) (h2 : 14 ≠ k) (h3 : 15 ≠ k) (h4 : 17 ≠ k) : wdS W0 W1 W2 W3 W4 (also D k) = wdS W0 W1 W2 W3 W4 D := by simp [wdS, also, h1, h2, h3, h4]
theorem wdS_0 (h1 : D 12 = false) (h2 : D 14 = false) (h3 : D 15 = false) (h4 : D 17 = false) : wdS W0 W1 W2 W3 W4 D = W0 := by simp [wdS, h1, h2, h3, h4]
theorem wdS_1 (h1 : D 12 = true) (h2 : D 14 = false) (h3 : D 15 = false) (h4 : D 17 = false) : wdS W0 W1 W2 W3 W4 D = W1 := by simp [wdS, h1, h2, h3, h4]
theorem wdS_2 (h2 : D 14 = true) (h3 : D 15 = false) (h4 : D 17 = false) : wdS W0 W1 W2 W3 W4 D = W2 := by simp [wdS, h2, h3, h4]
theorem wdS_3 (h3 : D 15 = true) (h4 : D 17 = false) : wdS W0 W1 W2 W3 W4 D = W3 := by simp [wdS, h3, h4]
theorem wdS_a1 (h2 : D 14 = false) (h3 : D 15 = false) (h4 : D 17 = false) : wdS W0 W1 W2 W3 W4 (also D 12) = W1 := by simp [wdS, also, h2, h3, h4]
theorem wdS_a2 (h3 : D 15 = false) (h4 : D 17 = false) : wdS W0 W1 W2 W3 W4 (also D 14) = W2 := by simp [wdS, also, h3, h4]
theorem wdS_a3 (h4 : D 17 = false) : wdS W0 W1 W2 W3 W4 (also D 15) = W3 := by simp [wdS, also, h4]
theorem wdS_a4 : wdS W0 W1 W2 W3 W4 (also D 17) = W4 := by simp [wdS, also]
end
theorem mxNat (k k' : IntKind) (a b : Nat) : Builtin.max2 (.int k (a : Int)) (.int k' (b : Int)) = pure (.int k ((max a b : Nat) : Int)) := by
  rw [mx2]
  congr 2
  split <;> omega
attribute [local go_sem] mx2 mxOp
theorem top_next (d : Gr) (ps : List Nm) (k : Nat) (hk : k < ps.length) : d.top (ps.take (k + 1)) = max (d.top (ps.take k)) (d.lev ps[k] + 1) := by
  unfold Gr.top
  rw [List.take_succ_eq_append_getElem hk, List.foldl_append]
  rfl
set_option maxHeartbeats 1000000 in
set_option maxRecDepth 100000 in
theorem enter_of (B : Nat) (d : Gr) (x : Nm) (A : Option Addr) (c : Nat) (ps : List Nm) (n : Nat) (r w : World) (h : DagR r w B d) (hr : El.str.Row r A c ps) (hf : Fine d n) (hn : n ≤ 1000) (hx : d.has x = false) :
    Calls Try.prog 39 #[ptr B, .string x, .slice A ps.length c] w fun e w' => e = .returned (.tuple #[]) ∧ DagR r w' B (d.enter x ps) ∧ Ch (three B) w w' := by
  have hlx := hr.len
  have HRR := Lib.hid h; have HXR := Lib.hid hr; have HD := Lib.hid h.to_v; have HX := Lib.hid (row_sub h.sub hr); have HF := Lib.hid hf; have HK := Lib.hid hx; clear h hr hf hx
  go_enter Try.func39, Try.ntmps39
  go_wp2_with fail
  go_loopw [6, 11] (fun l i wr => ∃ k : Nat, k ≤ ps.length ∧ i = .int .i64 k ∧ l = .int .i64 (d.top (ps.take k) : Nat) ∧ w = wr) (fun _ i _ => ps.length - (intOf i).toNat)
  case atStart => exact ⟨0, by omega, rfl, rfl, rfl⟩
  case round =>
    obtain ⟨k, hk, rfl, rfl, rfl⟩ := hrel
    by_cases hlt : k < ps.length
    · obtain ⟨a, rfl, hca⟩ := HX.out.flat_at k hlt
      have hll := HD.out.look_lv (P := Try.prog) Try.underlying50 Try.underlying30 zeroInt ps[k]
      have h2 := HD.out.cell2
      have hle : d.lev ps[k] ≤ 1000 := by have := lev_le HF.out ps[k]; have := HF.out.many; omega
      have HN := Lib.hid (top_next d ps k hlt)
      obtain ⟨lv, hlv⟩ : ∃ lv, d.lev ps[k] = lv := ⟨_, rfl⟩
      obtain ⟨tp, htp⟩ : ∃ tp, d.top (ps.take k) = tp := ⟨_, rfl⟩
      rw [hlv] at hll hle HN
      rw [htp] at HN ⊢
      clear hlv htp
      go_wp2_with fail
      go_roundw
      case rel => exact ⟨k + 1, by omega, by go_num, by rw [HN.out]; congr 1; split <;> omega, trivial⟩
      case measure => simp [intOf]; omega
    · have HT : Hid (d.top (ps.take k) = d.top ps) := Lib.hid (by rw [List.take_of_length_le (by omega)])
      rw [HT.out]
      go_wp2_with fail
      refine wp_world (fun X => Hid (Ch no w X)) (Lib.hid (Ch.refl no w)) ?_
      intro W HW
      have HC0 : Hid (Ch no w W.drew) := Lib.hid HW.out.drew
      have HD0 : Hid (DagV W.drew B d) := Lib.hid (HD.out.ch HC0.out)
      obtain ⟨m1, hm1, he1⟩ := HRR.out.inm
      obtain ⟨m2, hm2, he2⟩ := HRR.out.wtm
      have hm1 := hm1.ch HC0.out (no_not _)
      have hm2 := hm2.ch HC0.out (no_not _)
      have hm3 := HD0.out.lvm
      have hn1 : mget m1 x = none := by
        rcases he1.get x with ⟨h1, _⟩ | ⟨v, q, _, h2, _⟩
        · exact h1
        · rw [get_insP] at h2
          have h3 : x ∉ d.ids := by have := HK.out; simpa [Gr.has] using this
          rw [get_none.2 h3] at h2
          cases h2
      have hn3 : mget (insL d) x = none := by
        rw [get_insL]
        have h3 : x ∉ d.ids := by have := HK.out; simpa [Gr.has] using this
        rw [get_none.2 h3]; rfl
      obtain ⟨W1, W2, st1, r1, c1, r2, v2, c2⟩ := run_entry_new strKey Try.underlying49 Try.underlying30 hm1 x hn1 zeroIds (.slice A ps.length c) 49
      have c12 := c1.same c2
      obtain ⟨W3, W4, st2, r3, c3, r4, v4, c4⟩ := run_entry_new strKey Try.underlying50 Try.underlying30 (hm3.ch c12 (fun h => by have h' : B + 2 = B := h; omega)) x hn3 zeroInt (.int .i64 (d.top ps : Nat)) 50
      have k0 := HD0.out.cell0; have k2 := HD0.out.cell2
      have hle1 : st1 ≤ 9223372036854775807 ∨ True := .inr trivial
      have G1 := Lib.hid he1; have G2 := Lib.hid hm2; have G3 := Lib.hid he2; have G4 := Lib.hid v2; have G5 := Lib.hid c12; have G6 := Lib.hid v4; have G7 := Lib.hid (c3.same c4)
      have hcut : Hid (∃ w5, (Builtin.delete_ #[49, 30] 0 #[.map (some (B + 1)), .string x]).run Try.prog W4 = .ok (.tuple #[]) w5 ∧ DagR r w5 B (d.enter x ps) ∧ Ch (three B) w w5 ∧ W4.cell? ⟨B + 3, 1, none⟩ = some (.map (some (B + 1)))) := Lib.hid (by
        have c14 : Ch (fun k => k = B ∨ k = B + 2) W.drew W4 := ((c12.mono (fun _ h => .inl h)).same ((c3.same c4).mono (fun _ h => .inr h)))
        have hw4 : MapV Value.string W4 (B + 1) m2 := hm2.ch c14 (by rintro (h | h) <;> omega)
        obtain ⟨w5, r5, v5, c5⟩ := run_del strKey Try.underlying49 Try.underlying30 hw4 x 30 0
        have c15 : Ch (three B) W.drew w5 := (c14.mono (T := three B) (fun k h => by rcases h with h | h; exact .inl h; exact .inr (.inr h))).same (c5.mono (fun k h => .inr (.inl h)))
        have hmaps := HD0.out.maps
        refine ⟨w5, r5, ⟨c15.blk HD0.out.box (by rintro (h | h | h) <;> omega), ⟨_, (v2.ch (c3.same c4) (fun h => by have h' : B = B + 2 := h; omega)).ch c5 (fun h => by have h' : B = B + 1 := h; omega), ?_⟩, ⟨_, v5, ?_⟩, ?_, sub_maps (sub_ch HRR.out.sub HC0.out (fun k h => h.elim)) hmaps c15⟩, ?_⟩
        · have h1 := he1.snoc (x := x) (v := .slice A ps.length c) (ps := ps) ⟨A, c, rfl, HXR.out⟩
          have e : insP (d.enter x ps) = insP d ++ [(x, ps)] := by unfold insP Gr.enter; simp
          rw [e]; exact h1
        · exact he2.del x
        · have h1 := v4.ch c5 (fun h => by have h' : B + 2 = B + 1 := h; omega)
          have e : insL (d.enter x ps) = insL d ++ [(x, .int .i64 (d.top ps : Nat))] := by unfold insL Gr.enter; simp
          rw [e]; exact h1
        · exact ⟨(HC0.out.mono (T := three B) (fun _ h => h.elim)).same c15, (bCell (c14.blk HD0.out.box (by rintro (h | h) <;> omega)) 1).trans rfl⟩)
      clear hm1 he1 hm2 he2 hm3 v2 v4 c12 c1 c2 c3 c4 hn1 hn3
      obtain ⟨tp, htp⟩ : ∃ tp, d.top ps = tp := ⟨_, rfl⟩
      rw [htp] at r4 ⊢
      clear htp G4 G5 G6 G7 G1 G2 G3 HT
      refine wp_region_fixed (fun i => [ptr B, .pointer (some ⟨B + 3, 0, none⟩), .pointer (some ⟨B + 3, 0, none⟩), .map (some B), .string x, ptr B, .pointer (some ⟨B + 3, 0, none⟩), .pointer (some ⟨B + 3, 2, none⟩), .map (some (B + 2)), .string x, .slice A ps.length c, .int .i64 (tp : Nat), .tuple #[.slice none 0 0, .int .i64 (st1 : Nat)], .int .i64 (st1 : Nat), undef, .tuple #[.int .i64 0, .int .i64 (st2 : Nat)], .int .i64 (st2 : Nat), undef].getD i undef)
        (wdS W.drew W1 W2 W3 W4) (by kernel_rfl) (by kernel_rfl) rfl ?obl ?fin
      case obl =>
        simp only [OblsF, and_true]
        refine ⟨?_, ?_, ?_, ?_, ?_, ?_, ?_, ?_, ?_, ?_, ?_, ?_, ?_, ?_, ?_, ?_, ?_, ?_⟩
        · intro D hcl hk hd
          rw [wdS_also (by omega) (by omega) (by omega) (by omega)]
          generalize wdS W.drew W1 W2 W3 W4 D = X
          clear hcl hk hd
          simp only [fill, List.setIfInBounds_toArray, List.set_cons_zero, List.set_cons_succ]
          go_wp2_with fail
          exact ⟨rfl, rfl, fun _ => rfl, rfl⟩
        · intro D hcl hk hd
          rw [wdS_also (by omega) (by omega) (by omega) (by omega)]
          generalize wdS W.drew W1 W2 W3 W4 D = X
          clear hcl hk hd
          simp only [fill, List.setIfInBounds_toArray, List.set_cons_zero, List.set_cons_succ]
          go_wp2_with fail
          exact ⟨rfl, rfl, fun _ => rfl, rfl⟩
        · intro D hcl hk hd
          rw [wdS_also (by omega) (by omega) (by omega) (by omega)]
          generalize wdS W.drew W1 W2 W3 W4 D = X
          clear hcl hk hd
          simp only [fill, List.setIfInBounds_toArray, List.set_cons_zero, List.set_cons_succ]
          go_wp2_with fail
          exact ⟨rfl, rfl, fun _ => rfl, rfl⟩
        · intro D hcl hk hd
          have e12 := hcl.no 12 3 (by kernel_rfl) hk
          have e14 := hcl.no 14 12 (by kernel_rfl) e12
          have e15 := hcl.no 15 14 (by kernel_rfl) e14
          have e17 := hcl.no 17 15 (by kernel_rfl) e15
          rw [wdS_also (by omega) (by omega) (by omega) (by omega), wdS_0 e12 e14 e15 e17]
          clear hcl hk hd e12 e14 e15 e17
          simp only [fill, List.setIfInBounds_toArray, List.set_cons_zero, List.set_cons_succ]
          go_wp2_with fail
          exact ⟨rfl, rfl, fun _ => rfl, rfl⟩
        · intro D hcl hk hd
          rw [wdS_also (by omega) (by omega) (by omega) (by omega)]
          generalize wdS W.drew W1 W2 W3 W4 D = X
          clear hcl hk hd
          simp only [fill, List.setIfInBounds_toArray, List.set_cons_zero, List.set_cons_succ]
          go_wp2_with fail
          exact ⟨rfl, rfl, fun _ => rfl, rfl⟩
        · intro D hcl hk hd
          rw [wdS_also (by omega) (by omega) (by omega) (by omega)]
          generalize wdS W.drew W1 W2 W3 W4 D = X
          clear hcl hk hd
          simp only [fill, List.setIfInBounds_toArray, List.set_cons_zero, List.set_cons_succ]
          go_wp2_with fail
          exact ⟨rfl, rfl, fun _ => rfl, rfl⟩
        · intro D hcl hk hd
          rw [wdS_also (by omega) (by omega) (by omega) (by omega)]
          generalize wdS W.drew W1 W2 W3 W4 D = X
          clear hcl hk hd
          simp only [fill, List.setIfInBounds_toArray, List.set_cons_zero, List.set_cons_succ]
          go_wp2_with fail
          exact ⟨rfl, rfl, fun _ => rfl, rfl⟩
        · intro D hcl hk hd
          rw [wdS_also (by omega) (by omega) (by omega) (by omega)]
          generalize wdS W.drew W1 W2 W3 W4 D = X
          clear hcl hk hd
          simp only [fill, List.setIfInBounds_toArray, List.set_cons_zero, List.set_cons_succ]
          go_wp2_with fail
          exact ⟨rfl, rfl, fun _ => rfl, rfl⟩
        · intro D hcl hk hd
          have e12 := hcl.no 12 8 (by kernel_rfl) hk
          have e14 := hcl.no 14 12 (by kernel_rfl) e12
          have e15 := hcl.no 15 14 (by kernel_rfl) e14
          have e17 := hcl.no 17 15 (by kernel_rfl) e15
          rw [wdS_also (by omega) (by omega) (by omega) (by omega), wdS_0 e12 e14 e15 e17]
          clear hcl hk hd e12 e14 e15 e17
          simp only [fill, List.setIfInBounds_toArray, List.set_cons_zero, List.set_cons_succ]
          go_wp2_with fail
          exact ⟨rfl, rfl, fun _ => rfl, rfl⟩
        · intro D hcl hk hd
          rw [wdS_also (by omega) (by omega) (by omega) (by omega)]
          generalize wdS W.drew W1 W2 W3 W4 D = X
          clear hcl hk hd
          simp only [fill, List.setIfInBounds_toArray, List.set_cons_zero, List.set_cons_succ]
          go_wp2_with fail
          exact ⟨rfl, rfl, fun _ => rfl, rfl⟩
        · intro D hcl hk hd
          rw [wdS_also (by omega) (by omega) (by omega) (by omega)]
          generalize wdS W.drew W1 W2 W3 W4 D = X
          clear hcl hk hd
          simp only [fill, List.setIfInBounds_toArray, List.set_cons_zero, List.set_cons_succ]
          go_wp2_with fail
          exact ⟨rfl, rfl, fun _ => rfl, rfl⟩
        · intro D hcl hk hd
          rw [wdS_also (by omega) (by omega) (by omega) (by omega)]
          generalize wdS W.drew W1 W2 W3 W4 D = X
          clear hcl hk hd
          simp only [fill, List.setIfInBounds_toArray, List.set_cons_zero, List.set_cons_succ]
          go_wp2_with fail
          exact ⟨rfl, rfl, fun _ => rfl, rfl⟩
        · intro D hcl hk hd
          have e14 := hcl.no 14 12 (by kernel_rfl) hk
          have e15 := hcl.no 15 14 (by kernel_rfl) e14
          have e17 := hcl.no 17 15 (by kernel_rfl) e15
          rw [wdS_0 hk e14 e15 e17, wdS_a1 e14 e15 e17]
          clear hcl hk hd e14 e15 e17
          simp only [fill, List.setIfInBounds_toArray, List.set_cons_zero, List.set_cons_succ]
          go_wp2_with fail
          exact ⟨rfl, rfl, fun _ => rfl, rfl⟩
        · intro D hcl hk hd
          rw [wdS_also (by omega) (by omega) (by omega) (by omega)]
          generalize wdS W.drew W1 W2 W3 W4 D = X
          clear hcl hk hd
          simp only [fill, List.setIfInBounds_toArray, List.set_cons_zero, List.set_cons_succ]
          go_wp2_with fail
          exact ⟨rfl, rfl, fun _ => rfl, rfl⟩
        · intro D hcl hk hd
          have e12 := hd ⟨12, .chain⟩ (by simp) rfl
          have e15 := hcl.no 15 14 (by kernel_rfl) hk
          have e17 := hcl.no 17 15 (by kernel_rfl) e15
          rw [wdS_1 e12 hk e15 e17, wdS_a2 e15 e17]
          clear hcl hk hd e12 e15 e17
          simp only [fill, List.setIfInBounds_toArray, List.set_cons_zero, List.set_cons_succ]
          go_wp2_with fail
          exact ⟨rfl, rfl, fun h => absurd rfl h, rfl⟩
        · intro D hcl hk hd
          have e14 := hd ⟨14, .chain⟩ (by simp) rfl
          have e17 := hcl.no 17 15 (by kernel_rfl) hk
          rw [wdS_2 e14 hk e17, wdS_a3 e17]
          clear hcl hk hd e14 e17
          simp only [fill, List.setIfInBounds_toArray, List.set_cons_zero, List.set_cons_succ]
          go_wp2_with fail
          exact ⟨rfl, rfl, fun _ => rfl, rfl⟩
        · intro D hcl hk hd
          rw [wdS_also (by omega) (by omega) (by omega) (by omega)]
          generalize wdS W.drew W1 W2 W3 W4 D = X
          clear hcl hk hd
          simp only [fill, List.setIfInBounds_toArray, List.set_cons_zero, List.set_cons_succ]
          go_wp2_with fail
          exact ⟨rfl, rfl, fun _ => rfl, rfl⟩
        · intro D hcl hk hd
          have e15 := hd ⟨15, .chain⟩ (by simp) rfl
          rw [wdS_3 e15 hk, wdS_a4]
          clear hcl hk hd e15
          simp only [fill, List.setIfInBounds_toArray, List.set_cons_zero, List.set_cons_succ]
          go_wp2_with fail
          exact ⟨rfl, rfl, fun h => absurd rfl h, rfl⟩
      case fin =>
        simp only [fill, List.setIfInBounds_toArray, List.set_cons_zero, List.set_cons_succ]
        show Exit.then _ _ Exit.normal _ W4
        obtain ⟨w5, hd5, hv5, hc5, kw4⟩ := hcut.out
        have HV := Lib.hid hv5; have HC := Lib.hid hc5; clear hv5 hc5 hcut
        clear r1 r2 r3 r4
        go_wp2_with fail
        go_end0
        exact ⟨rfl, HV.out, HC.out⟩
end Go.Proofs.Ytlmcbmgdhpoedaa.Dd

/- A list of ids, sorted, each once: walked. -/
import Derived.Test.YtlmcbmgdhpoedaaDf
namespace Go.Proofs.Ytlmcbmgdhpoedaa.Dg
open Go Go.RowKit Go.Sort Go.Shelf Go.Proofs.Ytlmcbmgdhpoedaa.Aa Go.Proofs.Ytlmcbmgdhpoedaa.Vw Go.Proofs.Ytlmcbmgdhpoedaa.Mp Go.Proofs.Ytlmcbmgdhpoedaa.Mj Go.Proofs.Ytlmcbmgdhpoedaa.Da Go.Proofs.Ytlmcbmgdhpoedaa.Db Go.Proofs.Ytlmcbmgdhpoedaa.Dc Go.Proofs.Ytlmcbmgdhpoedaa.De Go.Proofs.Ytlmcbmgdhpoedaa.Df
attribute [local go_sem] Oper.semAt_some
set_option linter.unusedVariables false
set_option linter.unusedSimpArgs false

/-- What lay there lies there. -/
def Ab (w0 w : World) : Prop := ∀ k, k < w0.heap.size → w.heap[k]? = w0.heap[k]?
theorem Ab.of_ch {w w' : World} (h : Ch no w w') : Ab w w' := fun k hk => h.block k hk (no_not k)
theorem Ab.next {U : Nat → Prop} {w0 w w' : World} (h : Ab w0 w) (hs : w0.heap.size ≤ w.heap.size) (hc : Ch U w w') (hU : ∀ k, U k → w0.heap.size ≤ k) : Ab w0 w' :=
  fun k hk => (hc.block k (by omega) (fun hu => by have := hU k hu; omega)).trans (h k hk)
theorem Ab.cell {w0 w : World} (h : Ab w0 w) {a : Addr} {v : Value} (hc : w0.cell? a = some v) : w.cell? a = some v := by
  have hlt := World.block_lt_of_cell? w0 a hc
  unfold World.cell? at hc ⊢
  rw [h _ hlt]
  exact hc
/-- Between two rounds. -/
structure VI (w0 wr : World) (J : List Nm → World → Prop) (pre : List Nm) : Prop where
  j : J pre wr
  ab : Ab w0 wr
  sz : w0.heap.size ≤ wr.heap.size

set_option maxRecDepth 100000 in
set_option maxHeartbeats 4000000 in
theorem values_iter (n b : Nat) (U : Nat → Prop) (A : Option Addr) (c : Nat) (ps : List Nm) (w0 w : World) (h0 : Ch no w0 w) (hblk : w0.heap[b]? = some (.cells #[.slice A ps.length c] 27 (0, 0))) (hr : El.str.Row w0 A c ps) (hU : ∀ k, U k → w0.heap.size ≤ k) :
    Iter Fence.wide n Try.prog 54 #[.pointer (some ⟨b, 0, none⟩)] (fun x : ByteArray => #[.string x]) no U ps w := by
  intro l J W hW hJ hY hJ0
  refine callsIn_wide.2 ?_
  have hlx := hr.len
  have hc0 := (bCell (hW.blk (h0.blk hblk (no_not _)) (no_not _)) 0).trans rfl
  have HY := Lib.hid hY; have HU := Lib.hid hU; have HX := Lib.hid hr
  have HI : Hid (VI w0 W J (ps.take 0)) := Lib.hid ⟨hJ0, Ab.of_ch (h0.then_ hW), (h0.then_ hW).size⟩
  clear hJ hY hU hblk hW hJ0 h0 hr
  go_enter Try.func54, Try.ntmps54
  go_wp2_with fail
  go_loopw [7] (fun i wr => ∃ k : Nat, k ≤ ps.length ∧ i = .int .i64 k ∧ Hid (VI w0 wr J (ps.take k))) (fun i _ => ps.length - (intOf i).toNat)
  case atStart => exact ⟨0, by omega, rfl, HI⟩
  case round =>
    clear HI
    obtain ⟨k, hk, rfl, HI⟩ := hrel
    by_cases hlt : k < ps.length
    · obtain ⟨a, rfl, hca'⟩ := HX.out.flat_at k hlt
      have hca := HI.out.ab.cell hca'
      have hxs : ps = ps.take k ++ ps[k] :: ps.drop (k + 1) := by rw [List.getElem_cons_drop hlt, List.take_append_drop]
      obtain ⟨fn, tmps, assign, body, hy, hR⟩ := HY.out (ps.take k) ps[k] wr HI.out.j ⟨_, hxs⟩
      clear hxs hca'
      go_upto_region 3 with (fail)
      refine (wpIn_wide (n := n)).1 ?_
      gi_wp2_with fail
      refine ⟨fun h => (by simp [Fence.wide] at h), hR.mono ?_⟩
      rintro e W3 ⟨rfl, hJ3, hU3⟩
      have HJ3 := Lib.hid hJ3; have HU3 := Lib.hid hU3
      clear hJ3 hU3 hR hy
      gi_wp2_with fail
      go_wp2_with fail
      refine ⟨⟨k + 1, by omega, by go_num, Lib.hid ⟨?_, HI.out.ab.next HI.out.sz HU3.out HU.out, Nat.le_trans HI.out.sz HU3.out.size⟩⟩, by simp [intOf]; omega⟩
      rw [List.take_succ_eq_append_getElem hlt]
      exact HJ3.out
    · have HT : Hid (ps.take k = ps) := Lib.hid (by rw [List.take_of_length_le (by omega)])
      go_wp2_with fail
      go_end0
      refine ⟨⟨_, rfl⟩, ?_⟩
      have := HI.out.j
      rwa [HT.out] at this
theorem values_of (A : Option Addr) (c : Nat) (ps : List Nm) (w : World) :
    Calls Try.prog 37 #[.slice A ps.length c] w fun e w' => e = .returned (.func (.func 54) #[] #[.pointer (some ⟨w.heap.size, 0, none⟩)]) ∧ w'.heap[w.heap.size]? = some (.cells #[.slice A ps.length c] 27 (0, 0)) ∧ Ch no w w' := by
  have hb := Lib.hid (al1 w (.cells #[.slice A ps.length c] 27))
  go_enter Try.func37, Try.ntmps37
  go_wp2_with fail
  go_ret
  exact ⟨rfl, hb.out, (Ch.refl no w).alloc _⟩
/-- slices.Sort at a list of the call's own. -/
theorem sort_of (B : Nat) (v : Value) (xs : List Nm) (w : World) (h : OwnS w B v xs) (hl : xs.length ≤ 1000000) :
    Calls Try.prog 53 #[v] w fun e w' => e = .returned (.tuple #[]) ∧ OwnS w' B v (srt xs) ∧ Ch (fun k => some k = v.ownBlock) w w' := by
  rcases h.2 with ⟨rfl, hz⟩ | ⟨g, cap, cur, rfl, hbase, hg, r1, r2, r3, r4⟩
  · have hx : xs = [] := List.eq_nil_of_length_eq_zero hz
    subst hx
    refine (callsIn_wide.1 ((sortsI 1).2 none 0 w)).mono ?_
    rintro e w' ⟨rfl, rfl⟩
    exact ⟨rfl, h, Ch.refl _ _⟩
  · have e1 : xs.map Value.string = (xs.map (fun x => x.data.toList)).map encStr := (map_enc2 xs).symm
    have hH : Holds encStr w g 0 (xs.map (fun x : Nm => x.data.toList)).toArray := holds_of_block hg (by rw [List.length_map]; simpa [e1] using r4)
    have hgl : g < w.heap.size := (Array.getElem?_eq_some_iff.1 hg).1
    have hc := callsIn_wide.1 ((sortsI 1).1 g 0 cap (xs.map (fun x => x.data.toList)) w hH hgl (by rw [List.length_map]; omega))
    rw [List.length_map] at hc
    refine hc.mono ?_
    rintro e w' ⟨rfl, nn, os, rfl⟩
    have hrow := ownsRow_sorted (n := nn) (os := os) (ss := xs.map (fun x => x.data.toList)) (ts := (xs.map (fun x => x.data.toList)).mergeSort (fun x y => decide (x ≤ y))) (by simp) hbase hg (by rw [List.length_map]; exact r1) r2 r3
    have hrow2 := row_sorted (List.Perm.refl _) hrow
    rw [List.length_map] at hrow2
    exact ⟨rfl, hrow2, grown_ch (grownBy_sorted _)⟩
set_option maxHeartbeats 1000000 in
theorem sortedV_of (b : Nat) (A : Option Addr) (c : Nat) (ps : List Nm) (w : World) (hblk : w.heap[b]? = some (.cells #[.slice A ps.length c] 27 (0, 0))) (hr : El.str.Row w A c ps) (hl : ps.length ≤ 1000000) :
    Calls Try.prog 36 #[.func (.func 54) #[] #[.pointer (some ⟨b, 0, none⟩)]] w fun e w' => ∃ v, e = .returned v ∧ OwnS w' w.heap.size v (srt ps) ∧ Ch no w w' := by
  have HB := Lib.hid hblk; have HX := Lib.hid hr; clear hblk hr
  go_enter Try.func36, Try.ntmps36
  go_wp2_with fail
  refine (collect_of 54 #[.pointer (some ⟨b, 0, none⟩)] no ps w (Go.Proofs.enters_of Try.func54 (by kernel_rfl) rfl) (fun k h => h.elim) (by omega)
    (fun n U W hW hU => values_iter n b U A c ps w W hW HB.out HX.out hU)).mono ?_
  rintro e w1 ⟨v, rfl, hown, hch⟩
  have HO := Lib.hid hown; have HC := Lib.hid hch
  clear hown hch
  go_wp2_with fail
  refine (sort_of w.heap.size v ps w1 HO.out hl).mono ?_
  rintro e w2 ⟨rfl, hown, hch⟩
  have HO2 := Lib.hid hown; have HC2 := Lib.hid hch
  clear hown hch
  go_wp2_with fail
  go_ret
  exact ⟨_, rfl, HO2.out, HC.out.trans HC2.out (fun i hi (h : some i = v.ownBlock) => by have := own_ge HO.out i h.symm; omega)⟩
end Go.Proofs.Ytlmcbmgdhpoedaa.Dg

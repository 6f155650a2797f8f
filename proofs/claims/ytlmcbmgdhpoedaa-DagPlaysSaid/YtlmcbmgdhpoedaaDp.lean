/- Whether one stands on another one: walked. -/
import Derived.Test.YtlmcbmgdhpoedaaDl
import Derived.Test.YtlmcbmgdhpoedaaDn
namespace Go.Proofs.Ytlmcbmgdhpoedaa.Dp
open Go Go.RowKit Go.Proofs.Ytlmcbmgdhpoedaa.Aa Go.Proofs.Ytlmcbmgdhpoedaa.Vw Go.Proofs.Ytlmcbmgdhpoedaa.Mp Go.Proofs.Ytlmcbmgdhpoedaa.Mr Go.Proofs.Ytlmcbmgdhpoedaa.Mt Go.Proofs.Ytlmcbmgdhpoedaa.Da Go.Proofs.Ytlmcbmgdhpoedaa.Db Go.Proofs.Ytlmcbmgdhpoedaa.Dc Go.Proofs.Ytlmcbmgdhpoedaa.De Go.Proofs.Ytlmcbmgdhpoedaa.Df Go.Proofs.Ytlmcbmgdhpoedaa.Di Go.Proofs.Ytlmcbmgdhpoedaa.Dj Go.Proofs.Ytlmcbmgdhpoedaa.Dk Go.Proofs.Ytlmcbmgdhpoedaa.Dl Go.Proofs.Ytlmcbmgdhpoedaa.Dn
set_option linter.unusedVariables false
set_option linter.unusedSimpArgs false

/-- Where the closure's variables lie. -/
structure Bl where
  B : Nat
  ba : Nat
  bs : Nat
  bd : Nat
  bf : Nat
  ms : Nat
def pt (b : Nat) : Value := .pointer (some ⟨b, 0, none⟩)
/-- The closure. -/
def Bl.fn (b : Bl) : Value := .func (.func 33) #[] #[.pointer (some ⟨b.ba, 0, none⟩), .pointer (some ⟨b.bs, 0, none⟩), .pointer (some ⟨b.bd, 0, none⟩), .pointer (some ⟨b.bf, 0, none⟩)]
structure StV (w : World) (b : Bl) (a : Nm) (d : Gr) (mo : List (Nm × Value)) : Prop where
  dag : DagV w b.B d
  av : w.heap[b.ba]? = some (.cells #[.string a] 30 (0, 0))
  sv : w.heap[b.bs]? = some (.cells #[.map (some b.ms)] 54 (0, 0))
  dv : w.heap[b.bd]? = some (.cells #[ptr b.B] 25 (0, 0))
  fv : w.heap[b.bf]? = some (.cells #[b.fn] 44 (0, 0))
  seen : MapV Value.string w b.ms mo
  tr : ∀ p ∈ mo, p.2 = .bool true
  n0 : b.ms ≠ b.B
  n1 : b.ms ≠ b.B + 1
  n2 : b.ms ≠ b.B + 2
theorem cells_ne {w : World} {k j : Nat} {cs : Array Value} {t : TypeId} {m : List (Nm × Value)} (h : w.heap[k]? = some (.cells cs t (0, 0))) (hm : MapV Value.string w j m) : k ≠ j := by
  obtain ⟨es, c, hb⟩ := mapV_blk hm
  intro e
  subst e
  rw [h] at hb
  cases hb
theorem maps_one {w : World} {j : Nat} {m : List (Nm × Value)} (hm : MapV Value.string w j m) : MapsAt w (Aa.one j) := fun k (hk : k = j) => by subst hk; exact mapV_blk hm
theorem StV.step {w w' : World} {b : Bl} {a : Nm} {d : Gr} {mo mo' : List (Nm × Value)} (h : StV w b a d mo) (hc : Ch (Aa.one b.ms) w w') (hm : MapV Value.string w' b.ms mo') (ht : ∀ p ∈ mo', p.2 = .bool true) : StV w' b a d mo' :=
  ⟨h.dag.keep (maps_one h.seen) hc (fun e => h.n0 (e : b.B = b.ms).symm) (fun e => h.n1 (e : b.B + 1 = b.ms).symm) (fun e => h.n2 (e : b.B + 2 = b.ms).symm),
    hc.blk h.av (fun e => cells_ne h.av h.seen e), hc.blk h.sv (fun e => cells_ne h.sv h.seen e), hc.blk h.dv (fun e => cells_ne h.dv h.seen e), hc.blk h.fv (fun e => cells_ne h.fv h.seen e), hm, ht, h.n0, h.n1, h.n2⟩
theorem StV.ch {w w' : World} {b : Bl} {a : Nm} {d : Gr} {mo : List (Nm × Value)} (h : StV w b a d mo) (hc : Ch no w w') : StV w' b a d mo :=
  h.step (hc.mono (fun _ h => h.elim)) (h.seen.ch hc (no_not _)) h.tr
def keysOf (mo : List (Nm × Value)) : List Nm := mo.map (·.1)
theorem StV.look {w : World} {b : Bl} {a : Nm} {d : Gr} {mo : List (Nm × Value)} (h : StV w b a d mo) (x : Nm) :
    (Instr.lookup 54 (.map (some b.ms)) (.string x) false).run Try.prog w = .ok (.bool (decide (x ∈ keysOf mo))) w := by
  have hz : (zeroValue 4).run Try.prog w = .ok (.bool false) w := by kernel_rfl
  have hr := run_get strKey Try.underlying54 Try.underlying30 h.seen x false hz
  rw [hr]
  cases hg : mget mo x with
  | none =>
    have : x ∉ keysOf mo := fun hx => by
      obtain ⟨p, hp, he⟩ := List.mem_map.1 hx
      exact mget_none.1 hg p hp he
    rw [decide_eq_false this]; rfl
  | some v =>
    have hm := mget_some_mem hg
    have : x ∈ keysOf mo := List.mem_map.2 ⟨_, hm, rfl⟩
    rw [decide_eq_true this]
    have := h.tr _ hm
    simp only at this
    rw [this]; rfl

/-! What the search finds. -/
structure Dfs (d : Gr) (a : Nm) (ps K K' : List Nm) (r : Bool) : Prop where
  sub : ∀ u ∈ K, u ∈ K'
  na : a ∉ K'
  yes : r = true → ∃ x ∈ ps, d.Reach x a
  no : r = false → (∀ x ∈ ps, x ∈ K') ∧ ∀ u ∈ K', u ∉ K → ∀ p ∈ d.par u, p ∈ K'
theorem Dfs.start {d : Gr} {a : Nm} {K : List Nm} (h : a ∉ K) : Dfs d a [] K K false := ⟨fun _ h => h, h, fun h => (by cases h), fun _ => ⟨by simp, fun u h1 h2 => absurd h1 h2⟩⟩
theorem Dfs.next {d : Gr} {a x : Nm} {ps K K1 K2 : List Nm} {r : Bool} (h : Dfs d a ps K K1 false) (h1 : Dfs d a [x] K1 K2 r) : Dfs d a (ps ++ [x]) K K2 r := by
  refine ⟨fun u hu => h1.sub u (h.sub u hu), h1.na, fun hr => ?_, fun hr => ?_⟩
  · obtain ⟨y, hy, h2⟩ := h1.yes hr
    exact ⟨y, List.mem_append_right _ hy, h2⟩
  · obtain ⟨h2, h3⟩ := h.no rfl
    obtain ⟨h4, h5⟩ := h1.no hr
    refine ⟨fun y hy => ?_, fun u hu hn p hp => ?_⟩
    · rcases List.mem_append.1 hy with hy | hy
      · exact h1.sub y (h2 y hy)
      · exact h4 y hy
    · by_cases hu1 : u ∈ K1
      · exact h1.sub p (h3 u hu1 hn p hp)
      · exact h5 u hu hu1 p hp
theorem Dfs.last {d : Gr} {a x : Nm} {ps qs K K1 K2 : List Nm} (h : Dfs d a ps K K1 false) (h1 : Dfs d a [x] K1 K2 true) (hx : x ∈ qs) : Dfs d a qs K K2 true := by
  refine ⟨fun u hu => h1.sub u (h.sub u hu), h1.na, fun _ => ?_, fun hr => by cases hr⟩
  obtain ⟨y, hy, h2⟩ := h1.yes rfl
  simp only [List.mem_singleton] at hy
  subst hy
  exact ⟨y, hx, h2⟩
/-- One is looked at that was not seen. -/
theorem Dfs.node {d : Gr} {a x : Nm} {K K1 K2 : List Nm} {r : Bool} (hx : x ≠ a) (hk : ∀ u, u ∈ K1 ↔ (u = x ∨ u ∈ K)) (h : Dfs d a (d.par x) K1 K2 r) : Dfs d a [x] K K2 r := by
  refine ⟨fun u hu => h.sub u ((hk u).2 (.inr hu)), h.na, fun hr => ?_, fun hr => ?_⟩
  · obtain ⟨p, hp, h2⟩ := h.yes hr
    exact ⟨x, by simp, .step hp h2⟩
  · obtain ⟨h2, h3⟩ := h.no hr
    refine ⟨fun y hy => ?_, fun u hu hn p hp => ?_⟩
    · simp only [List.mem_singleton] at hy
      subst hy
      exact h.sub y ((hk y).2 (.inl rfl))
    · by_cases hux : u = x
      · subst hux; exact h2 p hp
      · exact h3 u hu (fun h4 => by rcases (hk u).1 h4 with h4 | h4; exact hux h4; exact hn h4) p hp
/-- From nothing seen: it tells the truth. -/
theorem Dfs.top {d : Gr} {a b : Nm} {K : List Nm} {r : Bool} (h : Dfs d a [b] [] K r) : r = true ↔ d.Reach b a := by
  constructor
  · intro hr
    obtain ⟨x, hx, h2⟩ := h.yes hr
    simp only [List.mem_singleton] at hx
    subst hx; exact h2
  · intro hR
    cases r with
    | true => rfl
    | false =>
      exfalso
      obtain ⟨h1, h2⟩ := h.no rfl
      have hall : ∀ x y, d.Reach x y → x ∈ K → y ∈ K := by
        intro x y hxy
        induction hxy with
        | refl x => exact fun h => h
        | step hp _ ih => exact fun hx => ih (h2 _ hx (by simp) _ hp)
      exact h.na (hall b a hR (h1 b (by simp)))
/-- How many are not seen. -/
def un (U K : List Nm) : Nat := (U.filter (fun u => decide (u ∉ K))).length
theorem un_le {U K K' : List Nm} (h : ∀ u ∈ K, u ∈ K') : un U K' ≤ un U K := by
  unfold un
  induction U with
  | nil => simp
  | cons u r ih =>
    rw [List.filter_cons, List.filter_cons]
    by_cases h1 : u ∈ K
    · have h2 := h u h1
      simpa [h1, h2] using ih
    · by_cases h2 : u ∈ K'
      · simp only [h1, h2, not_true_eq_false, not_false_eq_true, decide_false, decide_true, Bool.false_eq_true, ite_false, ite_true, List.length_cons]
        omega
      · simp only [h1, h2, not_false_eq_true, decide_true, ite_true, List.length_cons]
        omega
theorem un_lt {U K K' : List Nm} (h : ∀ u ∈ K, u ∈ K') {x : Nm} (hx : x ∈ U) (h1 : x ∉ K) (h2 : x ∈ K') : un U K' < un U K := by
  unfold un
  induction U with
  | nil => simp at hx
  | cons u r ih =>
    rw [List.filter_cons, List.filter_cons]
    have hle := un_le (U := r) h
    unfold un at hle
    rcases List.mem_cons.1 hx with rfl | hx
    · simp only [h1, h2, not_true_eq_false, not_false_eq_true, decide_false, decide_true, Bool.false_eq_true, ite_false, ite_true, List.length_cons]
      omega
    · have := ih hx
      by_cases h3 : u ∈ K
      · have h4 := h u h3
        simpa [h3, h4] using this
      · by_cases h4 : u ∈ K'
        · simp only [h3, h4, not_true_eq_false, not_false_eq_true, decide_false, decide_true, Bool.false_eq_true, ite_false, ite_true, List.length_cons]
          omega
        · simp only [h3, h4, not_false_eq_true, decide_true, ite_true, List.length_cons]
          omega
/-- The closure does its work, where at most n are not seen. -/
def Stands (b : Bl) (a : Nm) (d : Gr) (U : List Nm) (n : Nat) : Prop :=
  ∀ (x : Nm) (w : World) (mo : List (Nm × Value)), x ∈ U → StV w b a d mo → a ∉ keysOf mo → un U (keysOf mo) ≤ n →
    Calls Try.prog 33 #[.string x, .pointer (some ⟨b.ba, 0, none⟩), .pointer (some ⟨b.bs, 0, none⟩), .pointer (some ⟨b.bd, 0, none⟩), .pointer (some ⟨b.bf, 0, none⟩)] w fun e w' =>
      ∃ r mo', e = .returned (.bool r) ∧ StV w' b a d mo' ∧ Ch (Aa.one b.ms) w w' ∧ Dfs d a [x] (keysOf mo) (keysOf mo') r
set_option maxRecDepth 100000 in
set_option maxHeartbeats 4000000 in
theorem index_of (b : Bl) (a : Nm) (d : Gr) (U : List Nm) (n : Nat) (IH : Stands b a d U n) (A : Option Addr) (c : Nat) (ps : List Nm) (w : World) (mo : List (Nm × Value)) (hr : El.str.Row w A c ps) (hU : ∀ p ∈ ps, p ∈ U) (h : StV w b a d mo) (ha : a ∉ keysOf mo) (hn : un U (keysOf mo) ≤ n) :
    Calls Try.prog 51 #[.slice A ps.length c, b.fn] w fun e w' => ∃ (i : Int) (r : Bool) (mo' : List (Nm × Value)), e = .returned (.int .i64 i) ∧ (0 ≤ i ↔ r = true) ∧ StV w' b a d mo' ∧ Ch (Aa.one b.ms) w w' ∧ Dfs d a ps (keysOf mo) (keysOf mo') r := by
  have hlx := hr.len
  have HX := Lib.hid hr; have HU := Lib.hid hU; have HS := Lib.hid h; have HA := Lib.hid ha; have HN := Lib.hid hn; have HIH := Lib.hid IH
  clear hr hU h ha hn IH
  unfold Bl.fn
  go_enter Try.func51, Try.ntmps51
  go_wp2_with fail
  go_loopw [8] (fun i wr => ∃ (k : Nat) (mo' : List (Nm × Value)), k ≤ ps.length ∧ i = .int .i64 k ∧ Hid (StV wr b a d mo') ∧ Hid (Ch (Aa.one b.ms) w wr) ∧ Hid (Dfs d a (ps.take k) (keysOf mo) (keysOf mo') false)) (fun i _ => ps.length - (intOf i).toNat)
  case atStart => exact ⟨0, mo, by omega, rfl, HS, Lib.hid (Ch.refl _ _), Lib.hid (Dfs.start HA.out)⟩
  case round =>
    obtain ⟨k, mo1, hk, rfl, HS1, HC1, HD1⟩ := hrel
    by_cases hlt : k < ps.length
    · have HR := Lib.hid (row_keep (maps_one HS.out.seen) HC1.out HX.out)
      obtain ⟨ad, rfl, hca⟩ := HR.out.flat_at k hlt
      have HUK : Hid (ps[k] ∈ U) := Lib.hid (HU.out _ (List.getElem_mem _))
      have HPK : Hid (ps[k] ∈ ps) := Lib.hid (List.getElem_mem _)
      have HPT : Hid (ps.take (k + 1) = ps.take k ++ [ps[k]]) := Lib.hid (List.take_succ_eq_append_getElem hlt)
      obtain ⟨x, hx⟩ : ∃ x, ps[k] = x := ⟨_, rfl⟩
      rw [hx] at hca HUK HPK HPT
      clear hx
      go_wp2_with fail
      refine (HIH.out x wr mo1 HUK.out HS1.out HD1.out.na (Nat.le_trans (un_le HD1.out.sub) HN.out)).mono ?_
      rintro e w2 ⟨r, mo2, rfl, hs2, hc2, hd2⟩
      have HS2 := Lib.hid hs2; have HC2 := Lib.hid (HC1.out.same hc2)
      cases r with
      | true =>
        have HD2 := Lib.hid (HD1.out.last hd2 HPK.out)
        clear hs2 hc2 hd2
        go_wp2_with fail
        go_ret
        exact ⟨k, true, mo2, rfl, by simp, HS2.out, HC2.out, HD2.out⟩
      | false =>
        have HD2 : Hid (Dfs d a (ps.take (k + 1)) (keysOf mo) (keysOf mo2) false) := Lib.hid (by rw [HPT.out]; exact HD1.out.next hd2)
        clear hs2 hc2 hd2
        go_wp2_with fail
        go_roundw
        case rel => exact ⟨k + 1, mo2, by omega, by go_num, HS2, HC2, HD2⟩
        case measure => simp [intOf]; omega
    · have HT : Hid (ps.take k = ps) := Lib.hid (by rw [List.take_of_length_le (by omega)])
      go_wp2_with fail
      go_ret
      refine ⟨-1, false, mo1, rfl, by simp, HS1.out, HC1.out, ?_⟩
      have h1 := HD1.out
      rw [HT.out] at h1
      exact h1
end Go.Proofs.Ytlmcbmgdhpoedaa.Dp

/- The document's graph: who is in, whether all are, sorted ids, all that are in or wait: walked. -/
import Derived.Test.YtlmcbmgdhpoedaaFc
namespace Go.Proofs.Ytlmcbmgdhpoedaa.Fd
open Go Go.RowKit Go.Proofs.Ytlmcbmgdhpoedaa.Aa Go.Proofs.Ytlmcbmgdhpoedaa.Vw Go.Proofs.Ytlmcbmgdhpoedaa.Da Go.Proofs.Ytlmcbmgdhpoedaa.Db Go.Proofs.Ytlmcbmgdhpoedaa.De Go.Proofs.Ytlmcbmgdhpoedaa.Di Go.Proofs.Ytlmcbmgdhpoedaa.Ds Go.Proofs.Ytlmcbmgdhpoedaa.Du Go.Proofs.Ytlmcbmgdhpoedaa.Fa Go.Proofs.Ytlmcbmgdhpoedaa.Fb Go.Proofs.Ytlmcbmgdhpoedaa.Fc
set_option linter.unusedVariables false
set_option linter.unusedSimpArgs false

def at? (L : List Nd) (x : Nm) : Option Nd := L.find? (fun n => decide (n.id = x))
def rhas (L : List Nd) (x : Nm) : Bool := match at? L x with | some n => n.inn | none => false
def rready (L : List Nd) (ps : List Nm) : Bool := ps.all (rhas L)
theorem findN_cases (L : List Nd) (x : Nm) : (findN L x = -1 ∧ at? L x = none) ∨ ∃ (k : Nat) (hk : k < L.length), findN L x = k ∧ L[k].id = x ∧ at? L x = some L[k] := by
  unfold findN at?
  cases h : L.findIdx? (fun n => decide (n.id = x)) with
  | none =>
    left
    refine ⟨rfl, ?_⟩
    rw [List.findIdx?_eq_none_iff] at h
    rw [List.find?_eq_none]
    intro n hn
    have := h n hn
    simpa using this
  | some k =>
    right
    have h' := List.findIdx?_eq_some_iff_getElem.1 h
    obtain ⟨hk, h1, h2⟩ := h'
    refine ⟨k, hk, rfl, by simpa using h1, ?_⟩
    rw [List.find?_eq_some_iff_getElem]
    exact ⟨h1, k, hk, rfl, fun j hj => by have := h2 j hj; simpa using this⟩
theorem nd_at3 {w : World} {A : Option Addr} {cap : Nat} {t : List Nd} (h : nd.Row w A cap t) (k : Nat) (hk : k < t.length) :
    ∃ ad, A = some ad ∧ w.cell? ⟨(ad.add (k * 3)).block, (ad.add (k * 3)).off + 2, none⟩ = some (.bool t[k].inn) := by
  obtain ⟨ad, cs, rfl, ⟨A2, c2, rfl, hr⟩, h3⟩ := h.at_ k hk
  have h0 := h3 2 _ rfl
  have hz : nd.sz = 3 := rfl
  rw [hz] at h0
  refine ⟨ad, rfl, ?_⟩
  rw [← add_field ad (k * 3) 2 (by omega)]
  exact h0
set_option maxRecDepth 100000 in
set_option maxHeartbeats 4000000 in
theorem rhas_of (R : Nat) (L : List Nd) (x : Nm) (w : World) (h : RefV w R L) :
    Calls Try.prog 25 #[rptr R, .string x] w fun e w' => e = .returned (.bool (rhas L x)) ∧ w = w' := by
  obtain ⟨A, c, hb, hr⟩ := h.ex
  have hlx := hr.len
  have hc0 := (bCell hb 0).trans rfl
  have hf := find_of R L x w h
  have HX := Lib.hid hr
  clear hb hr h
  rcases findN_cases L x with ⟨h1, h2⟩ | ⟨k, hk, h1, h2, h3⟩
  · have HR : Hid (rhas L x = false) := Lib.hid (by unfold rhas; rw [h2])
    rw [h1] at hf
    clear h1 h2
    go_enter Try.func25, Try.ntmps25
    go_wp2_with fail
    refine hf.mono ?_
    rintro e w' ⟨rfl, hw⟩
    subst hw
    clear hf
    go_wp2_with fail
    go_ret
    exact ⟨by rw [HR.out]; rfl, rfl⟩
  · have HR : Hid (rhas L x = L[k].inn) := Lib.hid (by unfold rhas; rw [h3])
    rw [h1] at hf
    obtain ⟨ad, rfl, p2⟩ := nd_at3 HX.out k hk
    obtain ⟨b, hb⟩ : ∃ b, L[k].inn = b := ⟨_, rfl⟩
    rw [hb] at p2 HR
    clear h1 h2 h3 hb
    go_enter Try.func25, Try.ntmps25
    go_wp2_with fail
    refine hf.mono ?_
    rintro e w' ⟨rfl, hw⟩
    subst hw
    clear hf
    go_wp2_with fail
    go_ret
    exact ⟨by rw [HR.out]; rfl, rfl⟩
theorem rall_next (L : List Nd) (ps : List Nm) (k : Nat) (hk : k < ps.length) (h : rready L (ps.take k) = true) (hh : rhas L ps[k] = true) : rready L (ps.take (k + 1)) = true := by
  unfold rready at *
  rw [List.take_succ_eq_append_getElem hk, List.all_append, h]
  simp [hh]
set_option maxRecDepth 100000 in
set_option maxHeartbeats 4000000 in
theorem rready_of (R : Nat) (L : List Nd) (A : Option Addr) (c : Nat) (ps : List Nm) (w : World) (h : RefV w R L) (hr : El.str.Row w A c ps) :
    Calls Try.prog 43 #[rptr R, .slice A ps.length c] w fun e w' => e = .returned (.bool (rready L ps)) ∧ w = w' := by
  have hlx := hr.len
  have HD := Lib.hid h; have HX := Lib.hid hr; clear h hr
  go_enter Try.func43, Try.ntmps43
  go_wp2_with fail
  go_loopw [5] (fun i wr => ∃ k : Nat, k ≤ ps.length ∧ i = .int .i64 k ∧ Hid (rready L (ps.take k) = true) ∧ w = wr) (fun i _ => ps.length - (intOf i).toNat)
  case atStart => exact ⟨0, by omega, rfl, Lib.hid rfl, rfl⟩
  case round =>
    obtain ⟨k, hk, rfl, HE, rfl⟩ := hrel
    by_cases hlt : k < ps.length
    · obtain ⟨a, rfl, hca⟩ := HX.out.flat_at k hlt
      have hs := rhas_of R L ps[k] w HD.out
      cases hh : rhas L ps[k] with
      | true =>
        have HN := Lib.hid (rall_next L ps k hlt HE.out hh)
        rw [hh] at hs
        clear hh
        obtain ⟨y, hy⟩ : ∃ y, ps[k] = y := ⟨_, rfl⟩
        replace hca : w.cell? (a.add k) = some (.string y) := hca.trans (congrArg (fun z => some (Value.string z)) hy)
        rw [hy] at hs
        clear hy
        go_wp2_with fail
        refine hs.mono ?_
        rintro e w' ⟨rfl, hw⟩
        subst hw
        clear hs
        go_wp2_with fail
        go_roundw
        case rel => exact ⟨k + 1, by omega, by go_num, HN, trivial⟩
        case measure => simp [intOf]; omega
      | false =>
        have HN : Hid (rready L ps = false) := Lib.hid (by
          unfold rready
          rw [List.all_eq_false]
          exact ⟨ps[k], List.getElem_mem _, by rw [hh]; simp⟩)
        rw [hh] at hs
        clear hh
        obtain ⟨y, hy⟩ : ∃ y, ps[k] = y := ⟨_, rfl⟩
        replace hca : w.cell? (a.add k) = some (.string y) := hca.trans (congrArg (fun z => some (Value.string z)) hy)
        rw [hy] at hs
        clear hy
        go_wp2_with fail
        refine hs.mono ?_
        rintro e w' ⟨rfl, hw⟩
        subst hw
        clear hs
        go_wp2_with fail
        go_ret
        exact ⟨by rw [HN.out]; rfl, rfl⟩
    · have HN : Hid (rready L ps = true) := Lib.hid (by
        have := HE.out
        rwa [List.take_of_length_le (by omega)] at this)
      go_wp2_with fail
      go_ret
      exact ⟨by rw [HN.out]; rfl, rfl⟩
theorem putAll_next (l : List Nm) (k : Nat) (hk : k < l.length) : putAll [] (l.take (k + 1)) = putR (putAll [] (l.take k)) l[k] := by
  unfold putAll
  rw [List.take_succ_eq_append_getElem hk, List.foldl_append]
  rfl
theorem putAll_len (l : List Nm) : ∀ acc, (putAll acc l).length ≤ acc.length + l.length := by
  induction l with
  | nil => intro acc; simp [putAll]
  | cons y r ih =>
    intro acc
    have h1 := ih (putR acc y)
    have h2 := putR_len acc y
    show (putAll (putR acc y) r).length ≤ _
    simp only [List.length_cons]
    omega
set_option maxRecDepth 100000 in
set_option maxHeartbeats 4000000 in
theorem rsorted_of (A : Option Addr) (c : Nat) (l : List Nm) (w : World) (h : El.str.Row w A c l) (hl : l.length ≤ 1000) (hz : ∀ y ∈ l, y.size ≤ 1000) :
    Calls Try.prog 42 #[.slice A l.length c] w fun e w' => ∃ v, e = .returned v ∧ OwnS w' w.heap.size v (putAll [] l) ∧ Ch no w w' := by
  have hlx := h.len
  have HX := Lib.hid h; have HZ := Lib.hid hz
  have HO0 : Hid (OwnS w w.heap.size (.slice none 0 0) (putAll [] (l.take 0))) := Lib.hid ⟨by simp [putAll], .inl ⟨rfl, by simp [putAll]⟩⟩
  clear h hz
  go_enter Try.func42, Try.ntmps42
  go_wp2_with fail
  go_loopw [3, 4] (fun o i wr => ∃ k : Nat, k ≤ l.length ∧ i = .int .i64 k ∧ Hid (OwnS wr w.heap.size o (putAll [] (l.take k))) ∧ Hid (Ch no w wr)) (fun _ i _ => l.length - (intOf i).toNat)
  case atStart => exact ⟨0, by omega, rfl, HO0, Lib.hid (Ch.refl _ _)⟩
  case round =>
    clear HO0
    obtain ⟨k, hk, rfl, HO, HC⟩ := hrel
    by_cases hlt : k < l.length
    · obtain ⟨ad, rfl, p0⟩ := (HX.out.ch HC.out).flat_at k hlt
      have HN := Lib.hid (putAll_next l k hlt)
      have hpl := putAll_len (l.take k) []
      rw [List.length_take, Nat.min_eq_left (by omega)] at hpl
      have hpz : ∀ y ∈ putAll [] (l.take k), y.size ≤ 1000 := fun y hy => by
        rcases (mem_putAll (l.take k) []).1 hy with h | h
        · simp at h
        · exact HZ.out y (List.mem_of_mem_take h)
      obtain ⟨A0, c0, ho0⟩ := own_shape HO.out
      subst ho0
      have hs := put_of A0 c0 (putAll [] (l.take k)) l[k] wr (row_of_own HO.out) (by simp only [List.length_nil] at hpl; omega) hpz (HZ.out _ (List.getElem_mem _))
      rw [← HN.out] at hs
      clear hpl hpz
      obtain ⟨y, hy⟩ : ∃ y, l[k] = y := ⟨_, rfl⟩
      replace p0 : wr.cell? (ad.add k) = some (.string y) := p0.trans (congrArg (fun z => some (Value.string z)) hy)
      rw [hy] at hs
      clear hy
      go_wp2_with fail
      refine hs.mono ?_
      rintro e w2 ⟨v2, rfl, ho2, hc2⟩
      have HO2 : Hid (OwnS w2 w.heap.size v2 (putAll [] (l.take (k + 1)))) := Lib.hid (own_less ho2 HC.out.size)
      have HC2 := Lib.hid (HC.out.then_ hc2)
      clear ho2 hc2 hs
      go_wp2_with fail
      go_roundw
      case rel => exact ⟨k + 1, by omega, by go_num, HO2, HC2⟩
      case measure => simp [intOf]; omega
    · have HT : Hid (l.take k = l) := Lib.hid (by rw [List.take_of_length_le (by omega)])
      have h1 := HO.out
      rw [HT.out] at h1
      have HO1 := Lib.hid h1
      clear h1
      go_wp2_with fail
      go_ret
      exact ⟨_, rfl, HO1.out, HC.out⟩
end Go.Proofs.Ytlmcbmgdhpoedaa.Fd

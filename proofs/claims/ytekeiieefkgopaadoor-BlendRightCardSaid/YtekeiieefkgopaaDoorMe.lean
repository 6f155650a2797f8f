/- What is between two lists: how many lines are alike; the table of the longest common subsequences. -/
import Derived.Test.YtekeiieefkgopaaDoorMb
import Derived.Deep.DeepFit
import Derived.Shelf.Abstract
namespace Go.Proofs.YtekeiieefkgopaaDoor.Me
open Go.RowKit Go.Proofs.YtekeiieefkgopaaDoor.Aa Go.Proofs.YtekeiieefkgopaaDoor.Vw Go.Proofs.YtekeiieefkgopaaDoor.Ma Go.Proofs.YtekeiieefkgopaaDoor.Mr Go.Proofs.YtekeiieefkgopaaDoor.Mb
set_option linter.unusedVariables false
set_option linter.unusedSimpArgs false

/-- The first of n that isn't so; n, if all are. -/
def firstNot (p : Nat → Bool) : Nat → Nat
  | 0 => 0
  | n + 1 => if p 0 then firstNot (fun i => p (i + 1)) n + 1 else 0
theorem firstNot_spec (p : Nat → Bool) (n : Nat) : firstNot p n ≤ n ∧ (∀ i, i < firstNot p n → p i = true) ∧ (firstNot p n < n → p (firstNot p n) = false) := by
  induction n generalizing p with
  | zero => simp [firstNot]
  | succ n ih =>
    obtain ⟨h1, h2, h3⟩ := ih (fun i => p (i + 1))
    unfold firstNot
    cases h0 : p 0 with
    | false => simp [h0]
    | true =>
      simp only [if_true]
      refine ⟨by omega, fun i hi => ?_, fun h => h3 (by omega)⟩
      cases i with
      | zero => exact h0
      | succ i => exact h2 i (by omega)
theorem firstNot_unique (p : Nat → Bool) (n k : Nat) (h1 : k ≤ n) (h2 : ∀ i, i < k → p i = true) (h3 : k < n → p k = false) : firstNot p n = k := by
  obtain ⟨a, b, c⟩ := firstNot_spec p n
  rcases Nat.lt_trichotomy (firstNot p n) k with h | h | h
  · have := c (by omega); have := h2 _ h; simp_all
  · exact h
  · have := h3 (by omega); have := b _ h; simp_all

set_option maxRecDepth 100000 in
theorem common_any (n : Nat) (g : Nat) (he : ∀ args W, (callFunc g args).run Tryd.prog W = .ok (.enter g args) W) (caps : Array Value) (p : Nat → Bool) (w : World) (hn : n ≤ 9223372036854775807)
    (hF : ∀ (i : Nat) (W : World), i < n → Dr w W → Calls Tryd.prog g (#[.int .i64 i] ++ caps) W fun e w' => e = .returned (.bool (p i)) ∧ Dr W w') :
    Calls Tryd.prog 145 #[.int .i64 n, .func (.func g) #[] caps] w fun e w' => e = .returned (.int .i64 (firstNot p n)) ∧ Dr w w' := by
  have HF := Lib.hid hF; clear hF
  go_enter Tryd.func145, Tryd.ntmps145
  go_wp2_with fail
  go_loopw [7] (fun i wr => ∃ k : Nat, k ≤ n ∧ i = .int .i64 k ∧ Hid (∀ j, j < k → p j = true) ∧ Hid (Dr w wr)) (fun i _ => n - (intOf i).toNat)
  case atStart => exact ⟨0, by omega, rfl, fun j h => by omega, Dr.refl w⟩
  case round =>
    obtain ⟨k, hk, rfl, HA, HD⟩ := hrel
    by_cases hlt : k < n
    · go_wp2_with fail
      refine (HF.out k _ hlt HD.out).mono ?_
      cases hp : p k with
      | true =>
        rintro e w' ⟨rfl, hd⟩
        have HD2 := Lib.hid (HD.out.trans hd); clear hd
        have HA2 : Hid (∀ j, j < k + 1 → p j = true) := fun j hj => by
          rcases Nat.lt_succ_iff_lt_or_eq.1 hj with h | rfl
          · exact HA.out j h
          · exact hp
        clear hp
        go_wp2_with fail
        go_roundw
        case rel => exact ⟨k + 1, by omega, by go_num, HA2, HD2⟩
        case measure => simp [intOf]; omega
      | false =>
        rintro e w' ⟨rfl, hd⟩
        have HD2 := Lib.hid (HD.out.trans hd); clear hd
        have HK := Lib.hid (firstNot_unique p n k hk HA.out (fun _ => hp)); clear hp
        go_wp2_with fail
        go_ret
        exact ⟨by rw [HK.out]; rfl, HD2⟩
    · have HK := Lib.hid (firstNot_unique p n k hk HA.out (fun h => absurd h hlt))
      have HE := Lib.hid (show k = n by omega)
      go_wp2_with fail
      go_ret
      exact ⟨by rw [HK.out, HE.out]; rfl, HD.out⟩

theorem enters108 : ∀ args W, (callFunc 146 args).run Tryd.prog W = .ok (.enter 146 args) W := Go.Proofs.enters_of Tryd.func146 (by kernel_rfl) rfl
theorem enters109 : ∀ args W, (callFunc 147 args).run Tryd.prog W = .ok (.enter 147 args) W := Go.Proofs.enters_of Tryd.func147 (by kernel_rfl) rfl

/-- Are two lists' i-th lines one? -/
def sameAt (xs ys : List ByteArray) (i : Nat) : Bool := decide (xs[i]? = ys[i]?)
/-- .. from behind. -/
def sameEnd (xs ys : List ByteArray) (i : Nat) : Bool := decide (xs[xs.length - 1 - i]? = ys[ys.length - 1 - i]?)
theorem bytes_beq (a b : ByteArray) : (a.toList == b.toList) = decide (some a = some b) := by
  by_cases h : a = b
  · rw [beq_yes h]; simp [h]
  · rw [beq_no h]; simp [h]

set_option maxRecDepth 100000 in
theorem front_any (A B : Option Addr) (c d : Nat) (xs ys : List ByteArray) (ba bb i : Nat) (w : World) (hba : w.heap[ba]? = some (.cells #[.slice A xs.length c] 25 (0, 0))) (hbb : w.heap[bb]? = some (.cells #[.slice B ys.length d] 25 (0, 0)))
    (hx : El.str.Row w A c xs) (hy : El.str.Row w B d ys) (h1 : i < xs.length) (h2 : i < ys.length) :
    Calls Tryd.prog 146 #[.int .i64 i, .pointer (some ⟨ba, 0, none⟩), .pointer (some ⟨bb, 0, none⟩)] w fun e w' => e = .returned (.bool (sameAt xs ys i)) ∧ Dr w w' := by
  have hlx := hx.len
  have hly := hy.len
  obtain ⟨a, rfl, hca⟩ := hx.flat_at i h1
  obtain ⟨b, rfl, hcb⟩ := hy.flat_at i h2
  have ha := (bCell hba 0).trans rfl
  have hb := (bCell hbb 0).trans rfl
  have HS := Lib.hid (show (xs[i].toList == ys[i].toList) = sameAt xs ys i by rw [bytes_beq, sameAt, List.getElem?_eq_getElem h1, List.getElem?_eq_getElem h2])
  clear hx hy hba hbb
  go_enter Tryd.func146, Tryd.ntmps146
  go_wp2_with fail
  go_quiet (fail)
  go_wp2_with fail
  go_ret
  exact ⟨by rw [← HS.out]; rfl, ⟨_, rfl⟩⟩

set_option maxRecDepth 100000 in
theorem end_any (A B : Option Addr) (c d : Nat) (xs ys : List ByteArray) (ba bb i : Nat) (w : World) (hba : w.heap[ba]? = some (.cells #[.slice A xs.length c] 25 (0, 0))) (hbb : w.heap[bb]? = some (.cells #[.slice B ys.length d] 25 (0, 0)))
    (hx : El.str.Row w A c xs) (hy : El.str.Row w B d ys) (h1 : i < xs.length) (h2 : i < ys.length) :
    Calls Tryd.prog 147 #[.int .i64 i, .pointer (some ⟨ba, 0, none⟩), .pointer (some ⟨bb, 0, none⟩)] w fun e w' => e = .returned (.bool (sameEnd xs ys i)) ∧ Dr w w' := by
  have hlx := hx.len
  have hly := hy.len
  obtain ⟨a, rfl, hca⟩ := hx.flat_at (xs.length - 1 - i) (by omega)
  obtain ⟨b, rfl, hcb⟩ := hy.flat_at (ys.length - 1 - i) (by omega)
  have ha := (bCell hba 0).trans rfl
  have hb := (bCell hbb 0).trans rfl
  have HS := Lib.hid (show (xs[xs.length - 1 - i].toList == ys[ys.length - 1 - i].toList) = sameEnd xs ys i by rw [bytes_beq, sameEnd, List.getElem?_eq_getElem, List.getElem?_eq_getElem])
  clear hx hy hba hbb
  go_enter Tryd.func147, Tryd.ntmps147
  go_wp2_with fail
  go_quiet (fail)
  go_wp2_with fail
  go_ret
  exact ⟨by rw [← HS.out]; rfl, ⟨_, rfl⟩⟩

end Go.Proofs.YtekeiieefkgopaaDoor.Me

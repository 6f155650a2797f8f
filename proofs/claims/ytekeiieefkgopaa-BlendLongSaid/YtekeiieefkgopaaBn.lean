/- The document's look at trees: right; few. -/
import Derived.Test.YtekeiieefkgopaaBm
import Derived.Test.YtekeiieefkgopaaMt
namespace Go.Proofs.Ytekeiieefkgopaa.Bn
open Go.RowKit Go.Proofs.Ytekeiieefkgopaa.Aa Go.Proofs.Ytekeiieefkgopaa.Vw Go.Proofs.Ytekeiieefkgopaa.Ma Go.Proofs.Ytekeiieefkgopaa.Mb Go.Proofs.Ytekeiieefkgopaa.Mr Go.Proofs.Ytekeiieefkgopaa.Mt Go.Proofs.Ytekeiieefkgopaa.Mi Go.Proofs.Ytekeiieefkgopaa.Na Go.Proofs.Ytekeiieefkgopaa.No Go.Proofs.Ytekeiieefkgopaa.Nq Go.Proofs.Ytekeiieefkgopaa.Ba Go.Proofs.Ytekeiieefkgopaa.Bc Go.Proofs.Ytekeiieefkgopaa.Bg Go.Proofs.Ytekeiieefkgopaa.Bm
set_option linter.unusedVariables false
set_option linter.unusedSimpArgs false

/-- A tree's sizes. -/
def Szs (n : Nat) (t : List Fl) : Prop := ∀ f ∈ t, f.path.size ≤ n ∧ f.text.size ≤ n
theorem Szs.at {n : Nat} {t : List Fl} (h : Szs n t) (k : Nat) (hk : k < t.length) : t[k].path.size ≤ n ∧ t[k].text.size ≤ n := h _ (List.getElem_mem hk)
structure RightTo (t : List Fl) (k : Nat) : Prop where
  txt : ∀ j (h : j < t.length), j < k → t[j].text.size ≤ 65536
  rise : ∀ j (h : j + 1 < t.length), j + 1 < k → less t[j].path t[j + 1].path = true
theorem RightTo.next {t : List Fl} {k : Nat} (h : RightTo t k) (hk : k < t.length) (h1 : t[k].text.size ≤ 65536) (h2 : ∀ j (e : k = j + 1), less (t[j]'(by omega)).path t[k].path = true) : RightTo t (k + 1) := by
  refine ⟨fun j hj hjk => ?_, fun j hj hjk => ?_⟩
  · by_cases e : j = k
    · subst e; exact h1
    · exact h.txt j hj (by omega)
  · by_cases e : k = j + 1
    · subst e; exact h2 j rfl
    · exact h.rise j hj (by omega)
theorem RightTo.rises {t : List Fl} (h : RightTo t t.length) : Rise t := by
  have key : ∀ d i (hj : i + d + 1 < t.length), less t[i].path t[i + d + 1].path = true := by
    intro d
    induction d with
    | zero => intro i hj; exact h.rise i hj (by omega)
    | succ d ih => intro i hj; exact less_trans (ih i (by omega)) (h.rise (i + d + 1) (by omega) (by omega))
  unfold Rise
  rw [List.pairwise_iff_getElem]
  intro i j hi hj hij
  have := key (j - i - 1) i (by omega)
  have e : i + (j - i - 1) + 1 = j := by omega
  simp only [e] at this
  exact this
/-- What the look gives, if it is yes. -/
def RightP (t : List Fl) (w : World) (e : Ending) (w' : World) : Prop := ∃ b, e = .returned (.bool b) ∧ (b = true → Rise t ∧ t.length ≤ 1000 ∧ ∀ f ∈ t, f.text.size ≤ 65536) ∧ Ch no w w'

set_option maxRecDepth 100000 in
set_option maxHeartbeats 8000000 in
theorem right_of (A : Option Addr) (c : Nat) (t : List Fl) (w : World) (ht : file.Row w A c t) (hz : Szs 140737488355328 t) :
    Calls Try.prog 14 #[.slice A t.length c] w (RightP t w) := by
  have hl := ht.len
  have HT := Lib.hid ht; have HZ := Lib.hid hz
  clear ht hz
  go_enter Try.func14, Try.ntmps14
  go_wp2_with fail
  go_loopw [3] (fun i wr => ∃ k : Nat, k ≤ t.length ∧ i = .int .i64 k ∧ Hid (RightTo t k) ∧ Hid (Ch no w wr)) (fun i _ => t.length - (intOf i).toNat)
  case atStart => exact ⟨0, by omega, rfl, Lib.hid ⟨fun j h h' => by omega, fun j h h' => by omega⟩, Lib.hid (Ch.refl no w)⟩
  case round =>
    obtain ⟨k, hk, rfl, HR, HC⟩ := hrel
    by_cases hlt : k < t.length
    · obtain ⟨ad, rfl, hc0, hc1⟩ := file_at (HT.out.ch HC.out) k hlt
      have hzk := HZ.out.at k hlt
      go_wp2_with fail
      refine (path_of t[k].path wr hzk.1).mono ?_
      rintro e w1 ⟨b, rfl, hch⟩
      have HC1 := Lib.hid (HC.out.same hch)
      clear hc0 hc1 hch
      obtain ⟨ad', had, hc0, hc1⟩ := file_at (HT.out.ch HC1.out) k hlt
      obtain rfl : ad = ad' := by injection had
      clear had
      cases b with
      | false =>
        go_wp2_with fail
        go_ret
        exact ⟨_, rfl, by simp, HC1.out⟩
      | true =>
        by_cases hsz : t[k].text.size ≤ 65536
        · have hsz2 : ¬ (65536 : Int) < (t[k].text.size : Int) := by omega
          rcases Nat.eq_zero_or_pos k with hk0 | hk0
          · have HR2 := Lib.hid (HR.out.next hlt hsz (fun j e => by omega))
            have hpos : ¬ (0 : Int) < (k : Int) := by omega
            have hpos2 : ¬ 0 < k := by omega
            clear hk0
            go_wp2_with fail
            go_quiet (fail)
            go_wp2_with fail
            go_roundw
            case rel => exact ⟨k + 1, by omega, by go_num, HR2, Lib.hid (HC1.out.drewN _)⟩
            case measure => simp [intOf]; omega
          · obtain ⟨m, rfl⟩ : ∃ m, k = m + 1 := ⟨k - 1, by omega⟩
            obtain ⟨ad', had, hd0, hd1⟩ := file_at (HT.out.ch HC1.out) m (by omega)
            obtain rfl : ad = ad' := by injection had
            clear had
            have hzm := HZ.out.at m (by omega)
            have hpos : (0 : Int) < (m : Int) + 1 := by omega
            cases hle : less (t[m]'(by omega)).path t[m + 1].path with
            | true =>
              have HR2 := Lib.hid (HR.out.next hlt hsz (fun j e => by have e2 : j = m := by omega
                                                                      subst e2; exact hle))
              have hless := fun n => less_of (t[m]'(by omega)).path t[m + 1].path (w1.drewN n) (by omega) (by omega)
              rw [hle] at hless
              have HL := Lib.hid hless
              clear hless hle
              go_wp2_with fail
              go_quiet ((go_at_call 21; exact Calls.quiet_of (HL.out _)))
              go_wp2_with fail
              go_roundw
              case rel => exact ⟨m + 1 + 1, by omega, by go_num, HR2, Lib.hid (HC1.out.drewN _)⟩
              case measure => simp [intOf]; omega
            | false =>
              have hless := fun n => less_of (t[m]'(by omega)).path t[m + 1].path (w1.drewN n) (by omega) (by omega)
              rw [hle] at hless
              have HL := Lib.hid hless
              clear hless hle
              go_wp2_with fail
              go_quiet ((go_at_call 21; exact Calls.quiet_of (HL.out _)))
              go_wp2_with fail
              go_ret
              exact ⟨_, rfl, by simp, HC1.out.drewN _⟩
        · have hsz2 : (65536 : Int) < (t[k].text.size : Int) := by omega
          go_wp2_with fail
          go_ret
          exact ⟨_, rfl, by simp, HC1.out⟩
    · by_cases h1000 : (t.length : Int) ≤ 1000
      · have hr := HR.out
        obtain rfl : k = t.length := by omega
        have HRR : Hid (Rise t ∧ t.length ≤ 1000 ∧ ∀ f ∈ t, f.text.size ≤ 65536) := Lib.hid ⟨hr.rises, by omega, fun f hf => by
          obtain ⟨j, hj, rfl⟩ := List.getElem_of_mem hf
          exact hr.txt j hj hj⟩
        clear hr
        go_wp2_with fail
        go_ret
        exact ⟨_, rfl, fun _ => HRR.out, HC.out⟩
      · go_wp2_with fail
        go_ret
        exact ⟨_, rfl, by simp, HC.out⟩

end Go.Proofs.Ytekeiieefkgopaa.Bn

/- The document's graph: an id's level: walked. -/
import Derived.Test.YtlmcbmgdhpoedaaFi
namespace Go.Proofs.Ytlmcbmgdhpoedaa.Fj
open Go Go.RowKit Go.Proofs.Ytlmcbmgdhpoedaa.Aa Go.Proofs.Ytlmcbmgdhpoedaa.Vw Go.Proofs.Ytlmcbmgdhpoedaa.Da Go.Proofs.Ytlmcbmgdhpoedaa.Db Go.Proofs.Ytlmcbmgdhpoedaa.De Go.Proofs.Ytlmcbmgdhpoedaa.Di Go.Proofs.Ytlmcbmgdhpoedaa.Ds Go.Proofs.Ytlmcbmgdhpoedaa.Du Go.Proofs.Ytlmcbmgdhpoedaa.Fa Go.Proofs.Ytlmcbmgdhpoedaa.Fb Go.Proofs.Ytlmcbmgdhpoedaa.Fc Go.Proofs.Ytlmcbmgdhpoedaa.Fd Go.Proofs.Ytlmcbmgdhpoedaa.Fe Go.Proofs.Ytlmcbmgdhpoedaa.Fi
set_option linter.unusedVariables false
set_option linter.unusedSimpArgs false

def rlevel (L : List Nd) (x : Nm) : Int := if rhas L x then ((lvT L L.length (idx L x) : Nat) : Int) else -1
set_option maxRecDepth 100000 in
set_option maxHeartbeats 4000000 in
theorem rlevel_of (R : Nat) (L : List Nd) (x : Nm) (g : Nat → Nat) (w : World) (h : RefV w R L) (hg : Bd L g) (hl : L.length ≤ 1000) :
    Calls Try.prog 26 #[rptr R, .string x] w fun e w' => e = .returned (.int .i64 (rlevel L x)) ∧ Ch no w w' := by
  have HV := Lib.hid h; have HG := Lib.hid hg
  have hh := rhas_of R L x w h
  clear h hg
  rcases findN_cases L x with ⟨h1, h2⟩ | ⟨k, hk, h1, h2, h3⟩
  · have hr : rhas L x = false := by unfold rhas; rw [h2]
    have HR : Hid (rlevel L x = -1) := Lib.hid (by unfold rlevel; rw [hr]; rfl)
    rw [hr] at hh
    clear h1 h2 hr
    go_enter Try.func26, Try.ntmps26
    go_wp2_with fail
    refine hh.mono ?_
    rintro e w' ⟨rfl, hw⟩
    subst hw
    clear hh
    go_wp2_with fail
    go_ret
    exact ⟨by rw [HR.out]; rfl, Ch.refl _ _⟩
  · have hr : rhas L x = L[k].inn := by unfold rhas; rw [h3]
    have hix : idx L x = k := by unfold idx; rw [h1]; rfl
    have HR : Hid (rlevel L x = if L[k].inn then ((lvT L L.length k : Nat) : Int) else -1) := Lib.hid (by unfold rlevel; rw [hr, hix])
    rw [hr] at hh
    obtain ⟨b, hb⟩ : ∃ b, L[k].inn = b := ⟨_, rfl⟩
    rw [hb] at hh HR
    have HF := Lib.hid h1
    clear h1 h2 h3 hr hix hb
    cases b with
    | false =>
      go_enter Try.func26, Try.ntmps26
      go_wp2_with fail
      refine hh.mono ?_
      rintro e w' ⟨rfl, hw⟩
      subst hw
      clear hh
      go_wp2_with fail
      go_ret
      exact ⟨by rw [HR.out]; rfl, Ch.refl _ _⟩
    | true =>
      go_enter Try.func26, Try.ntmps26
      go_wp2_with fail
      refine hh.mono ?_
      rintro e w' ⟨rfl, hw⟩
      subst hw
      clear hh
      go_wp2_with fail
      refine (levels_of R L g w HV.out HG.out hl (by omega)).mono ?_
      rintro e w1 ⟨G, rfl, hri, hc⟩
      have hf := find_of R L x w1 (HV.out.ch hc)
      rw [HF.out] at hf
      have r0 := (hri.at_ k hk).1
      obtain ⟨f, hf2⟩ : ∃ f, lvT L L.length k = f := ⟨_, rfl⟩
      rw [hf2] at r0 HR
      have HC := Lib.hid hc
      clear hc hri hf2
      have hkk : (k : Int) < (L.length : Int) := by omega
      go_wp2_with fail
      refine hf.mono ?_
      rintro e w' ⟨rfl, hw⟩
      subst hw
      clear hf
      go_wp2_with fail
      go_ret
      exact ⟨by rw [HR.out]; rfl, HC.out⟩
end Go.Proofs.Ytlmcbmgdhpoedaa.Fj

/- Trees of bounded texts: blend.Trees; how a tree that is ours reads. -/
import Derived.Test.YtekeiieefkgopaaBk
import Derived.Test.YtekeiieefkgopaaBo
import Derived.Test.YtekeiieefkgopaaPe
namespace Go.Proofs.Ytekeiieefkgopaa.Bp
open Go.RowKit Go.Proofs.Ytekeiieefkgopaa.Aa Go.Proofs.Ytekeiieefkgopaa.Vw Go.Proofs.Ytekeiieefkgopaa.Ma Go.Proofs.Ytekeiieefkgopaa.Mb Go.Proofs.Ytekeiieefkgopaa.Mc Go.Proofs.Ytekeiieefkgopaa.Nf Go.Proofs.Ytekeiieefkgopaa.Nh Go.Proofs.Ytekeiieefkgopaa.No Go.Proofs.Ytekeiieefkgopaa.Np Go.Proofs.Ytekeiieefkgopaa.Nq Go.Proofs.Ytekeiieefkgopaa.Pd Go.Proofs.Ytekeiieefkgopaa.Pe Go.Proofs.Ytekeiieefkgopaa.Ba Go.Proofs.Ytekeiieefkgopaa.Bb Go.Proofs.Ytekeiieefkgopaa.Bi Go.Proofs.Ytekeiieefkgopaa.Bk Go.Proofs.Ytekeiieefkgopaa.Bm Go.Proofs.Ytekeiieefkgopaa.Bn Go.Proofs.Ytekeiieefkgopaa.Bo
set_option linter.unusedVariables false
set_option linter.unusedSimpArgs false

theorem fcells_get (t : List Fl) : ∀ (i : Nat) (x : Fl) (j : Nat) (c : Value), t[i]? = some x → ([.string x.path, .string x.text] : List Value)[j]? = some c → (fcells t)[i * 2 + j]? = some c := by
  induction t with
  | nil => intro i x j c h; simp at h
  | cons f t ih =>
    intro i x j c h hj
    have e : fcells (f :: t) = .string f.path :: .string f.text :: fcells t := by simp [fcells]
    rw [e]
    cases i with
    | zero =>
      have e2 : f = x := by simpa using h
      subst e2
      match j, hj with
      | 0, hj => simpa using hj
      | 1, hj => simpa using hj
      | j + 2, hj => simp at hj
    | succ i =>
      have := ih i x j c (by simpa using h) hj
      rw [show (i + 1) * 2 + j = (i * 2 + j) + 1 + 1 by omega]
      simpa using this
/-- A tree that is ours, read. -/
theorem own_row {w : World} {B : Nat} {v : Value} {t : List Fl} (h : OwnT w B v t) : ∃ A cap, v = .slice A t.length cap ∧ file.Row w A cap t := by
  obtain ⟨_, ⟨rfl, h2⟩ | ⟨g, cap, cur, rfl, _, hg, hn, hc, hs, ht⟩⟩ := h
  · refine ⟨none, 0, by rw [h2], ⟨by omega, by unfold maxLen; omega, fun _ => rfl, fun i x hx => ?_⟩⟩
    have := (List.getElem?_eq_some_iff.1 hx).1
    omega
  · refine ⟨_, cap, rfl, ⟨hn, hc, fun h => by (cases h), fun i x hx => ⟨_, [.string x.path, .string x.text], rfl, rfl, fun j c hj => ?_⟩⟩⟩
    have hz : file.sz = 2 := rfl
    rw [hz]
    have e : (Addr.add ⟨g, 0, none⟩ (i * 2 + j)) = ⟨g, i * 2 + j, none⟩ := by unfold Addr.add; split <;> simp_all
    rw [e, bCell hg]
    have h4 := fcells_get t i x j c hx hj
    rw [← ht, List.getElem?_take] at h4
    split at h4
    · rwa [Array.getElem?_toList] at h4
    · cases h4
/-- A block that holds a tree. -/
theorem row_block {W : World} {g : Nat} (t : List Fl) (h : W.heap[g]? = some (.cells (fcells t).toArray 34 (0, 0))) (hl : t.length ≤ 1000) : file.Row W (some ⟨g, 0, none⟩) t.length t := by
  have hf := fcells_len t
  have ho : OwnT W g (.slice (some ⟨g, 0, none⟩) t.length t.length) t := ⟨hf, .inr ⟨g, t.length, _, rfl, Nat.le_refl _, h, Nat.le_refl _, by unfold maxLen; omega, by simp [hf], by rw [← hf]; simp⟩⟩
  obtain ⟨A, cap, e, hr⟩ := own_row ho
  injection e with e1 e2 e3
  subst e1; subst e3
  exact hr

theorem ofF_size {n : Nat} {t : List Fl} (h : Szs n t) (p : ByteArray) : (ofF t p).text.size ≤ n := by
  unfold ofF
  cases hg : getF t p with
  | none => exact Nat.zero_le _
  | some s =>
    unfold getF at hg
    cases hf : t.find? (fun f => decide (f.path = p)) with
    | none => rw [hf] at hg; cases hg
    | some f =>
      rw [hf] at hg
      have e : f.text = s := by simpa using hg
      subst e
      exact (h f (List.mem_of_find?_eq_some hf)).2
theorem clash_any (o a b : ByteArray) (ho : o.size ≤ 1000) (ha : a.size ≤ 1000) (hb : b.size ≤ 1000) : (textOf o a b).2 ≤ 1000000 := by
  obtain ⟨r, h⟩ : ∃ r, (textOf o a b).2 = r := ⟨_, rfl⟩
  rw [h]
  simp only [textOf] at h
  have lo := split_len o.size o; have la := split_len a.size a; have lb := split_len b.size b
  have hf := (regs_ok (splitS o) (splitS a) (splitS b) (by unfold splitS; omega) (by unfold splitS; omega) (by unfold splitS; omega)).2.1
  have hc := clash_le (regionsOf (splitS o) (splitS a) (splitS b)) (regionsOf (splitS o) (splitS a) (splitS b)).length
  rw [List.take_of_length_le (Nat.le_refl _)] at hc
  unfold splitS at *
  split at h
  · simp only [] at h; omega
  · split at h
    · simp only [] at h; omega
    · split at h
      · simp only [] at h; omega
      · simp only [] at h; omega
/-- Two sides' trees, together, in memory. -/
def TreesP (o a b : List Fl) (w : World) (e : Ending) (w' : World) : Prop := ∃ A c Ad cd, e = .returned (.tuple #[.slice A (treesL o a b).1.length c, .slice Ad (treesL o a b).2.length cd]) ∧ file.Row w' A c (treesL o a b).1 ∧ El.str.Row w' Ad cd (treesL o a b).2 ∧ Ch no w w'
theorem trees_any (o a b : List Fl) (Ao Aa Ab : Option Addr) (co ca cb : Nat) (w : World) (ho : file.Row w Ao co o) (ha : file.Row w Aa ca a) (hb : file.Row w Ab cb b) (ro : Rise o) (ra : Rise a) (rb : Rise b)
    (lo : o.length ≤ 1000) (la : a.length ≤ 1000) (lb : b.length ≤ 1000) (zo : Szs 1000 o) (za : Szs 1000 a) (zb : Szs 1000 b) :
    Calls Try.prog 9 #[.slice Ao o.length co, .slice Aa a.length ca, .slice Ab b.length cb] w (TreesP o a b w) := by
  refine (trees_of o a b Ao Aa Ab co ca cb w ho ha hb ro ra rb lo la lb (fun p W => one_of _ _ _ W (fun _ _ _ W => text_any _ _ _ W (ofF_size zo p) (ofF_size za p) (ofF_size zb p)) (fun _ _ _ => clash_any _ _ _ (ofF_size zo p) (ofF_size za p) (ofF_size zb p)))).mono ?_
  rintro e w' ⟨vo, vd, rfl, h1, h2, h3⟩
  obtain ⟨A, c, rfl, hr⟩ := own_row h1
  obtain ⟨Ad, cd, rfl, hr2⟩ := El.Row.of_own h2
  exact ⟨A, c, Ad, cd, rfl, hr, hr2, h3⟩

def fx1 : Fl := ⟨⟨#[120]⟩, ⟨#[49]⟩⟩
def fy2 : Fl := ⟨⟨#[121]⟩, ⟨#[50]⟩⟩
def fx0 : Fl := ⟨⟨#[120]⟩, ⟨#[48]⟩⟩
theorem ex1 : treesL [] [fx1] [fy2] = ([fx1, fy2], []) := by decide +kernel
theorem ex2 : treesL [fx0] [fx1] [fy2] = ([fx1, fy2], [⟨#[120]⟩]) := by decide +kernel
theorem rise1 (f : Fl) : Rise [f] := by unfold Rise; simp
theorem szs1 (f : Fl) (h : f.path.size ≤ 1000) (h2 : f.text.size ≤ 1000) : Szs 1000 [f] := by intro x hx; simp at hx; subst hx; exact ⟨h, h2⟩
end Go.Proofs.Ytekeiieefkgopaa.Bp

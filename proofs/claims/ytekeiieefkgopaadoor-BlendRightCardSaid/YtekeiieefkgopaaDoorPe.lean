/- How long texts are that were put together; merge.Text at texts of up to a thousand bytes. -/
import Derived.Test.YtekeiieefkgopaaDoorPd
import Derived.Test.YtekeiieefkgopaaDoorNq
namespace Go.Proofs.YtekeiieefkgopaaDoor.Pe
open Go.RowKit Go.Proofs.YtekeiieefkgopaaDoor.Aa Go.Proofs.YtekeiieefkgopaaDoor.Mb Go.Proofs.YtekeiieefkgopaaDoor.Nh Go.Proofs.YtekeiieefkgopaaDoor.No Go.Proofs.YtekeiieefkgopaaDoor.Np Go.Proofs.YtekeiieefkgopaaDoor.Nq Go.Proofs.YtekeiieefkgopaaDoor.Pd
set_option linter.unusedVariables false

theorem split_sz (n : Nat) (s : ByteArray) : ∀ x ∈ splitN n s, x.size ≤ s.size := by
  induction n generalizing s with
  | zero => simp [splitN]
  | succ n ih =>
    intro x hx
    simp only [splitN] at hx
    split at hx
    · simp at hx
    · rcases List.mem_cons.1 hx with rfl | hx
      · simp only [ByteArray.size_extract]; omega
      · have := ih _ x hx
        simp only [ByteArray.size_extract] at this; omega
theorem fm_size (xs : List ByteArray) (K : Nat) (h : ∀ x ∈ xs, x.size ≤ K) : (joinS xs).size ≤ xs.length * K := by
  have : (xs.flatMap (·.data.toList)).length ≤ xs.length * K := by
    induction xs with
    | nil => simp
    | cons x xs ih =>
      have h1 := h x (List.mem_cons_self ..)
      have h2 := ih (fun y hy => h y (List.mem_cons_of_mem _ hy))
      simp only [List.flatMap_cons, List.length_append, List.length_cons, Nat.succ_mul]
      have : x.data.toList.length = x.size := rfl
      omega
  exact this
theorem cut_mem' {xs : List ByteArray} {f m : Int} {x : ByteArray} (h : x ∈ Mc.cutL xs f m) : x ∈ xs := Mc.cut_mem h
theorem closeL_size (s : ByteArray) : (closeL s).size ≤ s.size + 1 := by
  unfold closeL
  split
  · omega
  · rw [ByteArray.size_append]; exact Nat.le_refl _
theorem tell_size (o a b : List ByteArray) (K : Nat) (ho : ∀ x ∈ o, x.size ≤ K) (ha : ∀ x ∈ a, x.size ≤ K) (hb : ∀ x ∈ b, x.size ≤ K) (r : Mc.Reg) : ∀ x ∈ tellR o a b r, x.size ≤ K + 8 := by
  intro x hx
  unfold tellR at hx
  split at hx
  · have := hb x (cut_mem' hx); omega
  · split at hx
    · obtain ⟨l, hl, hx⟩ := List.mem_flatten.1 hx
      simp only [Mc.clashParts, List.mem_cons, List.mem_nil_iff, or_false] at hl
      rcases hl with rfl | rfl | rfl | rfl | rfl | rfl | rfl
      · rw [List.mem_singleton.1 hx]; show 8 ≤ _; omega
      · obtain ⟨y, hy, rfl⟩ := List.mem_map.1 hx; have := closeL_size y; have := ha y (cut_mem' hy); omega
      · rw [List.mem_singleton.1 hx]; show 8 ≤ _; omega
      · obtain ⟨y, hy, rfl⟩ := List.mem_map.1 hx; have := closeL_size y; have := ho y (cut_mem' hy); omega
      · rw [List.mem_singleton.1 hx]; show 8 ≤ _; omega
      · obtain ⟨y, hy, rfl⟩ := List.mem_map.1 hx; have := closeL_size y; have := hb y (cut_mem' hy); omega
      · rw [List.mem_singleton.1 hx]; show 8 ≤ _; omega
    · have := ha x (cut_mem' hx); omega
theorem text_size (o a b : List ByteArray) (hf : Fit o a b) (ho : ∀ x ∈ o, x.size ≤ 1000000) (ha : ∀ x ∈ a, x.size ≤ 1000000) (hb : ∀ x ∈ b, x.size ≤ 1000000) : (joinS (mergeL o a b)).size ≤ 140737488355328 := by
  have h1 := fm_size (mergeL o a b) 1000008 (fun x hx => by
    obtain ⟨r, _, hr⟩ := List.mem_flatMap.1 hx
    exact tell_size o a b 1000000 ho ha hb r x hr)
  have h2 := hf.len
  unfold mergeL at *
  have := Nat.mul_le_mul_right 1000008 h2
  omega
/-- Two sides' texts, together: of texts of up to a thousand bytes. -/
theorem text_any (o a b : ByteArray) (w : World) (ho : o.size ≤ 1000) (ha : a.size ≤ 1000) (hb : b.size ≤ 1000) :
    Calls Tryd.prog 84 #[.string o, .string a, .string b] w (TextP (textOf o a b) w) := by
  have lo := split_len o.size o; have la := split_len a.size a; have lb := split_len b.size b
  have so := split_sz o.size o; have sa := split_sz a.size a; have sb := split_sz b.size b
  have hf : Fit (splitS o) (splitS a) (splitS b) := fit_of _ _ _ (by unfold splitS; omega) (by unfold splitS; omega) (by unfold splitS; omega)
    (fun x hx => by have := so x hx; omega) (fun x hx => by have := sa x hx; omega) (fun x hx => by have := sb x hx; omega)
  exact text_of o a b w (by omega) (by omega) (by omega) hf (text_size _ _ _ hf (fun x hx => by have := so x hx; omega) (fun x hx => by have := sa x hx; omega) (fun x hx => by have := sb x hx; omega))


end Go.Proofs.YtekeiieefkgopaaDoor.Pe

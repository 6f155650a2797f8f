/- BlendLong: two new texts of one line each. -/
import Derived.Test.YtekeiieefkgopaaBr
import Derived.Test.YtekeiieefkgopaaBp
import Derived.Laws.IdiomStrings
import Derived.Laws.MakeOwn
import Derived.Laws.Concat
namespace Go.Proofs.Ytekeiieefkgopaa.Bt
open Go Go.RowKit Go.Proofs.Ytekeiieefkgopaa.Aa Go.Proofs.Ytekeiieefkgopaa.Vw Go.Proofs.Ytekeiieefkgopaa.Mb Go.Proofs.Ytekeiieefkgopaa.Mc Go.Proofs.Ytekeiieefkgopaa.Me Go.Proofs.Ytekeiieefkgopaa.Mg Go.Proofs.Ytekeiieefkgopaa.Mi Go.Proofs.Ytekeiieefkgopaa.Na Go.Proofs.Ytekeiieefkgopaa.Nb Go.Proofs.Ytekeiieefkgopaa.Nc Go.Proofs.Ytekeiieefkgopaa.Nf Go.Proofs.Ytekeiieefkgopaa.Nh Go.Proofs.Ytekeiieefkgopaa.No Go.Proofs.Ytekeiieefkgopaa.Np Go.Proofs.Ytekeiieefkgopaa.Nq Go.Proofs.Ytekeiieefkgopaa.Pd Go.Proofs.Ytekeiieefkgopaa.Pe Go.Proofs.Ytekeiieefkgopaa.Ba Go.Proofs.Ytekeiieefkgopaa.Bb
set_option linter.unusedVariables false
set_option linter.unusedSimpArgs false

theorem diff_one (x : ByteArray) : diffOf [] [x] = [⟨0, 0, [x]⟩] := by
  simp [diffOf, frontN, endN, firstNot, midDiff]
theorem clus_one (a b : ByteArray) : clusOf [⟨0, 0, [a]⟩] [⟨0, 0, [b]⟩] = [⟨0, 0, 1, 1, true, true⟩] := by
  simp [clusOf, clus, firstC, startAt, meets, Clu.add0, Clu.add1, Clu.take0, Clu.take1]
theorem regs_long {a b : ByteArray} (h : a ≠ b) : regionsOf [] [a] [b] = [⟨4, 0, 0, 0, 1, 0, 1⟩] := by
  unfold regionsOf
  rw [diff_one, diff_one, clus_one]
  simp [runS, stepS, regS, headS, Nf.start, kindS, kindOf, nextR, endS, cutL, h]
theorem merge_long {a b : ByteArray} (h : a ≠ b) : mergeL [] [a] [b] = [ours, closeL a, base, middle, closeL b, theirs] ∧ clashN (regionsOf [] [a] [b]) = 1 := by
  unfold mergeL clashN
  rw [regs_long h]
  constructor
  · simp [tellR, clashParts, cutL]
  · simp [isClash]

/-- One byte, again and again. -/
def rep (n : Nat) (x : UInt8) : ByteArray := ⟨(List.replicate n x).toArray⟩
theorem rep_size (n : Nat) (x : UInt8) : (rep n x).size = n := by simp [rep, ByteArray.size]
theorem idx_rep (n : Nat) (x c : UInt8) (h : x ≠ c) : Lib.indexByte (List.replicate n x) c = -1 := by
  induction n with
  | zero => rfl
  | succ n ih => simp [List.replicate_succ, Lib.indexByte, ih, h]
theorem splitN_nil (n : Nat) (s : ByteArray) (h : s.size = 0) : splitN n s = [] := by
  cases n with
  | zero => rfl
  | succ n => simp [splitN, h]
theorem split_rep (n : Nat) (x : UInt8) (hn : 0 < n) (hx : x ≠ 10) : splitS (rep n x) = [rep n x] := by
  have hi : nlAt (rep n x) = n := by
    unfold nlAt
    have : (rep n x).data.toList = List.replicate n x := by simp [rep]
    rw [this, idx_rep n x 10 hx, rep_size]
    simp
  unfold splitS
  rw [rep_size]
  obtain ⟨m, rfl⟩ : ∃ m, n = m + 1 := ⟨n - 1, by omega⟩
  rw [splitN, hi, rep_size, if_neg (by omega), splitN_nil m _ (by rw [ByteArray.size_extract, rep_size]; omega)]
  have : (rep (m + 1) x).extract 0 (m + 1) = rep (m + 1) x := by
    have e : m + 1 = (rep (m + 1) x).size := (rep_size _ _).symm
    conv => lhs; arg 3; rw [e]
    exact ByteArray.extract_zero_size
  rw [this]
theorem close_rep (n : Nat) (x : UInt8) (hn : 0 < n) (hx : x ≠ 10) : closeL (rep n x) = rep n x ++ ⟨#[10]⟩ := by
  unfold closeL
  have : endNl (rep n x) = false := by
    obtain ⟨m, rfl⟩ : ∃ m, n = m + 1 := ⟨n - 1, by omega⟩
    unfold endNl
    rw [ByteArray.toList_eq]
    simp [rep, List.getLast?_replicate, hx]
  rw [this]
  simp
theorem bin_rep (n : Nat) (x : UInt8) (hx : x ≠ 0) : binB (rep n x) = false := by
  unfold binB
  have : (rep n x).data.toList = List.replicate n x := by simp [rep]
  rw [this, idx_rep n x 0 hx]
  rfl
theorem less_rep (n m : Nat) (x y : UInt8) (hn : 0 < n) (hm : 0 < m) (h : x ≠ y) : Op.bytesLess (rep n x).toList (rep m y).toList = decide (x < y) := by
  obtain ⟨n, rfl⟩ : ∃ k, n = k + 1 := ⟨n - 1, by omega⟩
  obtain ⟨m, rfl⟩ : ∃ k, m = k + 1 := ⟨m - 1, by omega⟩
  rw [ByteArray.toList_eq, ByteArray.toList_eq]
  simp [rep, List.replicate_succ, Op.bytesLess, h]
theorem rep_ne (n m : Nat) (x y : UInt8) (hn : 0 < n) (hm : 0 < m) (h : x ≠ y) : rep n x ≠ rep m y := by
  intro e
  obtain ⟨n, rfl⟩ : ∃ k, n = k + 1 := ⟨n - 1, by omega⟩
  obtain ⟨m, rfl⟩ : ∃ k, m = k + 1 := ⟨m - 1, by omega⟩
  have := congrArg (fun s : ByteArray => s.data.toList.head?) e
  simp [rep, List.replicate_succ] at this
  exact h this
/-- The text with marks. -/
def marked (a b : ByteArray) : ByteArray := ours ++ a ++ ⟨#[10]⟩ ++ base ++ middle ++ b ++ ⟨#[10]⟩ ++ theirs
theorem join_marked (a b : ByteArray) : joinS [ours, a ++ ⟨#[10]⟩, base, middle, b ++ ⟨#[10]⟩, theirs] = marked a b := by
  apply ByteArray.ext
  apply Array.toList_inj.1
  simp [joinS, marked]
theorem text_marked {a b : ByteArray} (hne : a ≠ b) (e1 : a ≠ ByteArray.empty) (e2 : b ≠ ByteArray.empty) (b1 : binB a = false) (b2 : binB b = false) (s1 : splitS a = [a]) (s2 : splitS b = [b]) (c1 : closeL a = a ++ ⟨#[10]⟩) (c2 : closeL b = b ++ ⟨#[10]⟩) :
    textOf ByteArray.empty a b = (marked a b, 1) := by
  have e0 : splitS ByteArray.empty = [] := splitN_nil _ _ rfl
  have b0 : binB ByteArray.empty = false := rfl
  obtain ⟨h1, h2⟩ := merge_long hne
  unfold textOf
  rw [if_neg (fun q => q.elim hne e2), if_neg e1, b1, b2, b0, e0, s1, s2, h1, h2, c1, c2, join_marked]
  rfl
theorem text_long (n m : Nat) (x y : UInt8) (hn : 0 < n) (hm : 0 < m) (hx : 10 < x.toNat) (hy : 10 < y.toNat) (h : x ≠ y) : textOf ByteArray.empty (rep n x) (rep m y) = (marked (rep n x) (rep m y), 1) := by
  have x10 : x ≠ 10 := by intro e; rw [e] at hx; exact absurd hx (by decide)
  have y10 : y ≠ 10 := by intro e; rw [e] at hy; exact absurd hy (by decide)
  have x0 : x ≠ 0 := by intro e; rw [e] at hx; exact absurd hx (by decide)
  have y0 : y ≠ 0 := by intro e; rw [e] at hy; exact absurd hy (by decide)
  have e1 : ∀ k z, 0 < k → rep k z ≠ ByteArray.empty := fun k z hk e => by
    have := congrArg ByteArray.size e
    rw [rep_size] at this
    have h0 : ByteArray.empty.size = 0 := rfl
    omega
  exact text_marked (rep_ne n m x y hn hm h) (e1 n x hn) (e1 m y hm) (bin_rep n x x0) (bin_rep m y y0) (split_rep n x hn x10) (split_rep m y hm y10) (close_rep n x hn x10) (close_rep m y hm y10)
theorem marked_size (a b : ByteArray) : (marked a b).size = a.size + b.size + 34 := by
  have h1 : ours.size = 8 := rfl
  have h2 : base.size = 8 := rfl
  have h3 : middle.size = 8 := rfl
  have h4 : theirs.size = 8 := rfl
  have h5 : (⟨#[10]⟩ : ByteArray).size = 1 := rfl
  unfold marked
  simp only [ByteArray.size_append, h1, h2, h3, h4, h5]
  omega
/-- What stands at the new path. -/
def wantL (n m : Nat) (x y : UInt8) : ByteArray := if 65536 < n + m + 34 then (if y < x then rep n x else rep m y) else marked (rep n x) (rep m y)
theorem max_rep (n m : Nat) (x y : UInt8) (hn : 0 < n) (hm : 0 < m) (h : x ≠ y) : maxS (rep n x) (rep m y) = if y < x then rep n x else rep m y := by
  unfold maxS
  rw [less_rep n m x y hn hm h]
  by_cases h1 : x < y
  · have h2 : ¬ y < x := by rw [UInt8.lt_iff_toNat_lt] at *; omega
    simp [h1, h2]
  · have h2 : y < x := by
      have h3 : x.toNat ≠ y.toNat := fun e => h (UInt8.toNat_inj.1 e)
      rw [UInt8.lt_iff_toNat_lt] at *
      omega
    simp [h1, h2]
theorem both_long (n m : Nat) (x y : UInt8) (hn : 0 < n) (hm : 0 < m) (hx : 10 < x.toNat) (hy : 10 < y.toNat) (h : x ≠ y) : bothB ⟨ByteArray.empty, false⟩ ⟨rep n x, true⟩ ⟨rep m y, true⟩ = (⟨wantL n m x y, true⟩, true) := by
  unfold bothB
  simp only [text_long n m x y hn hm hx hy h, marked_size, rep_size, max_rep n m x y hn hm h, wantL, Bool.true_eq_false, if_false]
  split <;> simp
def fpath : ByteArray := ⟨#[102]⟩
theorem trees_long (n m : Nat) (x y : UInt8) (hn : 0 < n) (hm : 0 < m) (hx : 10 < x.toNat) (hy : 10 < y.toNat) (h : x ≠ y) : treesL [] [⟨fpath, rep n x⟩] [⟨fpath, rep m y⟩] = ([⟨fpath, wantL n m x y⟩], [fpath]) := by
  have hp : pathsL [⟨fpath, rep n x⟩] [⟨fpath, rep m y⟩] = [fpath] := by
    rw [pathsL, if_neg (by rw [less_irrefl]; simp), if_neg (by rw [less_irrefl]; simp), pathsL]
  have h0 : ofF [] fpath = ⟨ByteArray.empty, false⟩ := rfl
  have h1 : ∀ s, ofF [⟨fpath, s⟩] fpath = ⟨s, true⟩ := fun s => by simp [ofF, getF]
  have hone : oneB ⟨ByteArray.empty, false⟩ ⟨rep n x, true⟩ ⟨rep m y, true⟩ = (⟨wantL n m x y, true⟩, true) := by
    unfold oneB
    rw [if_neg (by
      rintro (q | q)
      · exact rep_ne n m x y hn hm h (by injection q)
      · injection q with _ q2; cases q2), if_neg (by intro q; injection q with _ q2; cases q2)]
    exact both_long n m x y hn hm hx hy h
  unfold treesL
  rw [hp]
  simp only [List.foldl_cons, List.foldl_nil, stepTr, h0, h1, hone]
  simp
end Go.Proofs.Ytekeiieefkgopaa.Bt

namespace Go.Proofs.Ytekeiieefkgopaa.Bv
open Go Go.RowKit Go.Proofs.Ytekeiieefkgopaa.Aa Go.Proofs.Ytekeiieefkgopaa.Vw Go.Proofs.Ytekeiieefkgopaa.Mb Go.Proofs.Ytekeiieefkgopaa.Mc Go.Proofs.Ytekeiieefkgopaa.Nf Go.Proofs.Ytekeiieefkgopaa.Nh Go.Proofs.Ytekeiieefkgopaa.No Go.Proofs.Ytekeiieefkgopaa.Np Go.Proofs.Ytekeiieefkgopaa.Nq Go.Proofs.Ytekeiieefkgopaa.Pd Go.Proofs.Ytekeiieefkgopaa.Pe Go.Proofs.Ytekeiieefkgopaa.Ba Go.Proofs.Ytekeiieefkgopaa.Bb Go.Proofs.Ytekeiieefkgopaa.Bi Go.Proofs.Ytekeiieefkgopaa.Bk Go.Proofs.Ytekeiieefkgopaa.Bp Go.Proofs.Ytekeiieefkgopaa.Bq Go.Proofs.Ytekeiieefkgopaa.Bt
set_option linter.unusedVariables false
set_option linter.unusedSimpArgs false

theorem text_walk (n m : Nat) (x y : UInt8) (hn : 0 < n) (hm : 0 < m) (bn : n ≤ 100000) (bm : m ≤ 100000) (hx : 10 < x.toNat) (hy : 10 < y.toNat) (h : x ≠ y) (W : World) :
    Calls Try.prog 27 #[.string ByteArray.empty, .string (rep n x), .string (rep m y)] W (TextP (textOf ByteArray.empty (rep n x) (rep m y)) W) := by
  have x10 : x ≠ 10 := by intro e; rw [e] at hx; exact absurd hx (by decide)
  have y10 : y ≠ 10 := by intro e; rw [e] at hy; exact absurd hy (by decide)
  have e0 : splitS ByteArray.empty = [] := splitN_nil _ _ rfl
  have h0 : ByteArray.empty.size = 0 := rfl
  have r1 := rep_size n x
  have r2 := rep_size m y
  refine text_of ByteArray.empty (rep n x) (rep m y) W (by omega) (by omega) (by omega) ?_ ?_
  · rw [e0, split_rep n x hn x10, split_rep m y hm y10]
    exact fit_of [] [rep n x] [rep m y] (by simp) (by simp) (by simp) (fun z hz => by simp at hz) (fun z hz => by
      simp only [List.mem_singleton] at hz
      rw [hz]; omega) (fun z hz => by
      simp only [List.mem_singleton] at hz
      rw [hz]; omega)
  · rw [e0, split_rep n x hn x10, split_rep m y hm y10, (merge_long (rep_ne n m x y hn hm h)).1, close_rep n x hn x10, close_rep m y hm y10, join_marked, marked_size]
    omega
theorem of_one (s p : ByteArray) : ofF [⟨fpath, s⟩] p = if fpath = p then ⟨s, true⟩ else ⟨ByteArray.empty, false⟩ := by
  unfold ofF getF
  by_cases h : fpath = p
  · simp [h]
  · simp [h]
theorem one_walk (n m : Nat) (x y : UInt8) (hn : 0 < n) (hm : 0 < m) (bn : n ≤ 100000) (bm : m ≤ 100000) (hx : 10 < x.toNat) (hy : 10 < y.toNat) (h : x ≠ y) (p : ByteArray) (W : World) :
    Calls Try.prog 16 #[.agg #[.string (ofF [] p).text, .bool (ofF [] p).is], .agg #[.string (ofF [⟨fpath, rep n x⟩] p).text, .bool (ofF [⟨fpath, rep n x⟩] p).is], .agg #[.string (ofF [⟨fpath, rep m y⟩] p).text, .bool (ofF [⟨fpath, rep m y⟩] p).is]] W (AtP (oneB (ofF [] p) (ofF [⟨fpath, rep n x⟩] p) (ofF [⟨fpath, rep m y⟩] p)) W) := by
  have h0 : ofF [] p = ⟨ByteArray.empty, false⟩ := rfl
  have h1 := of_one (rep n x) p
  have h2 := of_one (rep m y) p
  by_cases hp : fpath = p
  · rw [if_pos hp] at h1 h2
    rw [h0, h1, h2]
    exact one_of ⟨ByteArray.empty, false⟩ ⟨rep n x, true⟩ ⟨rep m y, true⟩ W (fun _ _ _ W => text_walk n m x y hn hm bn bm hx hy h W) (fun _ _ _ => by
      show (textOf ByteArray.empty (rep n x) (rep m y)).2 ≤ 1000000
      rw [text_long n m x y hn hm hx hy h]
      omega)
  · rw [if_neg hp] at h1 h2
    rw [h0, h1, h2]
    exact one_of ⟨ByteArray.empty, false⟩ ⟨ByteArray.empty, false⟩ ⟨ByteArray.empty, false⟩ W (fun q => absurd rfl q) (fun q => absurd rfl q)
theorem trees_longW (n m : Nat) (x y : UInt8) (hn : 0 < n) (hm : 0 < m) (bn : n ≤ 100000) (bm : m ≤ 100000) (hx : 10 < x.toNat) (hy : 10 < y.toNat) (h : x ≠ y) (Aa Ab : Option Addr) (w : World) (ha : file.Row w Aa 1 [⟨fpath, rep n x⟩]) (hb : file.Row w Ab 1 [⟨fpath, rep m y⟩]) :
    Calls Try.prog 9 #[.slice none 0 0, .slice Aa 1 1, .slice Ab 1 1] w fun e w' => ∃ A c Ad cd, e = .returned (.tuple #[.slice A 1 c, .slice Ad 1 cd]) ∧ file.Row w' A c [⟨fpath, wantL n m x y⟩] ∧ El.str.Row w' Ad cd [fpath] ∧ Ch no w w' := by
  have hT := trees_of [] [⟨fpath, rep n x⟩] [⟨fpath, rep m y⟩] none Aa Ab 0 1 1 w (El.Row.nil _ _) ha hb (by unfold Rise; simp) (rise1 _) (rise1 _) (by simp) (by simp) (by simp) (fun p W => one_walk n m x y hn hm bn bm hx hy h p W)
  rw [trees_long n m x y hn hm hx hy h] at hT
  refine hT.mono ?_
  rintro e w' ⟨vo, vd, rfl, h1, h2, h3⟩
  obtain ⟨A, c, rfl, hr⟩ := own_row h1
  obtain ⟨Ad, cd, rfl, hr2⟩ := El.Row.of_own h2
  exact ⟨A, c, Ad, cd, rfl, hr, hr2, h3⟩
end Go.Proofs.Ytekeiieefkgopaa.Bv

namespace Go.Proofs.Ytekeiieefkgopaa.Bu
open Go.RowKit Go.Proofs.Ytekeiieefkgopaa.Aa Go.Proofs.Ytekeiieefkgopaa.Vw Go.Proofs.Ytekeiieefkgopaa.Ma Go.Proofs.Ytekeiieefkgopaa.Mb Go.Proofs.Ytekeiieefkgopaa.Mf Go.Proofs.Ytekeiieefkgopaa.Mr Go.Proofs.Ytekeiieefkgopaa.Mt Go.Proofs.Ytekeiieefkgopaa.Na Go.Proofs.Ytekeiieefkgopaa.No Go.Proofs.Ytekeiieefkgopaa.Nq Go.Proofs.Ytekeiieefkgopaa.Ba Go.Proofs.Ytekeiieefkgopaa.Bb Go.Proofs.Ytekeiieefkgopaa.Bk Go.Proofs.Ytekeiieefkgopaa.Bm Go.Proofs.Ytekeiieefkgopaa.Bn Go.Proofs.Ytekeiieefkgopaa.Bo Go.Proofs.Ytekeiieefkgopaa.Bp Go.Proofs.Ytekeiieefkgopaa.Bq Go.Proofs.Ytekeiieefkgopaa.Br Go.Proofs.Ytekeiieefkgopaa.Bt Go.Proofs.Ytekeiieefkgopaa.Bv
set_option linter.unusedVariables false
set_option linter.unusedSimpArgs false

theorem texts_yes (A B : Option Addr) (c d : Nat) (xs : List ByteArray) (w : World) (hx : El.str.Row w A c xs) (hy : El.str.Row w B d xs) :
    Calls Try.prog 12 #[.slice A xs.length c, .slice B xs.length d] w fun e w' => e = .returned (.bool true) ∧ Ch no w w' := by
  have h := texts_any A B c d xs xs w hx hy
  rw [decide_eq_true rfl] at h
  exact h.mono fun e w' h => ⟨h.1, h.2.ch no⟩

theorem infoByte : (Try.prog.info? 5).map (fun i => (i.zero, i.size, i.bytes)) = some (some (.int .u8 0), 1, 1) := by kernel_rfl
/-- A row of bytes at block g, of which the first k are x. -/
def BT (w : World) (g n k : Nat) (x : UInt8) : Prop := ∃ rc : Array Value, w.heap[g]? = some (.cells rc 5 (0, 0)) ∧ rc.size = n ∧ ∀ j, j < k → rc[j]? = some (.int .u8 x.toNat)
theorem BT.set {w : World} {g n k : Nat} {x : UInt8} (h : BT w g n k x) (hk : k < n) : BT (w.setCell ⟨g, k, none⟩ (.int .u8 x.toNat)) g n (k + 1) x := by
  obtain ⟨rc, hb, hs, hc⟩ := h
  refine ⟨rc.setIfInBounds k (.int .u8 x.toNat), bSet hb k _, by simpa using hs, fun j hj => ?_⟩
  by_cases e : j = k
  · subst e
    rw [Array.getElem?_setIfInBounds_self_of_lt (by omega)]
  · rw [Array.getElem?_setIfInBounds_ne (fun h => e h.symm)]
    exact hc j (by omega)
theorem BT.ch {S : Nat → Prop} {w w' : World} {g n k : Nat} {x : UInt8} (h : BT w g n k x) (hc : Ch S w w') (hs : ¬ S g) : BT w' g n k x := by
  obtain ⟨rc, hb, h1, h2⟩ := h
  exact ⟨rc, hc.blk hb hs, h1, h2⟩
theorem BT.str {w : World} {g n : Nat} {x : UInt8} (h : BT w g n n x) : (convert 32 9 (.slice (some ⟨g, 0, none⟩) n n)).run Try.prog w = .ok (.string (rep n x)) w := by
  obtain ⟨rc, hb, hs, hc⟩ := h
  have := run_convert_bytes_back (P := Try.prog) w 32 9 5 ⟨g, 0, none⟩ n (List.replicate n x) Try.underlying32 Try.underlying5 Try.underlying9 (fun j hj => by
    rw [List.length_replicate] at hj
    have e : (Addr.add ⟨g, 0, none⟩ j) = ⟨g, j, none⟩ := by unfold Addr.add; split <;> simp_all
    rw [e, bCell hb, hc j hj]
    simp)
  rw [List.length_replicate] at this
  exact this
theorem make_bytes (n : Nat) (hn : n ≤ 100000) (W : World) : (Instr.makeSlice 32 (.int .i64 (n : Int)) (.int .i64 (n : Int))).run Try.prog W = .ok (.slice (some ⟨W.heap.size, 0, none⟩) n n) (W.alloc (.cells (madeCells #[.int .u8 0] n) 5)) := by
  have := run_make_row' (P := Try.prog) 32 5 (.int .u8 0) 1 Try.underlying32 infoByte rfl .i64 .i64 n (by omega) (by omega) W
  simpa using this

/-- Two strings, one behind the other. -/
theorem add_var (w : World) (a b : ByteArray) (h : a.size + b.size ≤ 8000000) : ∃ t, (Op.stringOp .add a b).run Try.prog w = .ok (.string t) w ∧ t = a ++ b ∧ t.size = a.size + b.size :=
  ⟨a ++ b, run_string_add w a b (by omega) (by omega), rfl, ByteArray.size_append⟩
theorem BT.cell {w : World} {g n k : Nat} {x : UInt8} (h : BT w g n k x) (j : Nat) (hj : j < n) : (∃ u, w.cell? ⟨g, j, none⟩ = some u) ∧ w.frozen? ⟨g, j, none⟩ = false := by
  obtain ⟨rc, hb, hs, _⟩ := h
  exact ⟨⟨rc[j]'(by omega), (bCell hb j).trans (Array.getElem?_eq_getElem (by omega))⟩, bFree hb j⟩
theorem BT.start (W : World) (g n : Nat) (x : UInt8) (h : W.heap[g]? = some (.cells (madeCells #[.int .u8 0] n) 5 (0, 0))) : BT W g n 0 x :=
  ⟨_, h, size_madeCells _ _, fun j hj => absurd hj (by omega)⟩

set_option maxRecDepth 100000 in
set_option maxHeartbeats 16000000 in
theorem long_law (x y : UInt8) (n m : Nat) (w : World) (hn : n ≤ 65535) (hm : m ≤ 65535) :
    Calls Try.prog 4 #[.int .u8 x.toNat, .int .u8 y.toNat, .int .u16 n, .int .u16 m] w (True1 w) := by
  go_enter Try.func4, Try.ntmps4
  go_wp2_with fail
  refine (awake_of w).mono ?_
  rintro e w1 ⟨rfl, hc⟩
  have C1 := Lib.hid hc
  clear hc
  by_cases hx : x.toNat ≤ 10
  · have hx2 : (x.toNat : Int) ≤ 10 := by omega
    go_wp2_with fail
    go_ret
    exact ⟨rfl, C1.out⟩
  have hx2 : ¬ (x.toNat : Int) ≤ 10 := by omega
  by_cases hy : y.toNat ≤ 10
  · have hy2 : (y.toNat : Int) ≤ 10 := by omega
    go_wp2_with fail
    go_ret
    exact ⟨rfl, C1.out⟩
  have hy2 : ¬ (y.toNat : Int) ≤ 10 := by omega
  by_cases hxy : x = y
  · have he : ((x.toNat : Int) == (y.toNat : Int)) = true := by rw [hxy]; simp
    go_wp2_with fail
    go_ret
    exact ⟨rfl, C1.out⟩
  have he : ((x.toNat : Int) == (y.toNat : Int)) = false := by rw [beq_eq_false_iff_ne]; intro h; exact hxy (UInt8.toNat_inj.1 (by omega))
  have HXY := Lib.hid hxy
  clear hxy
  obtain ⟨p, hp0⟩ : ∃ p : Nat, 30000 + n % 9000 = p := ⟨_, rfl⟩
  obtain ⟨q, hq0⟩ : ∃ q : Nat, 30000 + m % 9000 = q := ⟨_, rfl⟩
  have hp : 30000 + (n : Int) % 9000 = (p : Int) := by omega
  have hq : 30000 + (m : Int) % 9000 = (q : Int) := by omega
  have hp1 : 30000 ≤ p ∧ p < 39000 := by omega
  have hq1 : 30000 ≤ q ∧ q < 39000 := by omega
  clear hp0 hq0
  have hmk1 := make_bytes p (by omega)
  have hmk2 := make_bytes q (by omega)
  obtain ⟨g, hg⟩ : ∃ g, w1.heap.size = g := ⟨_, rfl⟩
  have hal := al2 w1 (.cells (madeCells #[.int .u8 0] p) 5) (.cells (madeCells #[.int .u8 0] q) 5)
  have hc2 : Ch no w1 ((w1.alloc (.cells (madeCells #[.int .u8 0] p) 5)).alloc (.cells (madeCells #[.int .u8 0] q) 5)) := ((Ch.refl no w1).alloc _).alloc _
  obtain ⟨W2, hW2⟩ : ∃ W2, (w1.alloc (.cells (madeCells #[.int .u8 0] p) 5)).alloc (.cells (madeCells #[.int .u8 0] q) 5) = W2 := ⟨_, rfl⟩
  rw [hW2, hg] at hal
  rw [hW2] at hc2
  have HB1 := Lib.hid (BT.start W2 g p x hal.1); have HB2 := Lib.hid (BT.start W2 (g + 1) q y hal.2)
  have C2 := Lib.hid (C1.out.same hc2)
  have hwg : w.heap.size ≤ g := by have := C1.out.size; omega
  clear hal hc2
  go_wp2_with fail
  have HG := Lib.hid hg
  clear hg hmk1 hmk2 hW2
  go_loopw [12] (fun i wr => ∃ k : Nat, k ≤ p ∧ i = .int .i64 k ∧ Hid (BT wr g p k x) ∧ Hid (BT wr (g + 1) q 0 y) ∧ Hid (Ch no w wr)) (fun i _ => p - (intOf i).toNat)
  case atStart => exact ⟨0, by omega, rfl, HB1, HB2, C2⟩
  case round =>
    clear HB1 HB2 C2
    obtain ⟨k, hk, rfl, HB1, HB2, C2⟩ := hrel
    by_cases hkp : k < p
    · obtain ⟨⟨u0, hu0⟩, hf0⟩ := HB1.out.cell k hkp
      go_wp2_with fail
      go_roundw
      case rel => exact ⟨k + 1, by omega, by go_num, Lib.hid (HB1.out.set hkp), Lib.hid (HB2.out.ch (Ch.set1 wr g k _) (fun h => by have h' : g + 1 = g := h; omega)), Lib.hid (C2.out.set (p := ⟨g, k, none⟩) (.inr hwg) _)⟩
      case measure => simp [intOf]; omega
    · obtain rfl : k = p := by omega
      have HS1 := HB1
      go_wp2_with fail
      go_loopw [13] (fun i wr => ∃ j : Nat, j ≤ q ∧ i = .int .i64 j ∧ Hid (BT wr g k k x) ∧ Hid (BT wr (g + 1) q j y) ∧ Hid (Ch no w wr)) (fun i _ => q - (intOf i).toNat)
      case atStart => exact ⟨0, by omega, rfl, HB1, HB2, C2⟩
      case round =>
        clear HB1 HB2 C2 HS1
        obtain ⟨j, hj, rfl, HB1, HB2, C2⟩ := hrel
        by_cases hjq : j < q
        · obtain ⟨⟨u0, hu0⟩, hf0⟩ := HB2.out.cell j hjq
          go_wp2_with fail
          go_roundw
          case rel => exact ⟨j + 1, by omega, by go_num, Lib.hid (HB1.out.ch (Ch.set1 wr (g + 1) j _) (fun h => by have h' : g = g + 1 := h; omega)), Lib.hid (HB2.out.set hjq), Lib.hid (C2.out.set (p := ⟨g + 1, j, none⟩) (.inr (by show w.heap.size ≤ g + 1; omega)) _)⟩
          case measure => simp [intOf]; omega
        · obtain rfl : j = q := by omega
          have hs1 := HB1.out.str
          have hs2 := HB2.out.str
          have z1 := rep_size k x
          have z2 := rep_size j y
          have HTL := Lib.hid fun Aa Ab W ha hb => trees_longW k j x y (by omega) (by omega) (by omega) (by omega) (by omega) (by omega) HXY.out Aa Ab W ha hb
          have sz0 : (⟨#[60, 60, 60, 60, 60, 60, 60, 10]⟩ : ByteArray).size = 8 := rfl
          obtain ⟨T1, d1, E1, t1⟩ := add_var wr ⟨#[60, 60, 60, 60, 60, 60, 60, 10]⟩ (rep k x) (by omega)
          have t1' : T1.size = 8 + k := by omega
          clear t1 sz0
          have sz1 : (⟨#[10]⟩ : ByteArray).size = 1 := rfl
          obtain ⟨T2, d2, E2, t2⟩ := add_var wr T1 ⟨#[10]⟩ (by omega)
          have t2' : T2.size = 8 + k + 1 := by omega
          clear t2 sz1
          have sz2 : (⟨#[124, 124, 124, 124, 124, 124, 124, 10]⟩ : ByteArray).size = 8 := rfl
          obtain ⟨T3, d3, E3, t3⟩ := add_var wr T2 ⟨#[124, 124, 124, 124, 124, 124, 124, 10]⟩ (by omega)
          have t3' : T3.size = 8 + k + 1 + 8 := by omega
          clear t3 sz2
          have sz3 : (⟨#[61, 61, 61, 61, 61, 61, 61, 10]⟩ : ByteArray).size = 8 := rfl
          obtain ⟨T4, d4, E4, t4⟩ := add_var wr T3 ⟨#[61, 61, 61, 61, 61, 61, 61, 10]⟩ (by omega)
          have t4' : T4.size = 8 + k + 1 + 8 + 8 := by omega
          clear t4 sz3
          obtain ⟨T5, d5, E5, t5⟩ := add_var wr T4 (rep j y) (by omega)
          have t5' : T5.size = 8 + k + 1 + 8 + 8 + j := by omega
          clear t5
          have sz5 : (⟨#[10]⟩ : ByteArray).size = 1 := rfl
          obtain ⟨T6, d6, E6, t6⟩ := add_var wr T5 ⟨#[10]⟩ (by omega)
          have t6' : T6.size = 8 + k + 1 + 8 + 8 + j + 1 := by omega
          clear t6 sz5
          have sz6 : (⟨#[62, 62, 62, 62, 62, 62, 62, 10]⟩ : ByteArray).size = 8 := rfl
          obtain ⟨T7, d7, E7, t7⟩ := add_var wr T6 ⟨#[62, 62, 62, 62, 62, 62, 62, 10]⟩ (by omega)
          have t7' : T7.size = 8 + k + 1 + 8 + 8 + j + 1 + 8 := by omega
          clear t7 sz6
          have HM : Hid (T7 = marked (rep k x) (rep j y)) := Lib.hid (by rw [E7, E6, E5, E4, E3, E2, E1]; rfl)
          have hT7 : T7.size = k + j + 34 := by omega
          clear E1 E2 E3 E4 E5 E6 E7 t1' t2' t3' t4' t5' t6' t7'
          obtain ⟨z, hz⟩ : ∃ z, wr.heap.size = z := ⟨_, rfl⟩
          have hal := al2 wr (.cells #[.string ⟨#[102]⟩, .string (rep k x)] 34) (.cells #[.string ⟨#[102]⟩, .string (rep j y)] 34)
          have hc2 : Ch no wr ((wr.alloc (.cells #[.string ⟨#[102]⟩, .string (rep k x)] 34)).alloc (.cells #[.string ⟨#[102]⟩, .string (rep j y)] 34)) := ((Ch.refl no wr).alloc _).alloc _
          obtain ⟨W2, hW2⟩ : ∃ W2, (wr.alloc (.cells #[.string ⟨#[102]⟩, .string (rep k x)] 34)).alloc (.cells #[.string ⟨#[102]⟩, .string (rep j y)] 34) = W2 := ⟨_, rfl⟩
          rw [hW2, hz] at hal
          rw [hW2] at hc2
          have HA := Lib.hid (row_block [⟨fpath, rep k x⟩] hal.1 (by simp)); have HB := Lib.hid (row_block [⟨fpath, rep j y⟩] hal.2 (by simp))
          have C3 := Lib.hid (C2.out.same hc2)
          clear hal hc2
          by_cases hbig : 65536 < k + j + 34
          · have hb2 : (65536 : Int) < (T7.size : Int) := by omega
            by_cases hyx : y < x
            · have HWW : Hid (wantL k j x y = rep k x) := Lib.hid (by unfold wantL; rw [if_pos hbig, if_pos hyx])
              have hyx2 : (y.toNat : Int) < (x.toNat : Int) := by rw [UInt8.lt_iff_toNat_lt] at hyx; omega
              have hyx3 : y.toNat < x.toNat := by omega
              clear hyx hbig hT7 z1 z2 hp hq hp1 hq1
              go_wp2_with fail
              refine (HTL.out _ _ W2 HA.out HB.out).mono ?_
              rintro e w5 ⟨A5, c5, A6, c6, rfl, h5, h6, hc⟩
              have C5 := Lib.hid (C3.out.same hc); have R6 := Lib.hid h6
              obtain ⟨ad, rfl, hd0, hd1⟩ := file_at h5 0 (by simp)
              simp only [List.getElem_cons_zero, Nat.zero_mul, add_zero] at hd0 hd1
              rw [HWW.out] at hd1
              clear hc h5 h6 hW2 hs1 hs2 d1 d2 d3 d4 d5 d6 d7
              go_wp2_with fail
              have HBK := Lib.hid (str_block (W := w5.alloc (.cells #[.string ⟨#[102]⟩] 9)) (g := w5.heap.size) [fpath] (bNew w5 _) (by simp))
              refine (texts_yes A6 (some ⟨w5.heap.size, 0, none⟩) c6 1 [fpath] _ (R6.out.ch ((Ch.refl no w5).alloc _)) HBK.out).mono ?_
              rintro e w6 ⟨rfl, hc⟩
              have C6 := Lib.hid ((C5.out.alloc (.cells #[.string ⟨#[102]⟩] 9)).same hc)
              clear hc
              go_wp2_with fail
              go_ret
              exact ⟨rfl, C6.out⟩
            · have HWW : Hid (wantL k j x y = rep j y) := Lib.hid (by unfold wantL; rw [if_pos hbig, if_neg hyx])
              have hyx2 : ¬ (y.toNat : Int) < (x.toNat : Int) := by rw [UInt8.lt_iff_toNat_lt] at hyx; omega
              have hyx3 : ¬ y.toNat < x.toNat := by omega
              clear hyx hbig hT7 z1 z2 hp hq hp1 hq1
              go_wp2_with fail
              refine (HTL.out _ _ W2 HA.out HB.out).mono ?_
              rintro e w5 ⟨A5, c5, A6, c6, rfl, h5, h6, hc⟩
              have C5 := Lib.hid (C3.out.same hc); have R6 := Lib.hid h6
              obtain ⟨ad, rfl, hd0, hd1⟩ := file_at h5 0 (by simp)
              simp only [List.getElem_cons_zero, Nat.zero_mul, add_zero] at hd0 hd1
              rw [HWW.out] at hd1
              clear hc h5 h6 hW2 hs1 hs2 d1 d2 d3 d4 d5 d6 d7
              go_wp2_with fail
              have HBK := Lib.hid (str_block (W := w5.alloc (.cells #[.string ⟨#[102]⟩] 9)) (g := w5.heap.size) [fpath] (bNew w5 _) (by simp))
              refine (texts_yes A6 (some ⟨w5.heap.size, 0, none⟩) c6 1 [fpath] _ (R6.out.ch ((Ch.refl no w5).alloc _)) HBK.out).mono ?_
              rintro e w6 ⟨rfl, hc⟩
              have C6 := Lib.hid ((C5.out.alloc (.cells #[.string ⟨#[102]⟩] 9)).same hc)
              clear hc
              go_wp2_with fail
              go_ret
              exact ⟨rfl, C6.out⟩
          · have hb2 : ¬ (65536 : Int) < (T7.size : Int) := by omega
            have HWW : Hid (wantL k j x y = T7) := Lib.hid (by rw [HM.out]; unfold wantL; rw [if_neg hbig])
            clear hbig hT7 z1 z2 hp hq hp1 hq1
            go_wp2_with fail
            refine (HTL.out _ _ W2 HA.out HB.out).mono ?_
            rintro e w5 ⟨A5, c5, A6, c6, rfl, h5, h6, hc⟩
            have C5 := Lib.hid (C3.out.same hc); have R6 := Lib.hid h6
            obtain ⟨ad, rfl, hd0, hd1⟩ := file_at h5 0 (by simp)
            simp only [List.getElem_cons_zero, Nat.zero_mul, add_zero] at hd0 hd1
            rw [HWW.out] at hd1
            clear hc h5 h6 hW2 hs1 hs2 d1 d2 d3 d4 d5 d6 d7
            go_wp2_with fail
            have HBK := Lib.hid (str_block (W := w5.alloc (.cells #[.string ⟨#[102]⟩] 9)) (g := w5.heap.size) [fpath] (bNew w5 _) (by simp))
            refine (texts_yes A6 (some ⟨w5.heap.size, 0, none⟩) c6 1 [fpath] _ (R6.out.ch ((Ch.refl no w5).alloc _)) HBK.out).mono ?_
            rintro e w6 ⟨rfl, hc⟩
            have C6 := Lib.hid ((C5.out.alloc (.cells #[.string ⟨#[102]⟩] 9)).same hc)
            clear hc
            go_wp2_with fail
            go_ret
            exact ⟨rfl, C6.out⟩

end Go.Proofs.Ytekeiieefkgopaa.Bu

namespace Go.Proofs.Ytekeiieefkgopaa.Bw
open Go Go.RowKit Go.Proofs.Ytekeiieefkgopaa.Aa Go.Proofs.Ytekeiieefkgopaa.Br Go.Proofs.Ytekeiieefkgopaa.Bu
theorem u8_of {a : Int} (h : (Lit.int .u8 a).wf = true) : ∃ x : UInt8, a = (x.toNat : Int) := by
  have m0 : IntKind.u8.min = 0 := by decide
  have m1 : IntKind.u8.max = 255 := by decide
  simp [Lit.wf, m0, m1] at h
  refine ⟨UInt8.ofNat a.toNat, ?_⟩
  rw [UInt8.toNat_ofNat']
  omega
theorem u16_of {a : Int} (h : (Lit.int .u16 a).wf = true) : ∃ n : Nat, a = (n : Int) ∧ n ≤ 65535 := by
  have m0 : IntKind.u16.min = 0 := by decide
  have m1 : IntKind.u16.max = 65535 := by decide
  simp [Lit.wf, m0, m1] at h
  exact ⟨a.toNat, by omega, by omega⟩
theorem long_int (a0 a1 a2 a3 : Int) (w : World) (h0 : (Lit.int .u8 a0).wf = true) (h1 : (Lit.int .u8 a1).wf = true) (h2 : (Lit.int .u16 a2).wf = true) (h3 : (Lit.int .u16 a3).wf = true) :
    Calls Try.prog 4 #[.int .u8 a0, .int .u8 a1, .int .u16 a2, .int .u16 a3] w (True1 w) := by
  obtain ⟨x, rfl⟩ := u8_of h0
  obtain ⟨y, rfl⟩ := u8_of h1
  obtain ⟨n, rfl, hn⟩ := u16_of h2
  obtain ⟨m, rfl, hm⟩ := u16_of h3
  exact long_law x y n m w hn hm
end Go.Proofs.Ytekeiieefkgopaa.Bw

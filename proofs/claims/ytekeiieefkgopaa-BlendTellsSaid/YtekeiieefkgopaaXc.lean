/- The document's looks at trees: less, few, right, same. The document's looks at trees: same, path, right. The document's look at trees: right; few. The document's look at trees: few; a tree that is good. Trees of bounded texts: blend.Trees; how a tree that is ours reads. -/
import Derived.Test.YtekeiieefkgopaaXe
import Derived.Laws.StructEq
import Derived.Deep.QuietTactic
import Derived.BigQuiet
import Derived.Test.YtekeiieefkgopaaXf
import Derived.Handy
import Derived.Laws.Concat
import Derived.Test.YtekeiieefkgopaaMt
import Derived.Test.YtekeiieefkgopaaBk
import Derived.Test.YtekeiieefkgopaaXa
namespace Go.Proofs.Ytekeiieefkgopaa.Bg
open Go.RowKit Go.Proofs.Ytekeiieefkgopaa.Aa Go.Proofs.Ytekeiieefkgopaa.Vw Go.Proofs.Ytekeiieefkgopaa.Ma Go.Proofs.Ytekeiieefkgopaa.Mb Go.Proofs.Ytekeiieefkgopaa.Mi Go.Proofs.Ytekeiieefkgopaa.Na Go.Proofs.Ytekeiieefkgopaa.No Go.Proofs.Ytekeiieefkgopaa.Nq Go.Proofs.Ytekeiieefkgopaa.Ba Go.Proofs.Ytekeiieefkgopaa.Bc
set_option linter.unusedVariables false
set_option linter.unusedSimpArgs false

theorem bl_cons (x y : UInt8) (X Y : List UInt8) : Op.bytesLess (x :: X) (y :: Y) = if x = y then Op.bytesLess X Y else decide (x < y) := by
  simp only [Op.bytesLess]
  by_cases h : x = y
  · subst h; simp [UInt8.lt_irrefl]
  · simp [h]
theorem drop_at (s : ByteArray) (k : Nat) (h : k < s.size) : s.data.toList.drop k = s[k] :: s.data.toList.drop (k + 1) := by
  rw [List.drop_eq_getElem_cons (by simpa using h)]; rfl
theorem drop_end (s : ByteArray) (k : Nat) (h : s.size ≤ k) : s.data.toList.drop k = [] := List.drop_eq_nil_of_le (by simpa using h)

set_option maxRecDepth 100000 in
set_option maxHeartbeats 4000000 in
theorem less_of (a b : ByteArray) (w : World) (ha : a.size ≤ 9223372036854775806) (hb : b.size ≤ 9223372036854775806) :
    Calls Try.prog 21 #[.string a, .string b] w fun e w' => e = .returned (.bool (less a b)) ∧ Dr w w' := by
  obtain ⟨r, hr⟩ : ∃ r, less a b = r := ⟨_, rfl⟩
  rw [hr]
  have h0 : r = Op.bytesLess (a.data.toList.drop 0) (b.data.toList.drop 0) := by rw [← hr]; unfold less; rw [ByteArray.toList_eq, ByteArray.toList_eq]; rfl
  have H0 := Lib.hid h0
  clear hr h0
  go_enter Try.func21, Try.ntmps21
  go_wp2_with fail
  go_loopw [5] (fun i wr => ∃ k : Nat, k ≤ a.size ∧ k ≤ b.size ∧ i = .int .i64 k ∧ Hid (r = Op.bytesLess (a.data.toList.drop k) (b.data.toList.drop k)) ∧ Hid (Dr w wr)) (fun i _ => a.size - (intOf i).toNat)
  case atStart => exact ⟨0, by omega, by omega, rfl, H0, Lib.hid (Dr.refl w)⟩
  case round =>
    clear H0
    obtain ⟨k, hka, hkb, rfl, HR, HD⟩ := hrel
    by_cases h1 : k < a.size
    · by_cases h2 : k < b.size
      · have hr := HR.out
        rw [drop_at a k h1, drop_at b k h2, bl_cons] at hr
        by_cases h3 : a[k] = b[k]
        · have hn : ((a[k].toNat : Int) != (b[k].toNat : Int)) = false := by rw [h3]; simp
          rw [if_pos h3] at hr
          have HR2 := Lib.hid hr
          clear hr h3
          go_wp2_with fail
          go_quiet (fail)
          go_wp2_with fail
          go_roundw
          case rel => exact ⟨k + 1, by omega, by omega, by go_num, HR2, Lib.hid (HD.out.drewN _)⟩
          case measure => simp [intOf]; omega
        · have hn : ((a[k].toNat : Int) != (b[k].toNat : Int)) = true := by
            rw [bne_iff_ne]; intro h; exact h3 (UInt8.toNat_inj.1 (by omega))
          rw [if_neg h3] at hr
          have HR2 : Hid (r = decide (a[k].toNat < b[k].toNat)) := Lib.hid (by rw [hr]; rw [decide_eq_decide, UInt8.lt_iff_toNat_lt])
          clear hr h3
          go_wp2_with fail
          go_quiet (fail)
          go_wp2_with fail
          go_quiet (fail)
          go_wp2_with fail
          go_ret
          exact ⟨by rw [HR2.out]; rfl, (HD.out.drewN _).drewN _⟩
      · have hr := HR.out
        rw [drop_at a k h1, drop_end b k (by omega)] at hr
        have hlt : ¬ (a.size : Int) < (b.size : Int) := by omega
        have HR2 := Lib.hid hr
        clear hr
        go_wp2_with fail
        go_ret
        exact ⟨by rw [HR2.out]; rfl, HD.out⟩
    · have hr := HR.out
      rw [drop_end a k (by omega)] at hr
      by_cases h2 : k < b.size
      · rw [drop_at b k h2] at hr
        have hlt : (a.size : Int) < (b.size : Int) := by omega
        have HR2 := Lib.hid hr
        clear hr
        go_wp2_with fail
        go_ret
        exact ⟨by rw [HR2.out]; rfl, HD.out⟩
      · rw [drop_end b k (by omega)] at hr
        have hlt : ¬ (a.size : Int) < (b.size : Int) := by omega
        have HR2 := Lib.hid hr
        clear hr
        go_wp2_with fail
        go_ret
        exact ⟨by rw [HR2.out]; rfl, HD.out⟩

end Go.Proofs.Ytekeiieefkgopaa.Bg
namespace Go.Proofs.Ytekeiieefkgopaa.Bm
open Go.RowKit Go.Proofs.Ytekeiieefkgopaa.Aa Go.Proofs.Ytekeiieefkgopaa.Vw Go.Proofs.Ytekeiieefkgopaa.Ma Go.Proofs.Ytekeiieefkgopaa.Mb Go.Proofs.Ytekeiieefkgopaa.Mi Go.Proofs.Ytekeiieefkgopaa.Na Go.Proofs.Ytekeiieefkgopaa.No Go.Proofs.Ytekeiieefkgopaa.Nq Go.Proofs.Ytekeiieefkgopaa.Ba Go.Proofs.Ytekeiieefkgopaa.Bc Go.Proofs.Ytekeiieefkgopaa.Bg
set_option linter.unusedVariables false
set_option linter.unusedSimpArgs false

theorem fl_ne (x y : Fl) (w : World) : (binOp .neq 34 (.agg #[.string x.path, .string x.text]) (.agg #[.string y.path, .string y.text])).run Try.prog w = .ok (.bool (!decide (x = y))) w := by
  obtain ⟨s, b⟩ := x
  obtain ⟨t, c⟩ := y
  have u1 := Try.underlying9
  have a1 := Try.isAgg9
  have z1 := Try.sizeOf9
  have hS : (Try.prog).underlying 34 = some (.struct ((Try.prog).fieldsOf 34)) := by kernel_rfl
  have hp : (Try.prog).stoodInHeld 34 = false := by kernel_rfl
  rw [run_neq_struct, show (10000 : Nat) = 9999 + 1 from rfl, run_equalIn_agg w 9999 34 _ _ hS hp]
  simp only [Program.fieldsOf, Try.underlying34]
  go_simp
  by_cases h1 : s = t
  · subst h1
    by_cases h2 : b = c
    · subst h2; simp
    · have h3 : ¬ b.toList = c.toList := fun h => h2 (by
        rw [ByteArray.toList_eq, ByteArray.toList_eq] at h
        exact ByteArray.ext (Array.toList_inj.1 h))
      simp [h2, h3]
  · have h3 : ¬ s.toList = t.toList := fun h => h1 (by
      rw [ByteArray.toList_eq, ByteArray.toList_eq] at h
      exact ByteArray.ext (Array.toList_inj.1 h))
    simp [h1, h3]

set_option maxRecDepth 100000 in
set_option maxHeartbeats 4000000 in
theorem same_of (A B : Option Addr) (c d : Nat) (xs ys : List Fl) (w : World) (hx : file.Row w A c xs) (hy : file.Row w B d ys) :
    Calls Try.prog 11 #[.slice A xs.length c, .slice B ys.length d] w fun e w' => e = .returned (.bool (decide (xs = ys))) ∧ Dr w w' := by
  have hlx := hx.len
  have hly := hy.len
  by_cases hl : xs.length = ys.length
  · have hb : ((xs.length : Int) != (ys.length : Int)) = false := by simp [hl]
    have HX := Lib.hid hx; have HY := Lib.hid hy; have HL := Lib.hid hl; clear hx hy hl
    go_enter Try.func11, Try.ntmps11
    go_wp2_with fail
    go_loopw [5] (fun i wr => ∃ k : Nat, k ≤ xs.length ∧ i = .int .i64 k ∧ Hid (xs.take k = ys.take k) ∧ Hid (Dr w wr)) (fun i _ => xs.length - (intOf i).toNat)
    case atStart => exact ⟨0, by omega, rfl, rfl, Dr.refl w⟩
    case round =>
      obtain ⟨k, hk, rfl, HE, HD⟩ := hrel
      by_cases hlt : k < xs.length
      · obtain ⟨a, rfl, hc0, hc1⟩ := file_at (HX.out.ch (HD.out.ch no)) k hlt
        have hlt2 : k < ys.length := by have := HL.out; omega
        obtain ⟨b, rfl, hd0, hd1⟩ := file_at (HY.out.ch (HD.out.ch no)) k hlt2
        have hne := fl_ne xs[k] ys[k]
        by_cases he : xs[k] = ys[k]
        · have HE2 := Lib.hid (take_next HE.out hlt hlt2 he)
          rw [decide_eq_true he] at hne
          clear he
          go_wp2_with fail
          go_quiet (fail)
          go_wp2_with fail
          go_roundw
          case rel => exact ⟨k + 1, by omega, by go_num, HE2, HD.out.drewN _⟩
          case measure => simp [intOf]; omega
        · have hn2 : decide (xs = ys) = false := decide_eq_false (fun h => he (by subst h; rfl))
          rw [decide_eq_false he] at hne
          have HN := Lib.hid hn2
          clear he hn2
          go_wp2_with fail
          go_quiet (fail)
          go_wp2_with fail
          go_ret
          exact ⟨by rw [HN.out]; rfl, HD.out.drewN _⟩
      · have hee : decide (xs = ys) = true := decide_eq_true (by
          have h := HE.out
          have := HL.out
          rwa [List.take_of_length_le (by omega), List.take_of_length_le (by omega)] at h)
        have HN := Lib.hid hee
        clear hee
        go_wp2_with fail
        go_ret
        exact ⟨by rw [HN.out]; rfl, HD.out⟩
  · have hb : ((xs.length : Int) != (ys.length : Int)) = true := by simp; omega
    have hne : decide (xs = ys) = false := decide_eq_false (fun h => hl (by rw [h]))
    have HN := Lib.hid hne
    clear hne hl
    rw [HN.out]
    go_enter Try.func11, Try.ntmps11
    go_wp2_with fail
    go_ret
    exact ⟨rfl, Dr.refl w⟩

def SomeB (w : World) (e : Ending) (w' : World) : Prop := ∃ b, e = .returned (.bool b) ∧ Ch no w w'
set_option maxRecDepth 100000 in
set_option maxHeartbeats 8000000 in
theorem path_of (s : ByteArray) (w : World) (hs : s.size ≤ 140737488355328) :
    Calls Try.prog 20 #[.string s] w (SomeB w) := by
  by_cases hl : (200 : Int) < (s.size : Int)
  · go_enter Try.func20, Try.ntmps20
    go_wp2_with fail
    go_ret
    exact ⟨_, rfl, Ch.refl no w⟩
  have hl2 : s.size ≤ 200 := by omega
  go_enter Try.func20, Try.ntmps20
  go_wp2_with fail
  go_loopw [3, 4] (fun p i wr => ∃ (k : Nat) (part : ByteArray), k ≤ s.size + 1 ∧ part.size ≤ k ∧ i = .int .i64 k ∧ p = .string part ∧ Hid (Ch no w wr)) (fun p i _ => s.size + 1 - (intOf i).toNat)
  case atStart => exact ⟨0, ⟨#[]⟩, by omega, Nat.zero_le _, rfl, rfl, Ch.refl no w⟩
  case round =>
    obtain ⟨k, part, hk, hps, rfl, rfl, HC⟩ := hrel
    by_cases h1 : (k : Int) ≤ (s.size : Int)
    · by_cases h2 : k = s.size
      · subst h2
        go_wp2_with fail
        all_goals first | (go_ret; exact ⟨_, rfl, HC.out⟩) | exact ⟨⟨s.size + 1, _, by omega, Nat.zero_le _, by go_num, rfl, HC⟩, by simp [intOf]⟩
      · have h3 : k < s.size := by omega
        have hb : ((k : Int) == (s.size : Int)) = false := by rw [beq_eq_false_iff_ne]; omega
        by_cases h4 : s[k] = 47
        · have h5 : ((s[k].toNat : Int) == 47) = true := by rw [h4]; rfl
          go_wp2_with fail
          all_goals first | (go_ret; exact ⟨_, rfl, HC.out⟩) | exact ⟨⟨k + 1, _, by omega, Nat.zero_le _, by go_num, rfl, HC⟩, by simp [intOf]; try omega⟩
        · have h5 : ((s[k].toNat : Int) == 47) = false := by
            rw [beq_eq_false_iff_ne]; intro h; exact h4 (UInt8.toNat_inj.1 (by have : (47 : UInt8).toNat = 47 := rfl; omega))
          have hadd : (Op.stringOp .add part (s.extract k (k + 1))).run Try.prog wr = .ok (.string (part ++ s.extract k (k + 1))) wr := run_string_add wr part (s.extract k (k + 1)) (by omega) (by rw [ByteArray.size_extract]; omega)
          go_wp2_with fail
          all_goals first | (go_ret; exact ⟨_, rfl, HC.out⟩) | exact ⟨⟨k + 1, _, by omega, by rw [ByteArray.size_append, ByteArray.size_extract]; omega, by go_num, rfl, HC⟩, by simp [intOf]; try omega⟩
    · go_wp2_with fail
      go_ret
      exact ⟨_, rfl, HC.out⟩

end Go.Proofs.Ytekeiieefkgopaa.Bm
namespace Go.Proofs.Ytekeiieefkgopaa.Bn
open Go.RowKit Go.Proofs.Ytekeiieefkgopaa.Aa Go.Proofs.Ytekeiieefkgopaa.Vw Go.Proofs.Ytekeiieefkgopaa.Ma Go.Proofs.Ytekeiieefkgopaa.Mb Go.Proofs.Ytekeiieefkgopaa.Mr Go.Proofs.Ytekeiieefkgopaa.Mt Go.Proofs.Ytekeiieefkgopaa.Mi Go.Proofs.Ytekeiieefkgopaa.Na Go.Proofs.Ytekeiieefkgopaa.No Go.Proofs.Ytekeiieefkgopaa.Nq Go.Proofs.Ytekeiieefkgopaa.Ba Go.Proofs.Ytekeiieefkgopaa.Bc Go.Proofs.Ytekeiieefkgopaa.Bg Go.Proofs.Ytekeiieefkgopaa.Bm
set_option linter.unusedVariables false
set_option linter.unusedSimpArgs false

/-- A tree's sizes. -/
def Szs (n : Nat) (t : List Fl) : Prop := ∀ f ∈ t, f.path.size ≤ n ∧ f.text.size ≤ n
theorem Szs.at {n : Nat} {t : List Fl} (h : Szs n t) (k : Nat) (hk : k < t.length) : t[k].path.size ≤ n ∧ t[k].text.size ≤ n := h _ (List.getElem_mem hk)
structure RightTo (t : List Fl) (k : Nat) : Prop where
  txt : ∀ j (h : j < t.length), j < k → t[j].text.size ≤ 65536
  rise : ∀ j (h : j + 1 < t.length), j + 1 < k → less t[j].path t[j + 1].path = true
theorem RightTo.next {t : List Fl} {k : Nat} (h : RightTo t k) (hk : k < t.length) (h1 : t[k].text.size ≤ 65536) (h2 : ∀ j (e : k = j + 1), less (t[j]'(by omega)).path t[k].path = true) : RightTo t (k + 1) := by
  refine ⟨fun j hj hjk => ?_, fun j hj hjk => ?_⟩
  · by_cases e : j = k
    · subst e; exact h1
    · exact h.txt j hj (by omega)
  · by_cases e : k = j + 1
    · subst e; exact h2 j rfl
    · exact h.rise j hj (by omega)
theorem RightTo.rises {t : List Fl} (h : RightTo t t.length) : Rise t := by
  have key : ∀ d i (hj : i + d + 1 < t.length), less t[i].path t[i + d + 1].path = true := by
    intro d
    induction d with
    | zero => intro i hj; exact h.rise i hj (by omega)
    | succ d ih => intro i hj; exact less_trans (ih i (by omega)) (h.rise (i + d + 1) (by omega) (by omega))
  unfold Rise
  rw [List.pairwise_iff_getElem]
  intro i j hi hj hij
  have := key (j - i - 1) i (by omega)
  have e : i + (j - i - 1) + 1 = j := by omega
  simp only [e] at this
  exact this
/-- What the look gives, if it is yes. -/
def RightP (t : List Fl) (w : World) (e : Ending) (w' : World) : Prop := ∃ b, e = .returned (.bool b) ∧ (b = true → Rise t ∧ t.length ≤ 1000 ∧ ∀ f ∈ t, f.text.size ≤ 65536) ∧ Ch no w w'

set_option maxRecDepth 100000 in
set_option maxHeartbeats 8000000 in
theorem right_of (A : Option Addr) (c : Nat) (t : List Fl) (w : World) (ht : file.Row w A c t) (hz : Szs 140737488355328 t) :
    Calls Try.prog 14 #[.slice A t.length c] w (RightP t w) := by
  have hl := ht.len
  have HT := Lib.hid ht; have HZ := Lib.hid hz
  clear ht hz
  go_enter Try.func14, Try.ntmps14
  go_wp2_with fail
  go_loopw [3] (fun i wr => ∃ k : Nat, k ≤ t.length ∧ i = .int .i64 k ∧ Hid (RightTo t k) ∧ Hid (Ch no w wr)) (fun i _ => t.length - (intOf i).toNat)
  case atStart => exact ⟨0, by omega, rfl, Lib.hid ⟨fun j h h' => by omega, fun j h h' => by omega⟩, Lib.hid (Ch.refl no w)⟩
  case round =>
    obtain ⟨k, hk, rfl, HR, HC⟩ := hrel
    by_cases hlt : k < t.length
    · obtain ⟨ad, rfl, hc0, hc1⟩ := file_at (HT.out.ch HC.out) k hlt
      have hzk := HZ.out.at k hlt
      go_wp2_with fail
      refine (path_of t[k].path wr hzk.1).mono ?_
      rintro e w1 ⟨b, rfl, hch⟩
      have HC1 := Lib.hid (HC.out.same hch)
      clear hc0 hc1 hch
      obtain ⟨ad', had, hc0, hc1⟩ := file_at (HT.out.ch HC1.out) k hlt
      obtain rfl : ad = ad' := by injection had
      clear had
      cases b with
      | false =>
        go_wp2_with fail
        go_ret
        exact ⟨_, rfl, by simp, HC1.out⟩
      | true =>
        by_cases hsz : t[k].text.size ≤ 65536
        · have hsz2 : ¬ (65536 : Int) < (t[k].text.size : Int) := by omega
          rcases Nat.eq_zero_or_pos k with hk0 | hk0
          · have HR2 := Lib.hid (HR.out.next hlt hsz (fun j e => by omega))
            have hpos : ¬ (0 : Int) < (k : Int) := by omega
            have hpos2 : ¬ 0 < k := by omega
            clear hk0
            go_wp2_with fail
            go_quiet (fail)
            go_wp2_with fail
            go_roundw
            case rel => exact ⟨k + 1, by omega, by go_num, HR2, Lib.hid (HC1.out.drewN _)⟩
            case measure => simp [intOf]; omega
          · obtain ⟨m, rfl⟩ : ∃ m, k = m + 1 := ⟨k - 1, by omega⟩
            obtain ⟨ad', had, hd0, hd1⟩ := file_at (HT.out.ch HC1.out) m (by omega)
            obtain rfl : ad = ad' := by injection had
            clear had
            have hzm := HZ.out.at m (by omega)
            have hpos : (0 : Int) < (m : Int) + 1 := by omega
            cases hle : less (t[m]'(by omega)).path t[m + 1].path with
            | true =>
              have HR2 := Lib.hid (HR.out.next hlt hsz (fun j e => by have e2 : j = m := by omega
                                                                      subst e2; exact hle))
              have hless := fun n => less_of (t[m]'(by omega)).path t[m + 1].path (w1.drewN n) (by omega) (by omega)
              rw [hle] at hless
              have HL := Lib.hid hless
              clear hless hle
              go_wp2_with fail
              go_quiet ((go_at_call 21; exact Calls.quiet_of (HL.out _)))
              go_wp2_with fail
              go_roundw
              case rel => exact ⟨m + 1 + 1, by omega, by go_num, HR2, Lib.hid (HC1.out.drewN _)⟩
              case measure => simp [intOf]; omega
            | false =>
              have hless := fun n => less_of (t[m]'(by omega)).path t[m + 1].path (w1.drewN n) (by omega) (by omega)
              rw [hle] at hless
              have HL := Lib.hid hless
              clear hless hle
              go_wp2_with fail
              go_quiet ((go_at_call 21; exact Calls.quiet_of (HL.out _)))
              go_wp2_with fail
              go_ret
              exact ⟨_, rfl, by simp, HC1.out.drewN _⟩
        · have hsz2 : (65536 : Int) < (t[k].text.size : Int) := by omega
          go_wp2_with fail
          go_ret
          exact ⟨_, rfl, by simp, HC1.out⟩
    · by_cases h1000 : (t.length : Int) ≤ 1000
      · have hr := HR.out
        obtain rfl : k = t.length := by omega
        have HRR : Hid (Rise t ∧ t.length ≤ 1000 ∧ ∀ f ∈ t, f.text.size ≤ 65536) := Lib.hid ⟨hr.rises, by omega, fun f hf => by
          obtain ⟨j, hj, rfl⟩ := List.getElem_of_mem hf
          exact hr.txt j hj hj⟩
        clear hr
        go_wp2_with fail
        go_ret
        exact ⟨_, rfl, fun _ => HRR.out, HC.out⟩
      · go_wp2_with fail
        go_ret
        exact ⟨_, rfl, by simp, HC.out⟩

end Go.Proofs.Ytekeiieefkgopaa.Bn
namespace Go.Proofs.Ytekeiieefkgopaa.Bo
open Go.RowKit Go.Proofs.Ytekeiieefkgopaa.Aa Go.Proofs.Ytekeiieefkgopaa.Vw Go.Proofs.Ytekeiieefkgopaa.Ma Go.Proofs.Ytekeiieefkgopaa.Mb Go.Proofs.Ytekeiieefkgopaa.Mr Go.Proofs.Ytekeiieefkgopaa.Mt Go.Proofs.Ytekeiieefkgopaa.Mi Go.Proofs.Ytekeiieefkgopaa.Na Go.Proofs.Ytekeiieefkgopaa.No Go.Proofs.Ytekeiieefkgopaa.Nq Go.Proofs.Ytekeiieefkgopaa.Ba Go.Proofs.Ytekeiieefkgopaa.Bc Go.Proofs.Ytekeiieefkgopaa.Bg Go.Proofs.Ytekeiieefkgopaa.Bm Go.Proofs.Ytekeiieefkgopaa.Bn
attribute [local go_sem] mnOp
set_option linter.unusedVariables false
set_option linter.unusedSimpArgs false

/-- What the look gives, if it is yes. -/
def FewP (t : List Fl) (w : World) (e : Ending) (w' : World) : Prop := ∃ b, e = .returned (.bool b) ∧ (b = true → t.length ≤ 12 ∧ Szs 600 t) ∧ Ch no w w'
/-- The first ones' sizes, together, are at most n. -/
def FewTo (t : List Fl) (k n : Nat) : Prop := ∀ j (h : j < t.length), j < k → min t[j].path.size 1000 + min t[j].text.size 1000 ≤ n
theorem mn1000 (a : Nat) : Builtin.min2 (.int .i64 (a : Int)) (.int .i64 1000) = pure (.int .i64 ((min a 1000 : Nat) : Int)) := mnNat .i64 .i64 a 1000

set_option maxRecDepth 100000 in
set_option maxHeartbeats 8000000 in
theorem few_of (A : Option Addr) (c : Nat) (t : List Fl) (w : World) (ht : file.Row w A c t) (hz : Szs 140737488355328 t) :
    Calls Try.prog 13 #[.slice A t.length c] w (FewP t w) := by
  have hl := ht.len
  have HT := Lib.hid ht; have HZ := Lib.hid hz
  clear ht hz
  go_enter Try.func13, Try.ntmps13
  go_wp2_with fail
  go_loopw [3, 4] (fun n i wr => ∃ k n' : Nat, k ≤ t.length ∧ k ≤ 20 ∧ n' ≤ k * 2000 ∧ n = .int .i64 n' ∧ i = .int .i64 k ∧ Hid (FewTo t k n') ∧ Hid (Ch no w wr)) (fun n i _ => t.length - (intOf i).toNat)
  case atStart => exact ⟨0, 0, by omega, by omega, by omega, rfl, rfl, Lib.hid (fun j h h' => by omega), Lib.hid (Ch.refl no w)⟩
  case round =>
    obtain ⟨k, n, hk, hk20, hn, rfl, rfl, HF, HC⟩ := hrel
    by_cases hlt : k < t.length
    · by_cases h20 : k < 20
      · have h20i : (k : Int) < 20 := by omega
        obtain ⟨ad, rfl, hc0, hc1⟩ := file_at (HT.out.ch HC.out) k hlt
        have hzk := HZ.out.at k hlt
        have hm1 := mn1000 t[k].path.size
        have hm2 := mn1000 t[k].text.size
        obtain ⟨m1, hmm1⟩ : ∃ m, min t[k].path.size 1000 = m := ⟨_, rfl⟩
        obtain ⟨m2, hmm2⟩ : ∃ m, min t[k].text.size 1000 = m := ⟨_, rfl⟩
        have hF2 : FewTo t (k + 1) (n + m1 + m2) := by
          intro j hj hjk
          by_cases e : j = k
          · subst e; omega
          · have := HF.out j hj (by omega)
            omega
        have HF2 := Lib.hid hF2
        have hb1 : m1 ≤ 1000 := by omega
        have hb2 : m2 ≤ 1000 := by omega
        rw [hmm1] at hm1
        rw [hmm2] at hm2
        clear hmm1 hmm2 hF2
        have hw1 : IntKind.i64.wrap ((n : Int) + (m1 : Int)) = (n : Int) + m1 := IntWalk.i64_in _ (by omega)
        have hw2 : IntKind.i64.wrap ((n : Int) + (m1 : Int) + (m2 : Int)) = (n : Int) + m1 + m2 := IntWalk.i64_in _ (by omega)
        go_wp2_with fail
        go_quiet (fail)
        go_wp2_with fail
        go_roundw
        case rel => exact ⟨k + 1, n + m1 + m2, by omega, by omega, by omega, by go_num, by go_num, HF2, Lib.hid (HC.out.drewN _)⟩
        case measure => simp [intOf]; omega
      · have h20i : ¬ (k : Int) < 20 := by omega
        have hno : ¬ (t.length : Int) ≤ 12 := by omega
        go_wp2_with fail
        go_ret
        exact ⟨_, rfl, by simp, HC.out⟩
    · obtain rfl : k = t.length := by omega
      by_cases h12 : (t.length : Int) ≤ 12
      · by_cases h6 : (n : Int) ≤ 600
        · have HRR : Hid (t.length ≤ 12 ∧ Szs 600 t) := Lib.hid ⟨by omega, fun f hf => by
            obtain ⟨j, hj, rfl⟩ := List.getElem_of_mem hf
            have := HF.out j hj hj
            omega⟩
          go_wp2_with fail
          go_ret
          exact ⟨_, rfl, fun _ => HRR.out, HC.out⟩
        · go_wp2_with fail
          go_ret
          exact ⟨_, rfl, by simp, HC.out⟩
      · go_wp2_with fail
        go_ret
        exact ⟨_, rfl, by simp, HC.out⟩

/-- What the look gives, if it is yes. -/
def GoodP (t : List Fl) (w : World) (e : Ending) (w' : World) : Prop := ∃ b, e = .returned (.bool b) ∧ (b = true → Rise t ∧ t.length ≤ 12 ∧ Szs 600 t) ∧ Ch no w w'
set_option maxHeartbeats 1000000 in
theorem good_of (A : Option Addr) (c : Nat) (t : List Fl) (w : World) (ht : file.Row w A c t) (hz : Szs 140737488355328 t) :
    Calls Try.prog 8 #[.slice A t.length c] w (GoodP t w) := by
  have HT := Lib.hid ht; have HZ := Lib.hid hz
  clear ht hz
  go_enter Try.func8, Try.ntmps8
  go_wp2_with fail
  refine (few_of A c t w HT.out HZ.out).mono ?_
  rintro e w1 ⟨b, rfl, h, hc⟩
  have HC := Lib.hid hc; have HH := Lib.hid h
  clear hc h
  cases b with
  | false =>
    go_wp2_with fail
    go_ret
    exact ⟨_, rfl, by simp, HC.out⟩
  | true =>
    have HH3 := Lib.hid (HH.out rfl)
    clear HH
    go_wp2_with fail
    refine (right_of A c t w1 (HT.out.ch HC.out) HZ.out).mono ?_
    rintro e w2 ⟨b, rfl, h, hc⟩
    have HC2 := Lib.hid (HC.out.same hc); have HH2 := Lib.hid h
    clear hc h
    cases b with
    | false =>
      go_wp2_with fail
      go_ret
      exact ⟨_, rfl, by simp, HC2.out⟩
    | true =>
      have HH4 := Lib.hid (HH2.out rfl)
      clear HH2
      go_wp2_with fail
      go_ret
      exact ⟨_, rfl, fun _ => ⟨HH4.out.1, HH3.out.1, HH3.out.2⟩, HC2.out⟩

end Go.Proofs.Ytekeiieefkgopaa.Bo
namespace Go.Proofs.Ytekeiieefkgopaa.Bp
open Go.RowKit Go.Proofs.Ytekeiieefkgopaa.Aa Go.Proofs.Ytekeiieefkgopaa.Vw Go.Proofs.Ytekeiieefkgopaa.Ma Go.Proofs.Ytekeiieefkgopaa.Mb Go.Proofs.Ytekeiieefkgopaa.Mc Go.Proofs.Ytekeiieefkgopaa.Nf Go.Proofs.Ytekeiieefkgopaa.Nh Go.Proofs.Ytekeiieefkgopaa.No Go.Proofs.Ytekeiieefkgopaa.Np Go.Proofs.Ytekeiieefkgopaa.Nq Go.Proofs.Ytekeiieefkgopaa.Pd Go.Proofs.Ytekeiieefkgopaa.Pe Go.Proofs.Ytekeiieefkgopaa.Ba Go.Proofs.Ytekeiieefkgopaa.Bb Go.Proofs.Ytekeiieefkgopaa.Bi Go.Proofs.Ytekeiieefkgopaa.Bk Go.Proofs.Ytekeiieefkgopaa.Bm Go.Proofs.Ytekeiieefkgopaa.Bn Go.Proofs.Ytekeiieefkgopaa.Bo
set_option linter.unusedVariables false
set_option linter.unusedSimpArgs false

theorem fcells_get (t : List Fl) : ∀ (i : Nat) (x : Fl) (j : Nat) (c : Value), t[i]? = some x → ([.string x.path, .string x.text] : List Value)[j]? = some c → (fcells t)[i * 2 + j]? = some c := by
  induction t with
  | nil => intro i x j c h; simp at h
  | cons f t ih =>
    intro i x j c h hj
    have e : fcells (f :: t) = .string f.path :: .string f.text :: fcells t := by simp [fcells]
    rw [e]
    cases i with
    | zero =>
      have e2 : f = x := by simpa using h
      subst e2
      match j, hj with
      | 0, hj => simpa using hj
      | 1, hj => simpa using hj
      | j + 2, hj => simp at hj
    | succ i =>
      have := ih i x j c (by simpa using h) hj
      rw [show (i + 1) * 2 + j = (i * 2 + j) + 1 + 1 by omega]
      simpa using this
/-- A tree that is ours, read. -/
theorem own_row {w : World} {B : Nat} {v : Value} {t : List Fl} (h : OwnT w B v t) : ∃ A cap, v = .slice A t.length cap ∧ file.Row w A cap t := by
  obtain ⟨_, ⟨rfl, h2⟩ | ⟨g, cap, cur, rfl, _, hg, hn, hc, hs, ht⟩⟩ := h
  · refine ⟨none, 0, by rw [h2], ⟨by omega, by unfold maxLen; omega, fun _ => rfl, fun i x hx => ?_⟩⟩
    have := (List.getElem?_eq_some_iff.1 hx).1
    omega
  · refine ⟨_, cap, rfl, ⟨hn, hc, fun h => by (cases h), fun i x hx => ⟨_, [.string x.path, .string x.text], rfl, rfl, fun j c hj => ?_⟩⟩⟩
    have hz : file.sz = 2 := rfl
    rw [hz]
    have e : (Addr.add ⟨g, 0, none⟩ (i * 2 + j)) = ⟨g, i * 2 + j, none⟩ := by unfold Addr.add; split <;> simp_all
    rw [e, bCell hg]
    have h4 := fcells_get t i x j c hx hj
    rw [← ht, List.getElem?_take] at h4
    split at h4
    · rwa [Array.getElem?_toList] at h4
    · cases h4
/-- A block that holds a tree. -/
theorem row_block {W : World} {g : Nat} (t : List Fl) (h : W.heap[g]? = some (.cells (fcells t).toArray 34 (0, 0))) (hl : t.length ≤ 1000) : file.Row W (some ⟨g, 0, none⟩) t.length t := by
  have hf := fcells_len t
  have ho : OwnT W g (.slice (some ⟨g, 0, none⟩) t.length t.length) t := ⟨hf, .inr ⟨g, t.length, _, rfl, Nat.le_refl _, h, Nat.le_refl _, by unfold maxLen; omega, by simp [hf], by rw [← hf]; simp⟩⟩
  obtain ⟨A, cap, e, hr⟩ := own_row ho
  injection e with e1 e2 e3
  subst e1; subst e3
  exact hr

theorem ofF_size {n : Nat} {t : List Fl} (h : Szs n t) (p : ByteArray) : (ofF t p).text.size ≤ n := by
  unfold ofF
  cases hg : getF t p with
  | none => exact Nat.zero_le _
  | some s =>
    unfold getF at hg
    cases hf : t.find? (fun f => decide (f.path = p)) with
    | none => rw [hf] at hg; cases hg
    | some f =>
      rw [hf] at hg
      have e : f.text = s := by simpa using hg
      subst e
      exact (h f (List.mem_of_find?_eq_some hf)).2
theorem clash_any (o a b : ByteArray) (ho : o.size ≤ 1000) (ha : a.size ≤ 1000) (hb : b.size ≤ 1000) : (textOf o a b).2 ≤ 1000000 := by
  obtain ⟨r, h⟩ : ∃ r, (textOf o a b).2 = r := ⟨_, rfl⟩
  rw [h]
  simp only [textOf] at h
  have lo := split_len o.size o; have la := split_len a.size a; have lb := split_len b.size b
  have hf := (regs_ok (splitS o) (splitS a) (splitS b) (by unfold splitS; omega) (by unfold splitS; omega) (by unfold splitS; omega)).2.1
  have hc := clash_le (regionsOf (splitS o) (splitS a) (splitS b)) (regionsOf (splitS o) (splitS a) (splitS b)).length
  rw [List.take_of_length_le (Nat.le_refl _)] at hc
  unfold splitS at *
  split at h
  · simp only [] at h; omega
  · split at h
    · simp only [] at h; omega
    · split at h
      · simp only [] at h; omega
      · simp only [] at h; omega
/-- Two sides' trees, together, in memory. -/
def TreesP (o a b : List Fl) (w : World) (e : Ending) (w' : World) : Prop := ∃ A c Ad cd, e = .returned (.tuple #[.slice A (treesL o a b).1.length c, .slice Ad (treesL o a b).2.length cd]) ∧ file.Row w' A c (treesL o a b).1 ∧ El.str.Row w' Ad cd (treesL o a b).2 ∧ Ch no w w'
theorem trees_any (o a b : List Fl) (Ao Aa Ab : Option Addr) (co ca cb : Nat) (w : World) (ho : file.Row w Ao co o) (ha : file.Row w Aa ca a) (hb : file.Row w Ab cb b) (ro : Rise o) (ra : Rise a) (rb : Rise b)
    (lo : o.length ≤ 1000) (la : a.length ≤ 1000) (lb : b.length ≤ 1000) (zo : Szs 1000 o) (za : Szs 1000 a) (zb : Szs 1000 b) :
    Calls Try.prog 9 #[.slice Ao o.length co, .slice Aa a.length ca, .slice Ab b.length cb] w (TreesP o a b w) := by
  refine (trees_of o a b Ao Aa Ab co ca cb w ho ha hb ro ra rb lo la lb (fun p W => one_of _ _ _ W (fun _ _ _ W => text_any _ _ _ W (ofF_size zo p) (ofF_size za p) (ofF_size zb p)) (fun _ _ _ => clash_any _ _ _ (ofF_size zo p) (ofF_size za p) (ofF_size zb p)))).mono ?_
  rintro e w' ⟨vo, vd, rfl, h1, h2, h3⟩
  obtain ⟨A, c, rfl, hr⟩ := own_row h1
  obtain ⟨Ad, cd, rfl, hr2⟩ := El.Row.of_own h2
  exact ⟨A, c, Ad, cd, rfl, hr, hr2, h3⟩

def fx1 : Fl := ⟨⟨#[120]⟩, ⟨#[49]⟩⟩
def fy2 : Fl := ⟨⟨#[121]⟩, ⟨#[50]⟩⟩
def fx0 : Fl := ⟨⟨#[120]⟩, ⟨#[48]⟩⟩
theorem ex1 : treesL [] [fx1] [fy2] = ([fx1, fy2], []) := by decide +kernel
theorem ex2 : treesL [fx0] [fx1] [fy2] = ([fx1, fy2], [⟨#[120]⟩]) := by decide +kernel
theorem rise1 (f : Fl) : Rise [f] := by unfold Rise; simp
theorem szs1 (f : Fl) (h : f.path.size ≤ 1000) (h2 : f.text.size ≤ 1000) : Szs 1000 [f] := by intro x hx; simp at hx; subst hx; exact ⟨h, h2⟩
end Go.Proofs.Ytekeiieefkgopaa.Bp

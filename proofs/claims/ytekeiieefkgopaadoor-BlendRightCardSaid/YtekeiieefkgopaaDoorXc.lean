/- The document's looks at trees: less, few, right, same. The document's looks at trees: same, path, right. The document's look at trees: right; few. The document's look at trees: few; a tree that is good. Trees of bounded texts: blend.Trees; how a tree that is ours reads. The chapter's example (blend). Trees that are right: the document's look at one and the program's: the plain law; a file. Trees that are right: the document's look at one: walked. -/
import Derived.Test.YtekeiieefkgopaaDoorBc
import Derived.Laws.StructEq
import Derived.Deep.QuietTactic
import Derived.BigQuiet
import Derived.Test.YtekeiieefkgopaaDoorBe
import Derived.Handy
import Derived.Laws.Concat
import Derived.Test.YtekeiieefkgopaaDoorMt
import Derived.Test.YtekeiieefkgopaaDoorBk
import Derived.Test.YtekeiieefkgopaaDoorPe
import Derived.Test.YtekeiieefkgopaaDoorXb
namespace Go.Proofs.YtekeiieefkgopaaDoor.Bg
open Go.RowKit Go.Proofs.YtekeiieefkgopaaDoor.Aa Go.Proofs.YtekeiieefkgopaaDoor.Vw Go.Proofs.YtekeiieefkgopaaDoor.Ma Go.Proofs.YtekeiieefkgopaaDoor.Mb Go.Proofs.YtekeiieefkgopaaDoor.Mi Go.Proofs.YtekeiieefkgopaaDoor.Na Go.Proofs.YtekeiieefkgopaaDoor.No Go.Proofs.YtekeiieefkgopaaDoor.Nq Go.Proofs.YtekeiieefkgopaaDoor.Ba Go.Proofs.YtekeiieefkgopaaDoor.Bc
set_option linter.unusedVariables false
set_option linter.unusedSimpArgs false

theorem bl_cons (x y : UInt8) (X Y : List UInt8) : Op.bytesLess (x :: X) (y :: Y) = if x = y then Op.bytesLess X Y else decide (x < y) := by
  simp only [Op.bytesLess]
  by_cases h : x = y
  · subst h; simp [UInt8.lt_irrefl]
  · simp [h]
theorem drop_at (s : ByteArray) (k : Nat) (h : k < s.size) : s.data.toList.drop k = s[k] :: s.data.toList.drop (k + 1) := by
  rw [List.drop_eq_getElem_cons (by simpa using h)]; rfl
theorem drop_end (s : ByteArray) (k : Nat) (h : s.size ≤ k) : s.data.toList.drop k = [] := List.drop_eq_nil_of_le (by simpa using h)

set_option maxRecDepth 100000 in
set_option maxHeartbeats 4000000 in
theorem less_of (a b : ByteArray) (w : World) (ha : a.size ≤ 9223372036854775806) (hb : b.size ≤ 9223372036854775806) :
    Calls Tryd.prog 48 #[.string a, .string b] w fun e w' => e = .returned (.bool (less a b)) ∧ Dr w w' := by
  obtain ⟨r, hr⟩ : ∃ r, less a b = r := ⟨_, rfl⟩
  rw [hr]
  have h0 : r = Op.bytesLess (a.data.toList.drop 0) (b.data.toList.drop 0) := by rw [← hr]; unfold less; rw [ByteArray.toList_eq, ByteArray.toList_eq]; rfl
  have H0 := Lib.hid h0
  clear hr h0
  go_enter Tryd.func48, Tryd.ntmps48
  go_wp2_with fail
  go_loopw [5] (fun i wr => ∃ k : Nat, k ≤ a.size ∧ k ≤ b.size ∧ i = .int .i64 k ∧ Hid (r = Op.bytesLess (a.data.toList.drop k) (b.data.toList.drop k)) ∧ Hid (Dr w wr)) (fun i _ => a.size - (intOf i).toNat)
  case atStart => exact ⟨0, by omega, by omega, rfl, H0, Lib.hid (Dr.refl w)⟩
  case round =>
    clear H0
    obtain ⟨k, hka, hkb, rfl, HR, HD⟩ := hrel
    by_cases h1 : k < a.size
    · by_cases h2 : k < b.size
      · have hr := HR.out
        rw [drop_at a k h1, drop_at b k h2, bl_cons] at hr
        by_cases h3 : a[k] = b[k]
        · have hn : ((a[k].toNat : Int) != (b[k].toNat : Int)) = false := by rw [h3]; simp
          rw [if_pos h3] at hr
          have HR2 := Lib.hid hr
          clear hr h3
          go_wp2_with fail
          go_quiet (fail)
          go_wp2_with fail
          go_roundw
          case rel => exact ⟨k + 1, by omega, by omega, by go_num, HR2, Lib.hid (HD.out.drewN _)⟩
          case measure => simp [intOf]; omega
        · have hn : ((a[k].toNat : Int) != (b[k].toNat : Int)) = true := by
            rw [bne_iff_ne]; intro h; exact h3 (UInt8.toNat_inj.1 (by omega))
          rw [if_neg h3] at hr
          have HR2 : Hid (r = decide (a[k].toNat < b[k].toNat)) := Lib.hid (by rw [hr]; rw [decide_eq_decide, UInt8.lt_iff_toNat_lt])
          clear hr h3
          go_wp2_with fail
          go_quiet (fail)
          go_wp2_with fail
          go_quiet (fail)
          go_wp2_with fail
          go_ret
          exact ⟨by rw [HR2.out]; rfl, (HD.out.drewN _).drewN _⟩
      · have hr := HR.out
        rw [drop_at a k h1, drop_end b k (by omega)] at hr
        have hlt : ¬ (a.size : Int) < (b.size : Int) := by omega
        have HR2 := Lib.hid hr
        clear hr
        go_wp2_with fail
        go_ret
        exact ⟨by rw [HR2.out]; rfl, HD.out⟩
    · have hr := HR.out
      rw [drop_end a k (by omega)] at hr
      by_cases h2 : k < b.size
      · rw [drop_at b k h2] at hr
        have hlt : (a.size : Int) < (b.size : Int) := by omega
        have HR2 := Lib.hid hr
        clear hr
        go_wp2_with fail
        go_ret
        exact ⟨by rw [HR2.out]; rfl, HD.out⟩
      · rw [drop_end b k (by omega)] at hr
        have hlt : ¬ (a.size : Int) < (b.size : Int) := by omega
        have HR2 := Lib.hid hr
        clear hr
        go_wp2_with fail
        go_ret
        exact ⟨by rw [HR2.out]; rfl, HD.out⟩

end Go.Proofs.YtekeiieefkgopaaDoor.Bg
namespace Go.Proofs.YtekeiieefkgopaaDoor.Bm
open Go.RowKit Go.Proofs.YtekeiieefkgopaaDoor.Aa Go.Proofs.YtekeiieefkgopaaDoor.Vw Go.Proofs.YtekeiieefkgopaaDoor.Ma Go.Proofs.YtekeiieefkgopaaDoor.Mb Go.Proofs.YtekeiieefkgopaaDoor.Mi Go.Proofs.YtekeiieefkgopaaDoor.Na Go.Proofs.YtekeiieefkgopaaDoor.No Go.Proofs.YtekeiieefkgopaaDoor.Nq Go.Proofs.YtekeiieefkgopaaDoor.Ba Go.Proofs.YtekeiieefkgopaaDoor.Bc Go.Proofs.YtekeiieefkgopaaDoor.Bg
set_option linter.unusedVariables false
set_option linter.unusedSimpArgs false

theorem fl_ne (x y : Fl) (w : World) : (binOp .neq 31 (.agg #[.string x.path, .string x.text]) (.agg #[.string y.path, .string y.text])).run Tryd.prog w = .ok (.bool (!decide (x = y))) w := by
  obtain ⟨s, b⟩ := x
  obtain ⟨t, c⟩ := y
  have u1 := Tryd.underlying9
  have a1 := Tryd.isAgg9
  have z1 := Tryd.sizeOf9
  have hS : (Tryd.prog).underlying 31 = some (.struct ((Tryd.prog).fieldsOf 31)) := by kernel_rfl
  have hp : (Tryd.prog).stoodInHeld 31 = false := by kernel_rfl
  rw [run_neq_struct, show (10000 : Nat) = 9999 + 1 from rfl, run_equalIn_agg w 9999 31 _ _ hS hp]
  simp only [Program.fieldsOf, Tryd.underlying31]
  go_simp
  by_cases h1 : s = t
  · subst h1
    by_cases h2 : b = c
    · subst h2; simp
    · have h3 : ¬ b.toList = c.toList := fun h => h2 (by
        rw [ByteArray.toList_eq, ByteArray.toList_eq] at h
        exact ByteArray.ext (Array.toList_inj.1 h))
      simp [h2, h3]
  · have h3 : ¬ s.toList = t.toList := fun h => h1 (by
      rw [ByteArray.toList_eq, ByteArray.toList_eq] at h
      exact ByteArray.ext (Array.toList_inj.1 h))
    simp [h1, h3]

set_option maxRecDepth 100000 in
set_option maxHeartbeats 4000000 in
theorem same_of (A B : Option Addr) (c d : Nat) (xs ys : List Fl) (w : World) (hx : file.Row w A c xs) (hy : file.Row w B d ys) :
    Calls Tryd.prog 28 #[.slice A xs.length c, .slice B ys.length d] w fun e w' => e = .returned (.bool (decide (xs = ys))) ∧ Dr w w' := by
  have hlx := hx.len
  have hly := hy.len
  by_cases hl : xs.length = ys.length
  · have hb : ((xs.length : Int) != (ys.length : Int)) = false := by simp [hl]
    have HX := Lib.hid hx; have HY := Lib.hid hy; have HL := Lib.hid hl; clear hx hy hl
    go_enter Tryd.func28, Tryd.ntmps28
    go_wp2_with fail
    go_loopw [5] (fun i wr => ∃ k : Nat, k ≤ xs.length ∧ i = .int .i64 k ∧ Hid (xs.take k = ys.take k) ∧ Hid (Dr w wr)) (fun i _ => xs.length - (intOf i).toNat)
    case atStart => exact ⟨0, by omega, rfl, rfl, Dr.refl w⟩
    case round =>
      obtain ⟨k, hk, rfl, HE, HD⟩ := hrel
      by_cases hlt : k < xs.length
      · obtain ⟨a, rfl, hc0, hc1⟩ := file_at (HX.out.ch (HD.out.ch no)) k hlt
        have hlt2 : k < ys.length := by have := HL.out; omega
        obtain ⟨b, rfl, hd0, hd1⟩ := file_at (HY.out.ch (HD.out.ch no)) k hlt2
        have hne := fl_ne xs[k] ys[k]
        by_cases he : xs[k] = ys[k]
        · have HE2 := Lib.hid (take_next HE.out hlt hlt2 he)
          rw [decide_eq_true he] at hne
          clear he
          go_wp2_with fail
          go_quiet (fail)
          go_wp2_with fail
          go_roundw
          case rel => exact ⟨k + 1, by omega, by go_num, HE2, HD.out.drewN _⟩
          case measure => simp [intOf]; omega
        · have hn2 : decide (xs = ys) = false := decide_eq_false (fun h => he (by subst h; rfl))
          rw [decide_eq_false he] at hne
          have HN := Lib.hid hn2
          clear he hn2
          go_wp2_with fail
          go_quiet (fail)
          go_wp2_with fail
          go_ret
          exact ⟨by rw [HN.out]; rfl, HD.out.drewN _⟩
      · have hee : decide (xs = ys) = true := decide_eq_true (by
          have h := HE.out
          have := HL.out
          rwa [List.take_of_length_le (by omega), List.take_of_length_le (by omega)] at h)
        have HN := Lib.hid hee
        clear hee
        go_wp2_with fail
        go_ret
        exact ⟨by rw [HN.out]; rfl, HD.out⟩
  · have hb : ((xs.length : Int) != (ys.length : Int)) = true := by simp; omega
    have hne : decide (xs = ys) = false := decide_eq_false (fun h => hl (by rw [h]))
    have HN := Lib.hid hne
    clear hne hl
    rw [HN.out]
    go_enter Tryd.func28, Tryd.ntmps28
    go_wp2_with fail
    go_ret
    exact ⟨rfl, Dr.refl w⟩

def SomeB (w : World) (e : Ending) (w' : World) : Prop := ∃ b, e = .returned (.bool b) ∧ Ch no w w'
set_option maxRecDepth 100000 in
set_option maxHeartbeats 8000000 in
theorem path_of (s : ByteArray) (w : World) (hs : s.size ≤ 140737488355328) :
    Calls Tryd.prog 21 #[.string s] w (SomeB w) := by
  by_cases hl : (200 : Int) < (s.size : Int)
  · go_enter Tryd.func21, Tryd.ntmps21
    go_wp2_with fail
    go_ret
    exact ⟨_, rfl, Ch.refl no w⟩
  have hl2 : s.size ≤ 200 := by omega
  go_enter Tryd.func21, Tryd.ntmps21
  go_wp2_with fail
  go_loopw [3, 4] (fun p i wr => ∃ (k : Nat) (part : ByteArray), k ≤ s.size + 1 ∧ part.size ≤ k ∧ i = .int .i64 k ∧ p = .string part ∧ Hid (Ch no w wr)) (fun p i _ => s.size + 1 - (intOf i).toNat)
  case atStart => exact ⟨0, ⟨#[]⟩, by omega, Nat.zero_le _, rfl, rfl, Ch.refl no w⟩
  case round =>
    obtain ⟨k, part, hk, hps, rfl, rfl, HC⟩ := hrel
    by_cases h1 : (k : Int) ≤ (s.size : Int)
    · by_cases h2 : k = s.size
      · subst h2
        go_wp2_with fail
        all_goals first | (go_ret; exact ⟨_, rfl, HC.out⟩) | exact ⟨⟨s.size + 1, _, by omega, Nat.zero_le _, by go_num, rfl, HC⟩, by simp [intOf]⟩
      · have h3 : k < s.size := by omega
        have hb : ((k : Int) == (s.size : Int)) = false := by rw [beq_eq_false_iff_ne]; omega
        by_cases h4 : s[k] = 47
        · have h5 : ((s[k].toNat : Int) == 47) = true := by rw [h4]; rfl
          go_wp2_with fail
          all_goals first | (go_ret; exact ⟨_, rfl, HC.out⟩) | exact ⟨⟨k + 1, _, by omega, Nat.zero_le _, by go_num, rfl, HC⟩, by simp [intOf]; try omega⟩
        · have h5 : ((s[k].toNat : Int) == 47) = false := by
            rw [beq_eq_false_iff_ne]; intro h; exact h4 (UInt8.toNat_inj.1 (by have : (47 : UInt8).toNat = 47 := rfl; omega))
          have hadd : (Op.stringOp .add part (s.extract k (k + 1))).run Tryd.prog wr = .ok (.string (part ++ s.extract k (k + 1))) wr := run_string_add wr part (s.extract k (k + 1)) (by omega) (by rw [ByteArray.size_extract]; omega)
          go_wp2_with fail
          all_goals first | (go_ret; exact ⟨_, rfl, HC.out⟩) | exact ⟨⟨k + 1, _, by omega, by rw [ByteArray.size_append, ByteArray.size_extract]; omega, by go_num, rfl, HC⟩, by simp [intOf]; try omega⟩
    · go_wp2_with fail
      go_ret
      exact ⟨_, rfl, HC.out⟩

end Go.Proofs.YtekeiieefkgopaaDoor.Bm
namespace Go.Proofs.YtekeiieefkgopaaDoor.Bn
open Go.RowKit Go.Proofs.YtekeiieefkgopaaDoor.Aa Go.Proofs.YtekeiieefkgopaaDoor.Vw Go.Proofs.YtekeiieefkgopaaDoor.Ma Go.Proofs.YtekeiieefkgopaaDoor.Mb Go.Proofs.YtekeiieefkgopaaDoor.Mr Go.Proofs.YtekeiieefkgopaaDoor.Mt Go.Proofs.YtekeiieefkgopaaDoor.Mi Go.Proofs.YtekeiieefkgopaaDoor.Na Go.Proofs.YtekeiieefkgopaaDoor.No Go.Proofs.YtekeiieefkgopaaDoor.Nq Go.Proofs.YtekeiieefkgopaaDoor.Ba Go.Proofs.YtekeiieefkgopaaDoor.Bc Go.Proofs.YtekeiieefkgopaaDoor.Bg Go.Proofs.YtekeiieefkgopaaDoor.Bm
set_option linter.unusedVariables false
set_option linter.unusedSimpArgs false

/-- A tree's sizes. -/
def Szs (n : Nat) (t : List Fl) : Prop := ∀ f ∈ t, f.path.size ≤ n ∧ f.text.size ≤ n
theorem Szs.at {n : Nat} {t : List Fl} (h : Szs n t) (k : Nat) (hk : k < t.length) : t[k].path.size ≤ n ∧ t[k].text.size ≤ n := h _ (List.getElem_mem hk)
structure RightTo (t : List Fl) (k : Nat) : Prop where
  txt : ∀ j (h : j < t.length), j < k → t[j].text.size ≤ 65536
  rise : ∀ j (h : j + 1 < t.length), j + 1 < k → less t[j].path t[j + 1].path = true
theorem RightTo.next {t : List Fl} {k : Nat} (h : RightTo t k) (hk : k < t.length) (h1 : t[k].text.size ≤ 65536) (h2 : ∀ j (e : k = j + 1), less (t[j]'(by omega)).path t[k].path = true) : RightTo t (k + 1) := by
  refine ⟨fun j hj hjk => ?_, fun j hj hjk => ?_⟩
  · by_cases e : j = k
    · subst e; exact h1
    · exact h.txt j hj (by omega)
  · by_cases e : k = j + 1
    · subst e; exact h2 j rfl
    · exact h.rise j hj (by omega)
theorem RightTo.rises {t : List Fl} (h : RightTo t t.length) : Rise t := by
  have key : ∀ d i (hj : i + d + 1 < t.length), less t[i].path t[i + d + 1].path = true := by
    intro d
    induction d with
    | zero => intro i hj; exact h.rise i hj (by omega)
    | succ d ih => intro i hj; exact less_trans (ih i (by omega)) (h.rise (i + d + 1) (by omega) (by omega))
  unfold Rise
  rw [List.pairwise_iff_getElem]
  intro i j hi hj hij
  have := key (j - i - 1) i (by omega)
  have e : i + (j - i - 1) + 1 = j := by omega
  simp only [e] at this
  exact this
/-- What the look gives, if it is yes. -/
def RightP (t : List Fl) (w : World) (e : Ending) (w' : World) : Prop := ∃ b, e = .returned (.bool b) ∧ (b = true → Rise t ∧ t.length ≤ 1000 ∧ ∀ f ∈ t, f.text.size ≤ 65536) ∧ Ch no w w'

set_option maxRecDepth 100000 in
set_option maxHeartbeats 8000000 in
theorem right_of (A : Option Addr) (c : Nat) (t : List Fl) (w : World) (ht : file.Row w A c t) (hz : Szs 140737488355328 t) :
    Calls Tryd.prog 22 #[.slice A t.length c] w (RightP t w) := by
  have hl := ht.len
  have HT := Lib.hid ht; have HZ := Lib.hid hz
  clear ht hz
  go_enter Tryd.func22, Tryd.ntmps22
  go_wp2_with fail
  go_loopw [3] (fun i wr => ∃ k : Nat, k ≤ t.length ∧ i = .int .i64 k ∧ Hid (RightTo t k) ∧ Hid (Ch no w wr)) (fun i _ => t.length - (intOf i).toNat)
  case atStart => exact ⟨0, by omega, rfl, Lib.hid ⟨fun j h h' => by omega, fun j h h' => by omega⟩, Lib.hid (Ch.refl no w)⟩
  case round =>
    obtain ⟨k, hk, rfl, HR, HC⟩ := hrel
    by_cases hlt : k < t.length
    · obtain ⟨ad, rfl, hc0, hc1⟩ := file_at (HT.out.ch HC.out) k hlt
      have hzk := HZ.out.at k hlt
      go_wp2_with fail
      refine (path_of t[k].path wr hzk.1).mono ?_
      rintro e w1 ⟨b, rfl, hch⟩
      have HC1 := Lib.hid (HC.out.same hch)
      clear hc0 hc1 hch
      obtain ⟨ad', had, hc0, hc1⟩ := file_at (HT.out.ch HC1.out) k hlt
      obtain rfl : ad = ad' := by injection had
      clear had
      cases b with
      | false =>
        go_wp2_with fail
        go_ret
        exact ⟨_, rfl, by simp, HC1.out⟩
      | true =>
        by_cases hsz : t[k].text.size ≤ 65536
        · have hsz2 : ¬ (65536 : Int) < (t[k].text.size : Int) := by omega
          rcases Nat.eq_zero_or_pos k with hk0 | hk0
          · have HR2 := Lib.hid (HR.out.next hlt hsz (fun j e => by omega))
            have hpos : ¬ (0 : Int) < (k : Int) := by omega
            have hpos2 : ¬ 0 < k := by omega
            clear hk0
            go_wp2_with fail
            go_quiet (fail)
            go_wp2_with fail
            go_roundw
            case rel => exact ⟨k + 1, by omega, by go_num, HR2, Lib.hid (HC1.out.drewN _)⟩
            case measure => simp [intOf]; omega
          · obtain ⟨m, rfl⟩ : ∃ m, k = m + 1 := ⟨k - 1, by omega⟩
            obtain ⟨ad', had, hd0, hd1⟩ := file_at (HT.out.ch HC1.out) m (by omega)
            obtain rfl : ad = ad' := by injection had
            clear had
            have hzm := HZ.out.at m (by omega)
            have hpos : (0 : Int) < (m : Int) + 1 := by omega
            cases hle : less (t[m]'(by omega)).path t[m + 1].path with
            | true =>
              have HR2 := Lib.hid (HR.out.next hlt hsz (fun j e => by have e2 : j = m := by omega
                                                                      subst e2; exact hle))
              have hless := fun n => less_of (t[m]'(by omega)).path t[m + 1].path (w1.drewN n) (by omega) (by omega)
              rw [hle] at hless
              have HL := Lib.hid hless
              clear hless hle
              go_wp2_with fail
              go_quiet ((go_at_call 48; exact Calls.quiet_of (HL.out _)))
              go_wp2_with fail
              go_roundw
              case rel => exact ⟨m + 1 + 1, by omega, by go_num, HR2, Lib.hid (HC1.out.drewN _)⟩
              case measure => simp [intOf]; omega
            | false =>
              have hless := fun n => less_of (t[m]'(by omega)).path t[m + 1].path (w1.drewN n) (by omega) (by omega)
              rw [hle] at hless
              have HL := Lib.hid hless
              clear hless hle
              go_wp2_with fail
              go_quiet ((go_at_call 48; exact Calls.quiet_of (HL.out _)))
              go_wp2_with fail
              go_ret
              exact ⟨_, rfl, by simp, HC1.out.drewN _⟩
        · have hsz2 : (65536 : Int) < (t[k].text.size : Int) := by omega
          go_wp2_with fail
          go_ret
          exact ⟨_, rfl, by simp, HC1.out⟩
    · by_cases h1000 : (t.length : Int) ≤ 1000
      · have hr := HR.out
        obtain rfl : k = t.length := by omega
        have HRR : Hid (Rise t ∧ t.length ≤ 1000 ∧ ∀ f ∈ t, f.text.size ≤ 65536) := Lib.hid ⟨hr.rises, by omega, fun f hf => by
          obtain ⟨j, hj, rfl⟩ := List.getElem_of_mem hf
          exact hr.txt j hj hj⟩
        clear hr
        go_wp2_with fail
        go_ret
        exact ⟨_, rfl, fun _ => HRR.out, HC.out⟩
      · go_wp2_with fail
        go_ret
        exact ⟨_, rfl, by simp, HC.out⟩

end Go.Proofs.YtekeiieefkgopaaDoor.Bn
namespace Go.Proofs.YtekeiieefkgopaaDoor.Bo
open Go.RowKit Go.Proofs.YtekeiieefkgopaaDoor.Aa Go.Proofs.YtekeiieefkgopaaDoor.Vw Go.Proofs.YtekeiieefkgopaaDoor.Ma Go.Proofs.YtekeiieefkgopaaDoor.Mb Go.Proofs.YtekeiieefkgopaaDoor.Mr Go.Proofs.YtekeiieefkgopaaDoor.Mt Go.Proofs.YtekeiieefkgopaaDoor.Mi Go.Proofs.YtekeiieefkgopaaDoor.Na Go.Proofs.YtekeiieefkgopaaDoor.No Go.Proofs.YtekeiieefkgopaaDoor.Nq Go.Proofs.YtekeiieefkgopaaDoor.Ba Go.Proofs.YtekeiieefkgopaaDoor.Bc Go.Proofs.YtekeiieefkgopaaDoor.Bg Go.Proofs.YtekeiieefkgopaaDoor.Bm Go.Proofs.YtekeiieefkgopaaDoor.Bn
attribute [local go_sem] mnOp
set_option linter.unusedVariables false
set_option linter.unusedSimpArgs false

/-- What the look gives, if it is yes. -/
def FewP (t : List Fl) (w : World) (e : Ending) (w' : World) : Prop := ∃ b, e = .returned (.bool b) ∧ (b = true → t.length ≤ 12 ∧ Szs 600 t) ∧ Ch no w w'
/-- The first ones' sizes, together, are at most n. -/
def FewTo (t : List Fl) (k n : Nat) : Prop := ∀ j (h : j < t.length), j < k → min t[j].path.size 1000 + min t[j].text.size 1000 ≤ n
theorem mn1000 (a : Nat) : Builtin.min2 (.int .i64 (a : Int)) (.int .i64 1000) = pure (.int .i64 ((min a 1000 : Nat) : Int)) := mnNat .i64 .i64 a 1000

set_option maxRecDepth 100000 in
set_option maxHeartbeats 8000000 in
theorem few_of (A : Option Addr) (c : Nat) (t : List Fl) (w : World) (ht : file.Row w A c t) (hz : Szs 140737488355328 t) :
    Calls Tryd.prog 17 #[.slice A t.length c] w (FewP t w) := by
  have hl := ht.len
  have HT := Lib.hid ht; have HZ := Lib.hid hz
  clear ht hz
  go_enter Tryd.func17, Tryd.ntmps17
  go_wp2_with fail
  go_loopw [3, 4] (fun n i wr => ∃ k n' : Nat, k ≤ t.length ∧ k ≤ 20 ∧ n' ≤ k * 2000 ∧ n = .int .i64 n' ∧ i = .int .i64 k ∧ Hid (FewTo t k n') ∧ Hid (Ch no w wr)) (fun n i _ => t.length - (intOf i).toNat)
  case atStart => exact ⟨0, 0, by omega, by omega, by omega, rfl, rfl, Lib.hid (fun j h h' => by omega), Lib.hid (Ch.refl no w)⟩
  case round =>
    obtain ⟨k, n, hk, hk20, hn, rfl, rfl, HF, HC⟩ := hrel
    by_cases hlt : k < t.length
    · by_cases h20 : k < 20
      · have h20i : (k : Int) < 20 := by omega
        obtain ⟨ad, rfl, hc0, hc1⟩ := file_at (HT.out.ch HC.out) k hlt
        have hzk := HZ.out.at k hlt
        have hm1 := mn1000 t[k].path.size
        have hm2 := mn1000 t[k].text.size
        obtain ⟨m1, hmm1⟩ : ∃ m, min t[k].path.size 1000 = m := ⟨_, rfl⟩
        obtain ⟨m2, hmm2⟩ : ∃ m, min t[k].text.size 1000 = m := ⟨_, rfl⟩
        have hF2 : FewTo t (k + 1) (n + m1 + m2) := by
          intro j hj hjk
          by_cases e : j = k
          · subst e; omega
          · have := HF.out j hj (by omega)
            omega
        have HF2 := Lib.hid hF2
        have hb1 : m1 ≤ 1000 := by omega
        have hb2 : m2 ≤ 1000 := by omega
        rw [hmm1] at hm1
        rw [hmm2] at hm2
        clear hmm1 hmm2 hF2
        have hw1 : IntKind.i64.wrap ((n : Int) + (m1 : Int)) = (n : Int) + m1 := IntWalk.i64_in _ (by omega)
        have hw2 : IntKind.i64.wrap ((n : Int) + (m1 : Int) + (m2 : Int)) = (n : Int) + m1 + m2 := IntWalk.i64_in _ (by omega)
        go_wp2_with fail
        go_quiet (fail)
        go_wp2_with fail
        go_roundw
        case rel => exact ⟨k + 1, n + m1 + m2, by omega, by omega, by omega, by go_num, by go_num, HF2, Lib.hid (HC.out.drewN _)⟩
        case measure => simp [intOf]; omega
      · have h20i : ¬ (k : Int) < 20 := by omega
        have hno : ¬ (t.length : Int) ≤ 12 := by omega
        go_wp2_with fail
        go_ret
        exact ⟨_, rfl, by simp, HC.out⟩
    · obtain rfl : k = t.length := by omega
      by_cases h12 : (t.length : Int) ≤ 12
      · by_cases h6 : (n : Int) ≤ 600
        · have HRR : Hid (t.length ≤ 12 ∧ Szs 600 t) := Lib.hid ⟨by omega, fun f hf => by
            obtain ⟨j, hj, rfl⟩ := List.getElem_of_mem hf
            have := HF.out j hj hj
            omega⟩
          go_wp2_with fail
          go_ret
          exact ⟨_, rfl, fun _ => HRR.out, HC.out⟩
        · go_wp2_with fail
          go_ret
          exact ⟨_, rfl, by simp, HC.out⟩
      · go_wp2_with fail
        go_ret
        exact ⟨_, rfl, by simp, HC.out⟩

/-- What the look gives, if it is yes. -/
def GoodP (t : List Fl) (w : World) (e : Ending) (w' : World) : Prop := ∃ b, e = .returned (.bool b) ∧ (b = true → Rise t ∧ t.length ≤ 12 ∧ Szs 600 t) ∧ Ch no w w'
set_option maxHeartbeats 1000000 in
theorem good_of (A : Option Addr) (c : Nat) (t : List Fl) (w : World) (ht : file.Row w A c t) (hz : Szs 140737488355328 t) :
    Calls Tryd.prog 12 #[.slice A t.length c] w (GoodP t w) := by
  have HT := Lib.hid ht; have HZ := Lib.hid hz
  clear ht hz
  go_enter Tryd.func12, Tryd.ntmps12
  go_wp2_with fail
  refine (few_of A c t w HT.out HZ.out).mono ?_
  rintro e w1 ⟨b, rfl, h, hc⟩
  have HC := Lib.hid hc; have HH := Lib.hid h
  clear hc h
  cases b with
  | false =>
    go_wp2_with fail
    go_ret
    exact ⟨_, rfl, by simp, HC.out⟩
  | true =>
    have HH3 := Lib.hid (HH.out rfl)
    clear HH
    go_wp2_with fail
    refine (right_of A c t w1 (HT.out.ch HC.out) HZ.out).mono ?_
    rintro e w2 ⟨b, rfl, h, hc⟩
    have HC2 := Lib.hid (HC.out.same hc); have HH2 := Lib.hid h
    clear hc h
    cases b with
    | false =>
      go_wp2_with fail
      go_ret
      exact ⟨_, rfl, by simp, HC2.out⟩
    | true =>
      have HH4 := Lib.hid (HH2.out rfl)
      clear HH2
      go_wp2_with fail
      go_ret
      exact ⟨_, rfl, fun _ => ⟨HH4.out.1, HH3.out.1, HH3.out.2⟩, HC2.out⟩

end Go.Proofs.YtekeiieefkgopaaDoor.Bo
namespace Go.Proofs.YtekeiieefkgopaaDoor.Bp
open Go.RowKit Go.Proofs.YtekeiieefkgopaaDoor.Aa Go.Proofs.YtekeiieefkgopaaDoor.Vw Go.Proofs.YtekeiieefkgopaaDoor.Ma Go.Proofs.YtekeiieefkgopaaDoor.Mb Go.Proofs.YtekeiieefkgopaaDoor.Mc Go.Proofs.YtekeiieefkgopaaDoor.Nf Go.Proofs.YtekeiieefkgopaaDoor.Nh Go.Proofs.YtekeiieefkgopaaDoor.No Go.Proofs.YtekeiieefkgopaaDoor.Np Go.Proofs.YtekeiieefkgopaaDoor.Nq Go.Proofs.YtekeiieefkgopaaDoor.Pd Go.Proofs.YtekeiieefkgopaaDoor.Pe Go.Proofs.YtekeiieefkgopaaDoor.Ba Go.Proofs.YtekeiieefkgopaaDoor.Bb Go.Proofs.YtekeiieefkgopaaDoor.Bi Go.Proofs.YtekeiieefkgopaaDoor.Bk Go.Proofs.YtekeiieefkgopaaDoor.Bm Go.Proofs.YtekeiieefkgopaaDoor.Bn Go.Proofs.YtekeiieefkgopaaDoor.Bo
set_option linter.unusedVariables false
set_option linter.unusedSimpArgs false

theorem fcells_get (t : List Fl) : ∀ (i : Nat) (x : Fl) (j : Nat) (c : Value), t[i]? = some x → ([.string x.path, .string x.text] : List Value)[j]? = some c → (fcells t)[i * 2 + j]? = some c := by
  induction t with
  | nil => intro i x j c h; simp at h
  | cons f t ih =>
    intro i x j c h hj
    have e : fcells (f :: t) = .string f.path :: .string f.text :: fcells t := by simp [fcells]
    rw [e]
    cases i with
    | zero =>
      have e2 : f = x := by simpa using h
      subst e2
      match j, hj with
      | 0, hj => simpa using hj
      | 1, hj => simpa using hj
      | j + 2, hj => simp at hj
    | succ i =>
      have := ih i x j c (by simpa using h) hj
      rw [show (i + 1) * 2 + j = (i * 2 + j) + 1 + 1 by omega]
      simpa using this
/-- A tree that is ours, read. -/
theorem own_row {w : World} {B : Nat} {v : Value} {t : List Fl} (h : OwnT w B v t) : ∃ A cap, v = .slice A t.length cap ∧ file.Row w A cap t := by
  obtain ⟨_, ⟨rfl, h2⟩ | ⟨g, cap, cur, rfl, _, hg, hn, hc, hs, ht⟩⟩ := h
  · refine ⟨none, 0, by rw [h2], ⟨by omega, by unfold maxLen; omega, fun _ => rfl, fun i x hx => ?_⟩⟩
    have := (List.getElem?_eq_some_iff.1 hx).1
    omega
  · refine ⟨_, cap, rfl, ⟨hn, hc, fun h => by (cases h), fun i x hx => ⟨_, [.string x.path, .string x.text], rfl, rfl, fun j c hj => ?_⟩⟩⟩
    have hz : file.sz = 2 := rfl
    rw [hz]
    have e : (Addr.add ⟨g, 0, none⟩ (i * 2 + j)) = ⟨g, i * 2 + j, none⟩ := by unfold Addr.add; split <;> simp_all
    rw [e, bCell hg]
    have h4 := fcells_get t i x j c hx hj
    rw [← ht, List.getElem?_take] at h4
    split at h4
    · rwa [Array.getElem?_toList] at h4
    · cases h4
/-- A block that holds a tree. -/
theorem row_block {W : World} {g : Nat} (t : List Fl) (h : W.heap[g]? = some (.cells (fcells t).toArray 31 (0, 0))) (hl : t.length ≤ 1000) : file.Row W (some ⟨g, 0, none⟩) t.length t := by
  have hf := fcells_len t
  have ho : OwnT W g (.slice (some ⟨g, 0, none⟩) t.length t.length) t := ⟨hf, .inr ⟨g, t.length, _, rfl, Nat.le_refl _, h, Nat.le_refl _, by unfold maxLen; omega, by simp [hf], by rw [← hf]; simp⟩⟩
  obtain ⟨A, cap, e, hr⟩ := own_row ho
  injection e with e1 e2 e3
  subst e1; subst e3
  exact hr

theorem ofF_size {n : Nat} {t : List Fl} (h : Szs n t) (p : ByteArray) : (ofF t p).text.size ≤ n := by
  unfold ofF
  cases hg : getF t p with
  | none => exact Nat.zero_le _
  | some s =>
    unfold getF at hg
    cases hf : t.find? (fun f => decide (f.path = p)) with
    | none => rw [hf] at hg; cases hg
    | some f =>
      rw [hf] at hg
      have e : f.text = s := by simpa using hg
      subst e
      exact (h f (List.mem_of_find?_eq_some hf)).2
theorem clash_any (o a b : ByteArray) (ho : o.size ≤ 1000) (ha : a.size ≤ 1000) (hb : b.size ≤ 1000) : (textOf o a b).2 ≤ 1000000 := by
  obtain ⟨r, h⟩ : ∃ r, (textOf o a b).2 = r := ⟨_, rfl⟩
  rw [h]
  simp only [textOf] at h
  have lo := split_len o.size o; have la := split_len a.size a; have lb := split_len b.size b
  have hf := (regs_ok (splitS o) (splitS a) (splitS b) (by unfold splitS; omega) (by unfold splitS; omega) (by unfold splitS; omega)).2.1
  have hc := clash_le (regionsOf (splitS o) (splitS a) (splitS b)) (regionsOf (splitS o) (splitS a) (splitS b)).length
  rw [List.take_of_length_le (Nat.le_refl _)] at hc
  unfold splitS at *
  split at h
  · simp only [] at h; omega
  · split at h
    · simp only [] at h; omega
    · split at h
      · simp only [] at h; omega
      · simp only [] at h; omega
/-- Two sides' trees, together, in memory. -/
def TreesP (o a b : List Fl) (w : World) (e : Ending) (w' : World) : Prop := ∃ A c Ad cd, e = .returned (.tuple #[.slice A (treesL o a b).1.length c, .slice Ad (treesL o a b).2.length cd]) ∧ file.Row w' A c (treesL o a b).1 ∧ El.str.Row w' Ad cd (treesL o a b).2 ∧ Ch no w w'
theorem trees_any (o a b : List Fl) (Ao Aa Ab : Option Addr) (co ca cb : Nat) (w : World) (ho : file.Row w Ao co o) (ha : file.Row w Aa ca a) (hb : file.Row w Ab cb b) (ro : Rise o) (ra : Rise a) (rb : Rise b)
    (lo : o.length ≤ 1000) (la : a.length ≤ 1000) (lb : b.length ≤ 1000) (zo : Szs 1000 o) (za : Szs 1000 a) (zb : Szs 1000 b) :
    Calls Tryd.prog 13 #[.slice Ao o.length co, .slice Aa a.length ca, .slice Ab b.length cb] w (TreesP o a b w) := by
  refine (trees_of o a b Ao Aa Ab co ca cb w ho ha hb ro ra rb lo la lb (fun p W => one_of _ _ _ W (fun _ _ _ W => text_any _ _ _ W (ofF_size zo p) (ofF_size za p) (ofF_size zb p)) (fun _ _ _ => clash_any _ _ _ (ofF_size zo p) (ofF_size za p) (ofF_size zb p)))).mono ?_
  rintro e w' ⟨vo, vd, rfl, h1, h2, h3⟩
  obtain ⟨A, c, rfl, hr⟩ := own_row h1
  obtain ⟨Ad, cd, rfl, hr2⟩ := El.Row.of_own h2
  exact ⟨A, c, Ad, cd, rfl, hr, hr2, h3⟩

def fx1 : Fl := ⟨⟨#[120]⟩, ⟨#[49]⟩⟩
def fy2 : Fl := ⟨⟨#[121]⟩, ⟨#[50]⟩⟩
def fx0 : Fl := ⟨⟨#[120]⟩, ⟨#[48]⟩⟩
theorem ex1 : treesL [] [fx1] [fy2] = ([fx1, fy2], []) := by decide +kernel
theorem ex2 : treesL [fx0] [fx1] [fy2] = ([fx1, fy2], [⟨#[120]⟩]) := by decide +kernel
theorem rise1 (f : Fl) : Rise [f] := by unfold Rise; simp
theorem szs1 (f : Fl) (h : f.path.size ≤ 1000) (h2 : f.text.size ≤ 1000) : Szs 1000 [f] := by intro x hx; simp at hx; subst hx; exact ⟨h, h2⟩
end Go.Proofs.YtekeiieefkgopaaDoor.Bp
namespace Go.Proofs.YtekeiieefkgopaaDoor.Bq
open Go.RowKit Go.Proofs.YtekeiieefkgopaaDoor.Aa Go.Proofs.YtekeiieefkgopaaDoor.Vw Go.Proofs.YtekeiieefkgopaaDoor.Ma Go.Proofs.YtekeiieefkgopaaDoor.Mb Go.Proofs.YtekeiieefkgopaaDoor.Mr Go.Proofs.YtekeiieefkgopaaDoor.Mt Go.Proofs.YtekeiieefkgopaaDoor.Na Go.Proofs.YtekeiieefkgopaaDoor.No Go.Proofs.YtekeiieefkgopaaDoor.Nq Go.Proofs.YtekeiieefkgopaaDoor.Ba Go.Proofs.YtekeiieefkgopaaDoor.Bb Go.Proofs.YtekeiieefkgopaaDoor.Bk Go.Proofs.YtekeiieefkgopaaDoor.Bm Go.Proofs.YtekeiieefkgopaaDoor.Bn Go.Proofs.YtekeiieefkgopaaDoor.Bo Go.Proofs.YtekeiieefkgopaaDoor.Bp
set_option linter.unusedVariables false
set_option linter.unusedSimpArgs false

theorem str_block {W : World} {g : Nat} (xs : List ByteArray) (h : W.heap[g]? = some (.cells (xs.map Value.string).toArray 9 (0, 0))) (hl : xs.length ≤ 1000) : El.str.Row W (some ⟨g, 0, none⟩) xs.length xs := by
  have ho : OwnS W g (.slice (some ⟨g, 0, none⟩) xs.length xs.length) xs := ⟨by simp, .inr ⟨g, xs.length, _, rfl, Nat.le_refl _, h, Nat.le_refl _, by unfold maxLen; omega, by simp, by simp [List.take_of_length_le]⟩⟩
  obtain ⟨A, cap, e, hr⟩ := El.Row.of_own ho
  injection e with e1 e2 e3
  subst e1; subst e3
  exact hr
theorem aw1 (Aa Ab : Option Addr) (w : World) (ha : file.Row w Aa 1 [fx1]) (hb : file.Row w Ab 1 [fy2]) : Calls Tryd.prog 13 #[.slice none 0 0, .slice Aa 1 1, .slice Ab 1 1] w fun e w' => ∃ A c Ad cd, e = .returned (.tuple #[.slice A 2 c, .slice Ad 0 cd]) ∧ file.Row w' A c [fx1, fy2] ∧ El.str.Row w' Ad cd [] ∧ Ch no w w' := by
  have h := trees_any [] [fx1] [fy2] none Aa Ab 0 1 1 w (El.Row.nil _ _) ha hb (by unfold Rise; simp) (rise1 _) (rise1 _) (by simp) (by simp) (by simp) (by intro f hf; simp at hf) (szs1 _ (by decide) (by decide)) (szs1 _ (by decide) (by decide))
  unfold TreesP at h
  rw [ex1] at h
  exact h
theorem aw2 (Ao Aa Ab : Option Addr) (w : World) (ho : file.Row w Ao 1 [fx0]) (ha : file.Row w Aa 1 [fx1]) (hb : file.Row w Ab 1 [fy2]) : Calls Tryd.prog 13 #[.slice Ao 1 1, .slice Aa 1 1, .slice Ab 1 1] w fun e w' => ∃ A c Ad cd, e = .returned (.tuple #[.slice A 2 c, .slice Ad 1 cd]) ∧ file.Row w' A c [fx1, fy2] ∧ El.str.Row w' Ad cd [⟨#[120]⟩] ∧ Ch no w w' := by
  have h := trees_any [fx0] [fx1] [fy2] Ao Aa Ab 1 1 1 w ho ha hb (rise1 _) (rise1 _) (rise1 _) (by simp) (by simp) (by simp) (szs1 _ (by decide) (by decide)) (szs1 _ (by decide) (by decide)) (szs1 _ (by decide) (by decide))
  unfold TreesP at h
  rw [ex2] at h
  exact h

set_option maxRecDepth 100000 in
set_option maxHeartbeats 8000000 in
theorem awake_of (w : World) : Calls Tryd.prog 11 #[] w fun e w' => e = .returned (.bool true) ∧ Ch no w w' := by
  obtain ⟨g, hg⟩ : ∃ g, w.heap.size = g := ⟨_, rfl⟩
  have hal := al2 w (.cells #[.string ⟨#[120]⟩, .string ⟨#[49]⟩] 31) (.cells #[.string ⟨#[121]⟩, .string ⟨#[50]⟩] 31)
  have hc2 : Ch no w ((w.alloc (.cells #[.string ⟨#[120]⟩, .string ⟨#[49]⟩] 31)).alloc (.cells #[.string ⟨#[121]⟩, .string ⟨#[50]⟩] 31)) := ((Ch.refl no w).alloc _).alloc _
  obtain ⟨W2, hW2⟩ : ∃ W2, (w.alloc (.cells #[.string ⟨#[120]⟩, .string ⟨#[49]⟩] 31)).alloc (.cells #[.string ⟨#[121]⟩, .string ⟨#[50]⟩] 31) = W2 := ⟨_, rfl⟩
  rw [hW2, hg] at hal
  rw [hW2] at hc2
  have HA := Lib.hid (row_block [fx1] hal.1 (by decide)); have HB := Lib.hid (row_block [fy2] hal.2 (by decide))
  have HC2 := Lib.hid hc2; have HG := Lib.hid hg; have HAL := Lib.hid hal
  clear hg hal hc2
  go_enter Tryd.func11, Tryd.ntmps11
  go_upto_region 3 with (fail)
  rw [HG.out]
  clear hW2
  go_wp2_with fail
  refine (aw1 _ _ W2 HA.out HB.out).mono ?_
  rintro e W3 ⟨A3, c3, Ad, cd, rfl, hr3, hd3, hc3⟩
  have HR3 := Lib.hid hr3; have HC3 := Lib.hid hc3
  clear hr3 hd3 hc3
  have HA3 := Lib.hid (HA.out.ch HC3.out); have HB3 := Lib.hid (HB.out.ch HC3.out)
  have HN := Lib.hid (row_block [fx0] (bNew W3 (.cells (fcells [fx0]).toArray 31)) (by decide))
  go_wp2_with fail
  refine (aw2 _ _ _ _ HN.out (HA3.out.ch ((Ch.refl no _).alloc _)) (HB3.out.ch ((Ch.refl no _).alloc _))).mono ?_
  rintro e W5 ⟨A5, c5, A6, c6, rfl, hr5, hr6, hc5⟩
  have HR5 := Lib.hid hr5; have HR6 := Lib.hid hr6; have HC5 := Lib.hid (((Ch.refl no W3).alloc _).same hc5)
  have HC0 : Hid (Ch no w W5) := Lib.hid ((HC2.out.same HC3.out).same HC5.out)
  clear hr5 hr6 hc5
  have a0 := (bCell ((HC3.out.same HC5.out).blk HAL.out.1 (no_not _)) 0).trans rfl
  have a1 := (bCell ((HC3.out.same HC5.out).blk HAL.out.1 (no_not _)) 1).trans rfl
  have b0 := (bCell ((HC3.out.same HC5.out).blk HAL.out.2 (no_not _)) 0).trans rfl
  have b1 := (bCell ((HC3.out.same HC5.out).blk HAL.out.2 (no_not _)) 1).trans rfl
  go_wp2_with fail
  refine wp_region_tail (G := gds [Gd.is ?r5v0, Gd.is ?r5v1, Gd.is (.bool true), Gd.is (.bool true), Gd.is ?r5v4, Gd.is ?r5v5, Gd.is ?r5v6, Gd.is ?r5v7, Gd.is ?r5v8, Gd.is ?r5v9, Gd.is ?r5v10, ⟨fun v X => ∃ b, v = .slice (some ⟨b, 0, none⟩) 2 2 ∧ X.heap[b]? = some (.cells (fcells [fx1, fy2]).toArray 31 (0, 0)), fun v X Y ⟨b, h1, h2⟩ hc => ⟨b, h1, hc.blk h2 (no_not _)⟩⟩, Gd.is (.bool true), Gd.is (.bool true), Gd.is (.bool true), Gd.is ?r5v15, Gd.is ?r5v16, Gd.is (.bool true), Gd.is (.bool true), Gd.is (.bool true), Gd.is ?r5v20, ⟨fun v X => ∃ b, v = .slice (some ⟨b, 0, none⟩) 1 1 ∧ X.heap[b]? = some (.cells #[.string ⟨#[120]⟩] 9 (0, 0)), fun v X Y ⟨b, h1, h2⟩ hc => ⟨b, h1, hc.blk h2 (no_not _)⟩⟩, Gd.is (.bool true), Gd.is (.bool true)]) 24 (by kernel_rfl) (by kernel_rfl) rfl (by kernel_rfl) gds_st ?obl5 ?fin5
  case obl5 =>
    simp only [Obls, and_true, List.take_succ_cons, List.take_zero]
    refine ⟨?_, ?_, ?_, ?_, ?_, ?_, ?_, ?_, ?_, ?_, ?_, ?_, ?_, ?_, ?_, ?_, ?_, ?_, ?_, ?_, ?_, ?_, ?_, ?_⟩
    · intro vs W hW hd
      simp only [fill, List.setIfInBounds_toArray, List.set_cons_zero, List.set_cons_succ]
      clear hd
      go_wp2_with (fail)
      refine ⟨rfl, rfl, Ch.refl _ _, gds_is rfl ?_⟩
      (conv => lhs; whnf)
    · intro vs W hW hd
      simp only [fill, List.setIfInBounds_toArray, List.set_cons_zero, List.set_cons_succ]
      have d0 := gds_at rfl (hd ⟨0, .data⟩ (by simp) rfl)
      rw [d0]
      clear hd d0
      have hWW := (Ch.refl no W5).drew.same hW
      have q0 := cell_ch hWW a0
      have q1 := cell_ch hWW a1
      have q2 := cell_ch hWW b0
      have q3 := cell_ch hWW b1
      go_wp2_with (fail)
      refine ⟨rfl, rfl, Ch.refl _ _, gds_is rfl ?_⟩
      (conv => lhs; whnf)
    · intro vs W hW hd
      simp only [fill, List.setIfInBounds_toArray, List.set_cons_zero, List.set_cons_succ]
      have d1 := gds_at rfl (hd ⟨1, .data⟩ (by simp) rfl)
      rw [d1]
      clear hd d1
      go_wp2_with (fail)
      refine ⟨rfl, rfl, Ch.refl _ _, gds_is rfl ?_⟩
      (conv => lhs; whnf)
    · intro vs W hW hd
      simp only [fill, List.setIfInBounds_toArray, List.set_cons_zero, List.set_cons_succ]
      have d2 := gds_at rfl (hd ⟨2, .data⟩ (by simp) rfl)
      rw [d2]
      clear hd d2
      go_wp2_with (fail)
      refine ⟨rfl, rfl, Ch.refl _ _, gds_is rfl ?_⟩
      (conv => lhs; whnf)
    · intro vs W hW hd
      simp only [fill, List.setIfInBounds_toArray, List.set_cons_zero, List.set_cons_succ]
      have d3 := gds_at rfl (hd ⟨3, .guard⟩ (by simp) rfl)
      rw [d3]
      clear hd d3
      go_wp2_with (fail)
      refine ⟨rfl, rfl, Ch.refl _ _, gds_is rfl ?_⟩
      (conv => lhs; whnf)
    · intro vs W hW hd
      simp only [fill, List.setIfInBounds_toArray, List.set_cons_zero, List.set_cons_succ]
      have d3 := gds_at rfl (hd ⟨3, .guard⟩ (by simp) rfl)
      rw [d3]
      clear hd d3
      go_wp2_with (fail)
      refine ⟨rfl, rfl, Ch.refl _ _, gds_is rfl ?_⟩
      (conv => lhs; whnf)
    · intro vs W hW hd
      simp only [fill, List.setIfInBounds_toArray, List.set_cons_zero, List.set_cons_succ]
      have d3 := gds_at rfl (hd ⟨3, .guard⟩ (by simp) rfl)
      have d5 := gds_at rfl (hd ⟨5, .data⟩ (by simp) rfl)
      rw [d3, d5]
      clear hd d3 d5
      go_wp2_with (fail)
      refine ⟨rfl, rfl, Ch.refl _ _, gds_is rfl ?_⟩
      (conv => lhs; whnf)
    · intro vs W hW hd
      simp only [fill, List.setIfInBounds_toArray, List.set_cons_zero, List.set_cons_succ]
      have d3 := gds_at rfl (hd ⟨3, .guard⟩ (by simp) rfl)
      have d6 := gds_at rfl (hd ⟨6, .data⟩ (by simp) rfl)
      rw [d3, d6]
      clear hd d3 d6
      have hWW := (Ch.refl no W5).drew.same hW
      have q0 := cell_ch hWW a0
      have q1 := cell_ch hWW a1
      have q2 := cell_ch hWW b0
      have q3 := cell_ch hWW b1
      go_wp2_with (fail)
      refine ⟨rfl, rfl, Ch.refl _ _, gds_is rfl ?_⟩
      (conv => lhs; whnf)
    · intro vs W hW hd
      simp only [fill, List.setIfInBounds_toArray, List.set_cons_zero, List.set_cons_succ]
      have d3 := gds_at rfl (hd ⟨3, .guard⟩ (by simp) rfl)
      rw [d3]
      clear hd d3
      go_wp2_with (fail)
      refine ⟨rfl, rfl, Ch.refl _ _, gds_is rfl ?_⟩
      (conv => lhs; whnf)
    · intro vs W hW hd
      simp only [fill, List.setIfInBounds_toArray, List.set_cons_zero, List.set_cons_succ]
      have d3 := gds_at rfl (hd ⟨3, .guard⟩ (by simp) rfl)
      have d8 := gds_at rfl (hd ⟨8, .data⟩ (by simp) rfl)
      rw [d3, d8]
      clear hd d3 d8
      go_wp2_with (fail)
      refine ⟨rfl, rfl, Ch.refl _ _, gds_is rfl ?_⟩
      (conv => lhs; whnf)
    · intro vs W hW hd
      simp only [fill, List.setIfInBounds_toArray, List.set_cons_zero, List.set_cons_succ]
      have d3 := gds_at rfl (hd ⟨3, .guard⟩ (by simp) rfl)
      have d9 := gds_at rfl (hd ⟨9, .data⟩ (by simp) rfl)
      rw [d3, d9]
      clear hd d3 d9
      have hWW := (Ch.refl no W5).drew.same hW
      have q0 := cell_ch hWW a0
      have q1 := cell_ch hWW a1
      have q2 := cell_ch hWW b0
      have q3 := cell_ch hWW b1
      go_wp2_with (fail)
      refine ⟨rfl, rfl, Ch.refl _ _, gds_is rfl ?_⟩
      (conv => lhs; whnf)
    · intro vs W hW hd
      simp only [fill, List.setIfInBounds_toArray, List.set_cons_zero, List.set_cons_succ]
      have d3 := gds_at rfl (hd ⟨3, .guard⟩ (by simp) rfl)
      have d7 := gds_at rfl (hd ⟨7, .data⟩ (by simp) rfl)
      have d10 := gds_at rfl (hd ⟨10, .data⟩ (by simp) rfl)
      rw [d3, d7, d10]
      clear hd d3 d7 d10
      go_wp2_with (fail)
      exact ⟨rfl, rfl, (Ch.refl _ _).alloc _, gds_mk rfl ⟨_, rfl, bNew _ _⟩⟩
    · intro vs W hW hd
      simp only [fill, List.setIfInBounds_toArray, List.set_cons_zero, List.set_cons_succ]
      have d3 := gds_at rfl (hd ⟨3, .guard⟩ (by simp) rfl)
      have d4 := gds_at rfl (hd ⟨4, .data⟩ (by simp) rfl)
      have d11 := gds_get rfl (hd ⟨11, .data⟩ (by simp) rfl)
      obtain ⟨bb, e11, hbk⟩ := d11
      rw [e11]
      have HBK := Lib.hid hbk
      clear hbk e11
      rw [d3, d4]
      clear hd d3 d4
      have hWW := (Ch.refl no W5).drew.same hW
      have q0 := cell_ch hWW a0
      have q1 := cell_ch hWW a1
      have q2 := cell_ch hWW b0
      have q3 := cell_ch hWW b1
      go_wp2_with (have hs := same_of A3 (some ⟨bb, 0, none⟩) c3 2 [fx1, fy2] [fx1, fy2] W (HR3.out.ch (HC5.out.same hWW)) (row_block _ HBK.out (by decide)); rw [decide_eq_true (rfl : ([fx1, fy2] : List Fl) = [fx1, fy2])] at hs; refine hs.mono ?_; rintro e w2 ⟨rfl, hdr⟩; have hch := Dr.ch hdr no)
      exact ⟨rfl, rfl, hch, gds_is rfl rfl⟩
    · intro vs W hW hd
      simp only [fill, List.setIfInBounds_toArray, List.set_cons_zero, List.set_cons_succ]
      have d3 := gds_at rfl (hd ⟨3, .data⟩ (by simp) rfl)
      have d12 := gds_at rfl (hd ⟨12, .data⟩ (by simp) rfl)
      rw [d3, d12]
      clear hd d3 d12
      go_wp2_with (fail)
      refine ⟨rfl, rfl, Ch.refl _ _, gds_is rfl ?_⟩
      (conv => lhs; whnf)
    · intro vs W hW hd
      simp only [fill, List.setIfInBounds_toArray, List.set_cons_zero, List.set_cons_succ]
      have d13 := gds_at rfl (hd ⟨13, .data⟩ (by simp) rfl)
      rw [d13]
      clear hd d13
      go_wp2_with (fail)
      refine ⟨rfl, rfl, Ch.refl _ _, gds_is rfl ?_⟩
      (conv => lhs; whnf)
    · intro vs W hW hd
      simp only [fill, List.setIfInBounds_toArray, List.set_cons_zero, List.set_cons_succ]
      have d14 := gds_at rfl (hd ⟨14, .guard⟩ (by simp) rfl)
      rw [d14]
      clear hd d14
      go_wp2_with (fail)
      refine ⟨rfl, rfl, Ch.refl _ _, gds_is rfl ?_⟩
      (conv => lhs; whnf)
    · intro vs W hW hd
      simp only [fill, List.setIfInBounds_toArray, List.set_cons_zero, List.set_cons_succ]
      have d14 := gds_at rfl (hd ⟨14, .guard⟩ (by simp) rfl)
      rw [d14]
      clear hd d14
      go_wp2_with (fail)
      refine ⟨rfl, rfl, Ch.refl _ _, gds_is rfl ?_⟩
      (conv => lhs; whnf)
    · intro vs W hW hd
      simp only [fill, List.setIfInBounds_toArray, List.set_cons_zero, List.set_cons_succ]
      have d14 := gds_at rfl (hd ⟨14, .guard⟩ (by simp) rfl)
      have d15 := gds_at rfl (hd ⟨15, .data⟩ (by simp) rfl)
      have d16 := gds_at rfl (hd ⟨16, .data⟩ (by simp) rfl)
      rw [d14, d15, d16]
      clear hd d14 d15 d16
      have hWW := (Ch.refl no W5).drew.same hW
      have q0 := cell_ch hWW a0
      have q1 := cell_ch hWW a1
      have q2 := cell_ch hWW b0
      have q3 := cell_ch hWW b1
      go_wp2_with (have hs := same_of A5 A3 c5 c3 [fx1, fy2] [fx1, fy2] W (HR5.out.ch hWW) (HR3.out.ch (HC5.out.same hWW)); rw [decide_eq_true (rfl : ([fx1, fy2] : List Fl) = [fx1, fy2])] at hs; refine hs.mono ?_; rintro e w2 ⟨rfl, hdr⟩; have hch := Dr.ch hdr no)
      exact ⟨rfl, rfl, hch, gds_is rfl rfl⟩
    · intro vs W hW hd
      simp only [fill, List.setIfInBounds_toArray, List.set_cons_zero, List.set_cons_succ]
      have d14 := gds_at rfl (hd ⟨14, .data⟩ (by simp) rfl)
      have d17 := gds_at rfl (hd ⟨17, .data⟩ (by simp) rfl)
      rw [d14, d17]
      clear hd d14 d17
      go_wp2_with (fail)
      refine ⟨rfl, rfl, Ch.refl _ _, gds_is rfl ?_⟩
      (conv => lhs; whnf)
    · intro vs W hW hd
      simp only [fill, List.setIfInBounds_toArray, List.set_cons_zero, List.set_cons_succ]
      have d18 := gds_at rfl (hd ⟨18, .data⟩ (by simp) rfl)
      rw [d18]
      clear hd d18
      go_wp2_with (fail)
      refine ⟨rfl, rfl, Ch.refl _ _, gds_is rfl ?_⟩
      (conv => lhs; whnf)
    · intro vs W hW hd
      simp only [fill, List.setIfInBounds_toArray, List.set_cons_zero, List.set_cons_succ]
      have d19 := gds_at rfl (hd ⟨19, .guard⟩ (by simp) rfl)
      rw [d19]
      clear hd d19
      go_wp2_with (fail)
      refine ⟨rfl, rfl, Ch.refl _ _, gds_is rfl ?_⟩
      (conv => lhs; whnf)
    · intro vs W hW hd
      simp only [fill, List.setIfInBounds_toArray, List.set_cons_zero, List.set_cons_succ]
      have d19 := gds_at rfl (hd ⟨19, .guard⟩ (by simp) rfl)
      rw [d19]
      clear hd d19
      go_wp2_with (fail)
      exact ⟨rfl, rfl, (Ch.refl _ _).alloc _, gds_mk rfl ⟨_, rfl, bNew _ _⟩⟩
    · intro vs W hW hd
      simp only [fill, List.setIfInBounds_toArray, List.set_cons_zero, List.set_cons_succ]
      have d19 := gds_at rfl (hd ⟨19, .guard⟩ (by simp) rfl)
      have d20 := gds_at rfl (hd ⟨20, .data⟩ (by simp) rfl)
      have d21 := gds_get rfl (hd ⟨21, .data⟩ (by simp) rfl)
      obtain ⟨bb, e21, hbk⟩ := d21
      rw [e21]
      have HBK := Lib.hid hbk
      clear hbk e21
      rw [d19, d20]
      clear hd d19 d20
      have hWW := (Ch.refl no W5).drew.same hW
      have q0 := cell_ch hWW a0
      have q1 := cell_ch hWW a1
      have q2 := cell_ch hWW b0
      have q3 := cell_ch hWW b1
      go_wp2_with (have hs := texts_any A6 (some ⟨bb, 0, none⟩) c6 1 [⟨#[120]⟩] [⟨#[120]⟩] W (HR6.out.ch hWW) (str_block [⟨#[120]⟩] HBK.out (by decide)); rw [decide_eq_true (rfl : ([⟨#[120]⟩] : List ByteArray) = [⟨#[120]⟩])] at hs; refine hs.mono ?_; rintro e w2 ⟨rfl, hdr⟩; have hch := Dr.ch hdr no)
      exact ⟨rfl, rfl, hch, gds_is rfl rfl⟩
    · intro vs W hW hd
      simp only [fill, List.setIfInBounds_toArray, List.set_cons_zero, List.set_cons_succ]
      have d19 := gds_at rfl (hd ⟨19, .data⟩ (by simp) rfl)
      have d22 := gds_at rfl (hd ⟨22, .data⟩ (by simp) rfl)
      rw [d19, d22]
      clear hd d19 d22
      go_wp2_with (fail)
      refine ⟨rfl, rfl, Ch.refl _ _, gds_is rfl ?_⟩
      (conv => lhs; whnf)
  case fin5 =>
    intro vs W hW hd
    simp only [fill, List.setIfInBounds_toArray, List.set_cons_zero, List.set_cons_succ, List.take_succ_cons, List.take_zero, List.drop_succ_cons, List.drop_zero]
    have d0 := gds_at rfl (hd 0 (by omega))
    have d1 := gds_at rfl (hd 1 (by omega))
    have d2 := gds_at rfl (hd 2 (by omega))
    have d3 := gds_at rfl (hd 3 (by omega))
    have d4 := gds_at rfl (hd 4 (by omega))
    have d5 := gds_at rfl (hd 5 (by omega))
    have d6 := gds_at rfl (hd 6 (by omega))
    have d7 := gds_at rfl (hd 7 (by omega))
    have d8 := gds_at rfl (hd 8 (by omega))
    have d9 := gds_at rfl (hd 9 (by omega))
    have d10 := gds_at rfl (hd 10 (by omega))
    have d11 := gds_get rfl (hd 11 (by omega))
    have d12 := gds_at rfl (hd 12 (by omega))
    have d13 := gds_at rfl (hd 13 (by omega))
    have d14 := gds_at rfl (hd 14 (by omega))
    have d15 := gds_at rfl (hd 15 (by omega))
    have d16 := gds_at rfl (hd 16 (by omega))
    have d17 := gds_at rfl (hd 17 (by omega))
    have d18 := gds_at rfl (hd 18 (by omega))
    have d19 := gds_at rfl (hd 19 (by omega))
    have d20 := gds_at rfl (hd 20 (by omega))
    have d21 := gds_get rfl (hd 21 (by omega))
    have d22 := gds_at rfl (hd 22 (by omega))
    have d23 := gds_at rfl (hd 23 (by omega))
    rw [d0, d1, d2, d3, d4, d5, d6, d7, d8, d9, d10, d12, d13, d14, d15, d16, d17, d18, d19, d20, d22, d23]
    clear hd d0 d1 d2 d3 d4 d5 d6 d7 d8 d9 d10 d12 d13 d14 d15 d16 d17 d18 d19 d20 d22 d23
    have HCC := Lib.hid (HC0.out.same ((Ch.refl no W5).drew.same hW))
    clear hW
    go_wp2_with fail
    go_ret
    exact ⟨rfl, HCC.out⟩

end Go.Proofs.YtekeiieefkgopaaDoor.Bq
namespace Go.Proofs.YtekeiieefkgopaaDoor.Ud
open Go Go.RowKit Go.Proofs.YtekeiieefkgopaaDoor.Aa Go.Proofs.YtekeiieefkgopaaDoor.Vw Go.Proofs.YtekeiieefkgopaaDoor.Ma Go.Proofs.YtekeiieefkgopaaDoor.Mb Go.Proofs.YtekeiieefkgopaaDoor.Ba Go.Proofs.YtekeiieefkgopaaDoor.Bb Go.Proofs.YtekeiieefkgopaaDoor.Bg Go.Proofs.YtekeiieefkgopaaDoor.Bm Go.Proofs.YtekeiieefkgopaaDoor.Bn Go.Proofs.YtekeiieefkgopaaDoor.Ua Go.Proofs.YtekeiieefkgopaaDoor.Ub Go.Proofs.YtekeiieefkgopaaDoor.Uc
set_option linter.unusedVariables false
set_option linter.unusedSimpArgs false

/-- A file that can be. -/
def canB (f : Fl) : Bool := pathB f.path && decide (f.text.size ≤ 65536)
/-- A file that stands right behind the one ahead of it. -/
def okAt (t : List Fl) (k : Nat) : Bool := match t[k]? with
  | some f => canB f && (match k with | 0 => true | j + 1 => match t[j]? with | some g => less g.path f.path | none => true)
  | none => true
def rightB (t : List Fl) : Bool := (List.range t.length).all (okAt t) && decide (t.length ≤ 1000)
theorem okAt_zero {t : List Fl} (h : 0 < t.length) : okAt t 0 = canB t[0] := by
  unfold okAt
  rw [List.getElem?_eq_getElem h]
  simp
theorem okAt_succ {t : List Fl} {k : Nat} (h : k + 1 < t.length) : okAt t (k + 1) = (canB t[k + 1] && less (t[k]'(by omega)).path t[k + 1].path) := by
  have h1 := List.getElem?_eq_getElem h
  have h2 := List.getElem?_eq_getElem (show k < t.length by omega)
  unfold okAt
  simp only [h1, h2]
theorem right_no {t : List Fl} {k : Nat} (h : k < t.length) (hk : okAt t k = false) : rightB t = false := by
  unfold rightB
  rw [List.all_eq_false.2 ⟨k, List.mem_range.2 h, by simp [hk]⟩]; rfl
theorem right_all {t : List Fl} (h : ∀ k, k < t.length → okAt t k = true) : rightB t = decide (t.length ≤ 1000) := by
  unfold rightB
  rw [List.all_eq_true.2 (fun k hk => h k (List.mem_range.1 hk)), Bool.true_and]
theorem right_at {t : List Fl} (h : rightB t = true) : t.length ≤ 1000 ∧ ∀ k, k < t.length → okAt t k = true := by
  unfold rightB at h
  rw [Bool.and_eq_true, List.all_eq_true] at h
  exact ⟨of_decide_eq_true h.2, fun k hk => h.1 k (List.mem_range.2 hk)⟩
theorem right_can {t : List Fl} (h : rightB t = true) : ∀ f ∈ t, canB f = true := by
  intro f hf
  obtain ⟨k, hk, rfl⟩ := List.mem_iff_getElem.1 hf
  have h1 := (right_at h).2 k hk
  cases k with
  | zero => rwa [okAt_zero hk] at h1
  | succ k => rw [okAt_succ hk, Bool.and_eq_true] at h1; exact h1.1
theorem right_mk {t : List Fl} (hl : t.length ≤ 1000) (hr : Rise t) (hc : ∀ f ∈ t, canB f = true) : rightB t = true := by
  rw [right_all (fun k hk => ?_), decide_eq_true hl]
  cases k with
  | zero => rw [okAt_zero hk]; exact hc _ (List.getElem_mem _)
  | succ k =>
    rw [okAt_succ hk, hc _ (List.getElem_mem _), Bool.true_and]
    unfold Rise at hr
    exact (List.pairwise_iff_getElem.1 hr) k (k + 1) (by omega) hk (by omega)
set_option maxRecDepth 100000 in
set_option maxHeartbeats 4000000 in
theorem can_of (f : Fl) (w : World) (hs : f.path.size ≤ 1000000) : Calls Tryd.prog 38 #[.agg #[.string f.path, .string f.text]] w fun e w' => e = .returned (.bool (canB f)) ∧ Ch no w w' := by
  obtain ⟨p, x⟩ := f
  have HR : Hid (canB ⟨p, x⟩ = (pathB p && decide (x.size ≤ 65536))) := Lib.hid rfl
  simp only at hs
  have hb := bNew w (.cells #[.string p, .string x] 31)
  have hc1 : Ch no w (w.alloc (.cells #[.string p, .string x] 31)) := (Ch.refl no w).alloc _
  obtain ⟨g, hg⟩ : ∃ g, w.heap.size = g := ⟨_, rfl⟩
  obtain ⟨w1, hw1⟩ : ∃ w1, w.alloc (.cells #[.string p, .string x] 31) = w1 := ⟨_, rfl⟩
  rw [hg, hw1] at hb
  rw [hw1] at hc1
  have HB := Lib.hid hb; have HC := Lib.hid hc1
  clear hb hc1
  have hp := tpath_of p w1 hs
  obtain ⟨q, hq⟩ : ∃ q, pathB p = q := ⟨_, rfl⟩
  rw [hq] at HR hp
  clear hq
  have d0 := (bCell HB.out 0).trans rfl
  go_enter Tryd.func38, Tryd.ntmps38
  go_upto_region 1 with (fail)
  try rw [hw1]
  clear hg hw1
  go_wp2_with fail
  refine Calls.mono hp ?_
  rintro e w2 ⟨rfl, hc2⟩
  have HC2 := Lib.hid (HC.out.then_ hc2)
  have d1 := (bCell (hc2.blk HB.out (no_not _)) 1).trans rfl
  clear hc2 hp d0
  cases q with
  | false =>
    go_wp2_with fail
    go_ret
    exact ⟨by rw [HR.out]; rfl, HC2.out⟩
  | true =>
    go_wp2_with fail
    go_ret
    exact ⟨by rw [HR.out, Bool.true_and]; first | rfl | (congr 2; simp; omega), HC2.out⟩
end Go.Proofs.YtekeiieefkgopaaDoor.Ud
namespace Go.Proofs.YtekeiieefkgopaaDoor.Ue
open Go Go.RowKit Go.Proofs.YtekeiieefkgopaaDoor.Aa Go.Proofs.YtekeiieefkgopaaDoor.Vw Go.Proofs.YtekeiieefkgopaaDoor.Ma Go.Proofs.YtekeiieefkgopaaDoor.Mb Go.Proofs.YtekeiieefkgopaaDoor.Mi Go.Proofs.YtekeiieefkgopaaDoor.Ba Go.Proofs.YtekeiieefkgopaaDoor.Bb Go.Proofs.YtekeiieefkgopaaDoor.Bg Go.Proofs.YtekeiieefkgopaaDoor.Bm Go.Proofs.YtekeiieefkgopaaDoor.Bn Go.Proofs.YtekeiieefkgopaaDoor.Ua Go.Proofs.YtekeiieefkgopaaDoor.Ub Go.Proofs.YtekeiieefkgopaaDoor.Uc Go.Proofs.YtekeiieefkgopaaDoor.Ud
set_option linter.unusedVariables false
set_option linter.unusedSimpArgs false

theorem okAt_can {t : List Fl} {k : Nat} (h : k < t.length) (hc : canB t[k] = false) : okAt t k = false := by
  cases k with
  | zero => rw [okAt_zero h, hc]
  | succ k => rw [okAt_succ h, hc]; rfl
set_option maxRecDepth 100000 in
set_option maxHeartbeats 8000000 in
theorem refright_of (A : Option Addr) (c : Nat) (t : List Fl) (w : World) (ht : file.Row w A c t) (hz : Szs 140737488355328 t) :
    Calls Tryd.prog 22 #[.slice A t.length c] w fun e w' => e = .returned (.bool (rightB t)) ∧ Ch no w w' := by
  have hl := ht.len
  have HT := Lib.hid ht; have HZ := Lib.hid hz
  clear ht hz
  go_enter Tryd.func22, Tryd.ntmps22
  go_wp2_with fail
  go_loopw [3] (fun i wr => ∃ k : Nat, k ≤ t.length ∧ i = .int .i64 k ∧ Hid (∀ j, j < k → okAt t j = true) ∧ Hid (Ch no w wr)) (fun i _ => t.length - (intOf i).toNat)
  case atStart => exact ⟨0, by omega, rfl, Lib.hid (fun j h => by omega), Lib.hid (Ch.refl no w)⟩
  case round =>
    obtain ⟨k, hk, rfl, HR, HC⟩ := hrel
    by_cases hlt : k < t.length
    · obtain ⟨ad, rfl, hc0, hc1⟩ := file_at (HT.out.ch HC.out) k hlt
      have hzk := HZ.out.at k hlt
      have hp := refpath_of t[k].path wr hzk.1
      obtain ⟨q, hq⟩ : ∃ q, pathB t[k].path = q := ⟨_, rfl⟩
      have HCB : Hid (canB t[k] = (q && decide (t[k].text.size ≤ 65536))) := Lib.hid (by rw [← hq]; rfl)
      have HNO := Lib.hid (fun hh => right_no hlt (okAt_can hlt hh))
      rw [hq] at hp
      clear hq
      cases q with
      | false =>
        have HF : Hid (rightB t = false) := Lib.hid (HNO.out (by rw [HCB.out]; rfl))
        go_wp2_with fail
        refine hp.mono ?_
        rintro e w' ⟨rfl, hw⟩
        subst hw
        clear hp
        go_wp2_with fail
        go_ret
        exact ⟨by rw [HF.out]; rfl, HC.out⟩
      | true =>
        by_cases hsz : t[k].text.size ≤ 65536
        · have hsz2 : ¬ (65536 : Int) < (t[k].text.size : Int) := by omega
          have HC2 : Hid (canB t[k] = true) := Lib.hid (by rw [HCB.out, decide_eq_true hsz]; rfl)
          clear HNO HCB
          rcases Nat.eq_zero_or_pos k with hk0 | hk0
          · have HR2 : Hid (∀ j, j < k + 1 → okAt t j = true) := Lib.hid (fun j hj => by
              obtain rfl : j = k := by omega
              subst hk0
              rw [okAt_zero hlt]; exact HC2.out)
            have hpos : ¬ (0 : Int) < (k : Int) := by omega
            have hpos2 : ¬ 0 < k := by omega
            clear hk0
            go_wp2_with fail
            refine hp.mono ?_
            rintro e w' ⟨rfl, hw⟩
            subst hw
            clear hp
            go_wp2_with fail
            go_quiet (fail)
            go_wp2_with fail
            go_roundw
            case rel => exact ⟨k + 1, by omega, by go_num, HR2, Lib.hid (HC.out.drewN _)⟩
            case measure => simp [intOf]; omega
          · obtain ⟨m, rfl⟩ : ∃ m, k = m + 1 := ⟨k - 1, by omega⟩
            obtain ⟨ad', had, hc2, _⟩ := file_at (HT.out.ch HC.out) m (by omega)
            obtain rfl : ad = ad' := by injection had
            clear had
            have hzm := HZ.out.at m (by omega)
            have hpos : (0 : Int) < (m : Int) + 1 := by omega
            have HOK := Lib.hid (okAt_succ hlt)
            cases hle : less (t[m]'(by omega)).path t[m + 1].path with
            | true =>
              have HR2 : Hid (∀ j, j < m + 1 + 1 → okAt t j = true) := Lib.hid (fun j hj => by
                by_cases e : j = m + 1
                · subst e; rw [HOK.out, HC2.out, hle]; rfl
                · exact HR.out j (by omega))
              have hless := fun n => less_of (t[m]'(by omega)).path t[m + 1].path (wr.drewN n) (by omega) (by omega)
              rw [hle] at hless
              have HL := Lib.hid hless
              clear hless hle
              go_wp2_with fail
              refine hp.mono ?_
              rintro e w' ⟨rfl, hw⟩
              subst hw
              clear hp
              go_wp2_with fail
              go_quiet ((go_at_call 48; exact Calls.quiet_of (HL.out _)))
              go_wp2_with fail
              go_roundw
              case rel => exact ⟨m + 1 + 1, by omega, by go_num, HR2, Lib.hid (HC.out.drewN _)⟩
              case measure => simp [intOf]; omega
            | false =>
              have HF : Hid (rightB t = false) := Lib.hid (right_no hlt (by rw [HOK.out, hle]; simp))
              have hless := fun n => less_of (t[m]'(by omega)).path t[m + 1].path (wr.drewN n) (by omega) (by omega)
              rw [hle] at hless
              have HL := Lib.hid hless
              clear hless hle
              go_wp2_with fail
              refine hp.mono ?_
              rintro e w' ⟨rfl, hw⟩
              subst hw
              clear hp
              go_wp2_with fail
              go_quiet ((go_at_call 48; exact Calls.quiet_of (HL.out _)))
              go_wp2_with fail
              go_ret
              exact ⟨by rw [HF.out]; rfl, HC.out.drewN _⟩
        · have hsz2 : (65536 : Int) < (t[k].text.size : Int) := by omega
          have HF : Hid (rightB t = false) := Lib.hid (HNO.out (by rw [HCB.out, decide_eq_false hsz]; rfl))
          go_wp2_with fail
          refine hp.mono ?_
          rintro e w' ⟨rfl, hw⟩
          subst hw
          clear hp
          go_wp2_with fail
          go_ret
          exact ⟨by rw [HF.out]; rfl, HC.out⟩
    · have HF : Hid (rightB t = decide (t.length ≤ 1000)) := Lib.hid (right_all (fun j hj => HR.out j (by omega)))
      by_cases h1000 : t.length ≤ 1000
      · have h1 : (t.length : Int) ≤ 1000 := by omega
        go_wp2_with fail
        go_ret
        exact ⟨by rw [HF.out, decide_eq_true h1000]; rfl, HC.out⟩
      · have h1 : ¬ (t.length : Int) ≤ 1000 := by omega
        go_wp2_with fail
        go_ret
        exact ⟨by rw [HF.out, decide_eq_false h1000]; rfl, HC.out⟩
end Go.Proofs.YtekeiieefkgopaaDoor.Ue

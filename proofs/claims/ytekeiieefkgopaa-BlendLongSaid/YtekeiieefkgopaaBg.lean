/- The document's looks at trees: less, few, right, same. -/
import Derived.Test.YtekeiieefkgopaaBc
import Derived.Laws.StructEq
import Derived.Deep.QuietTactic
import Derived.BigQuiet
namespace Go.Proofs.Ytekeiieefkgopaa.Bg
open Go.RowKit Go.Proofs.Ytekeiieefkgopaa.Aa Go.Proofs.Ytekeiieefkgopaa.Vw Go.Proofs.Ytekeiieefkgopaa.Ma Go.Proofs.Ytekeiieefkgopaa.Mb Go.Proofs.Ytekeiieefkgopaa.Mi Go.Proofs.Ytekeiieefkgopaa.Na Go.Proofs.Ytekeiieefkgopaa.No Go.Proofs.Ytekeiieefkgopaa.Nq Go.Proofs.Ytekeiieefkgopaa.Ba Go.Proofs.Ytekeiieefkgopaa.Bc
set_option linter.unusedVariables false
set_option linter.unusedSimpArgs false

theorem bl_cons (x y : UInt8) (X Y : List UInt8) : Op.bytesLess (x :: X) (y :: Y) = if x = y then Op.bytesLess X Y else decide (x < y) := by
  simp only [Op.bytesLess]
  by_cases h : x = y
  · subst h; simp [UInt8.lt_irrefl]
  · simp [h]
theorem drop_at (s : ByteArray) (k : Nat) (h : k < s.size) : s.data.toList.drop k = s[k] :: s.data.toList.drop (k + 1) := by
  rw [List.drop_eq_getElem_cons (by simpa using h)]; rfl
theorem drop_end (s : ByteArray) (k : Nat) (h : s.size ≤ k) : s.data.toList.drop k = [] := List.drop_eq_nil_of_le (by simpa using h)

set_option maxRecDepth 100000 in
set_option maxHeartbeats 4000000 in
theorem less_of (a b : ByteArray) (w : World) (ha : a.size ≤ 9223372036854775806) (hb : b.size ≤ 9223372036854775806) :
    Calls Try.prog 21 #[.string a, .string b] w fun e w' => e = .returned (.bool (less a b)) ∧ Dr w w' := by
  obtain ⟨r, hr⟩ : ∃ r, less a b = r := ⟨_, rfl⟩
  rw [hr]
  have h0 : r = Op.bytesLess (a.data.toList.drop 0) (b.data.toList.drop 0) := by rw [← hr]; unfold less; rw [ByteArray.toList_eq, ByteArray.toList_eq]; rfl
  have H0 := Lib.hid h0
  clear hr h0
  go_enter Try.func21, Try.ntmps21
  go_wp2_with fail
  go_loopw [5] (fun i wr => ∃ k : Nat, k ≤ a.size ∧ k ≤ b.size ∧ i = .int .i64 k ∧ Hid (r = Op.bytesLess (a.data.toList.drop k) (b.data.toList.drop k)) ∧ Hid (Dr w wr)) (fun i _ => a.size - (intOf i).toNat)
  case atStart => exact ⟨0, by omega, by omega, rfl, H0, Lib.hid (Dr.refl w)⟩
  case round =>
    clear H0
    obtain ⟨k, hka, hkb, rfl, HR, HD⟩ := hrel
    by_cases h1 : k < a.size
    · by_cases h2 : k < b.size
      · have hr := HR.out
        rw [drop_at a k h1, drop_at b k h2, bl_cons] at hr
        by_cases h3 : a[k] = b[k]
        · have hn : ((a[k].toNat : Int) != (b[k].toNat : Int)) = false := by rw [h3]; simp
          rw [if_pos h3] at hr
          have HR2 := Lib.hid hr
          clear hr h3
          go_wp2_with fail
          go_quiet (fail)
          go_wp2_with fail
          go_roundw
          case rel => exact ⟨k + 1, by omega, by omega, by go_num, HR2, Lib.hid (HD.out.drewN _)⟩
          case measure => simp [intOf]; omega
        · have hn : ((a[k].toNat : Int) != (b[k].toNat : Int)) = true := by
            rw [bne_iff_ne]; intro h; exact h3 (UInt8.toNat_inj.1 (by omega))
          rw [if_neg h3] at hr
          have HR2 : Hid (r = decide (a[k].toNat < b[k].toNat)) := Lib.hid (by rw [hr]; rw [decide_eq_decide, UInt8.lt_iff_toNat_lt])
          clear hr h3
          go_wp2_with fail
          go_quiet (fail)
          go_wp2_with fail
          go_quiet (fail)
          go_wp2_with fail
          go_ret
          exact ⟨by rw [HR2.out]; rfl, (HD.out.drewN _).drewN _⟩
      · have hr := HR.out
        rw [drop_at a k h1, drop_end b k (by omega)] at hr
        have hlt : ¬ (a.size : Int) < (b.size : Int) := by omega
        have HR2 := Lib.hid hr
        clear hr
        go_wp2_with fail
        go_ret
        exact ⟨by rw [HR2.out]; rfl, HD.out⟩
    · have hr := HR.out
      rw [drop_end a k (by omega)] at hr
      by_cases h2 : k < b.size
      · rw [drop_at b k h2] at hr
        have hlt : (a.size : Int) < (b.size : Int) := by omega
        have HR2 := Lib.hid hr
        clear hr
        go_wp2_with fail
        go_ret
        exact ⟨by rw [HR2.out]; rfl, HD.out⟩
      · rw [drop_end b k (by omega)] at hr
        have hlt : ¬ (a.size : Int) < (b.size : Int) := by omega
        have HR2 := Lib.hid hr
        clear hr
        go_wp2_with fail
        go_ret
        exact ⟨by rw [HR2.out]; rfl, HD.out⟩

end Go.Proofs.Ytekeiieefkgopaa.Bg

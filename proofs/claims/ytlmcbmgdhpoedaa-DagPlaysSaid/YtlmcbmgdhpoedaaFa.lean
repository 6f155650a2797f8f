/- The document's graph: a list of nodes, by rising ids; what it looks up. -/
import Derived.Laws.StructEq
import Derived.Test.YtlmcbmgdhpoedaaDv
namespace Go.Proofs.Ytlmcbmgdhpoedaa.Fa
open Go Go.RowKit Go.Proofs.Ytlmcbmgdhpoedaa.Aa Go.Proofs.Ytlmcbmgdhpoedaa.Vw Go.Proofs.Ytlmcbmgdhpoedaa.Da Go.Proofs.Ytlmcbmgdhpoedaa.Db Go.Proofs.Ytlmcbmgdhpoedaa.De Go.Proofs.Ytlmcbmgdhpoedaa.Di Go.Proofs.Ytlmcbmgdhpoedaa.Ds
set_option linter.unusedVariables false
set_option linter.unusedSimpArgs false

/-- Less, as the program's string order has it. -/
def less (a b : Nm) : Bool := Op.bytesLess a.toList b.toList
theorem bl_cons (x y : UInt8) (X Y : List UInt8) : Op.bytesLess (x :: X) (y :: Y) = if x = y then Op.bytesLess X Y else decide (x < y) := by
  simp only [Op.bytesLess]
  by_cases h : x = y
  · subst h; simp [UInt8.lt_irrefl]
  · simp [h]
theorem drop_at (s : ByteArray) (k : Nat) (h : k < s.size) : s.data.toList.drop k = s[k] :: s.data.toList.drop (k + 1) := by
  rw [List.drop_eq_getElem_cons (by simpa using h)]; rfl
theorem drop_end (s : ByteArray) (k : Nat) (h : s.size ≤ k) : s.data.toList.drop k = [] := List.drop_eq_nil_of_le (by simpa using h)

set_option maxRecDepth 100000 in
set_option maxHeartbeats 4000000 in
theorem less_of (a b : ByteArray) (w : World) (ha : a.size ≤ 9223372036854775806) (hb : b.size ≤ 9223372036854775806) :
    Calls Try.prog 56 #[.string a, .string b] w fun e w' => e = .returned (.bool (less a b)) ∧ Dr w w' := by
  obtain ⟨r, hr⟩ : ∃ r, less a b = r := ⟨_, rfl⟩
  rw [hr]
  have h0 : r = Op.bytesLess (a.data.toList.drop 0) (b.data.toList.drop 0) := by rw [← hr]; unfold less; rw [ByteArray.toList_eq, ByteArray.toList_eq]; rfl
  have H0 := Lib.hid h0
  clear hr h0
  go_enter Try.func56, Try.ntmps56
  go_wp2_with fail
  go_loopw [5] (fun i wr => ∃ k : Nat, k ≤ a.size ∧ k ≤ b.size ∧ i = .int .i64 k ∧ Hid (r = Op.bytesLess (a.data.toList.drop k) (b.data.toList.drop k)) ∧ Hid (Dr w wr)) (fun i _ => a.size - (intOf i).toNat)
  case atStart => exact ⟨0, by omega, by omega, rfl, H0, Lib.hid (Dr.refl w)⟩
  case round =>
    clear H0
    obtain ⟨k, hka, hkb, rfl, HR, HD⟩ := hrel
    by_cases h1 : k < a.size
    · by_cases h2 : k < b.size
      · have hr := HR.out
        rw [drop_at a k h1, drop_at b k h2, bl_cons] at hr
        by_cases h3 : a[k] = b[k]
        · have hn : ((a[k].toNat : Int) != (b[k].toNat : Int)) = false := by rw [h3]; simp
          rw [if_pos h3] at hr
          have HR2 := Lib.hid hr
          clear hr h3
          go_wp2_with fail
          go_quiet (fail)
          go_wp2_with fail
          go_roundw
          case rel => exact ⟨k + 1, by omega, by omega, by go_num, HR2, Lib.hid (HD.out.drewN _)⟩
          case measure => simp [intOf]; omega
        · have hn : ((a[k].toNat : Int) != (b[k].toNat : Int)) = true := by
            rw [bne_iff_ne]; intro h; exact h3 (UInt8.toNat_inj.1 (by omega))
          rw [if_neg h3] at hr
          have HR2 : Hid (r = decide (a[k].toNat < b[k].toNat)) := Lib.hid (by rw [hr]; rw [decide_eq_decide, UInt8.lt_iff_toNat_lt])
          clear hr h3
          go_wp2_with fail
          go_quiet (fail)
          go_wp2_with fail
          go_quiet (fail)
          go_wp2_with fail
          go_ret
          exact ⟨by rw [HR2.out]; rfl, (HD.out.drewN _).drewN _⟩
      · have hr := HR.out
        rw [drop_at a k h1, drop_end b k (by omega)] at hr
        have hlt : ¬ (a.size : Int) < (b.size : Int) := by omega
        have HR2 := Lib.hid hr
        clear hr
        go_wp2_with fail
        go_ret
        exact ⟨by rw [HR2.out]; rfl, HD.out⟩
    · have hr := HR.out
      rw [drop_end a k (by omega)] at hr
      by_cases h2 : k < b.size
      · rw [drop_at b k h2] at hr
        have hlt : (a.size : Int) < (b.size : Int) := by omega
        have HR2 := Lib.hid hr
        clear hr
        go_wp2_with fail
        go_ret
        exact ⟨by rw [HR2.out]; rfl, HD.out⟩
      · rw [drop_end b k (by omega)] at hr
        have hlt : ¬ (a.size : Int) < (b.size : Int) := by omega
        have HR2 := Lib.hid hr
        clear hr
        go_wp2_with fail
        go_ret
        exact ⟨by rw [HR2.out]; rfl, HD.out⟩
/-- A graph of the document: where its list lies. -/
structure RefV (w : World) (R : Nat) (L : List Nd) : Prop where
  ex : ∃ A c, w.heap[R]? = some (.cells #[.slice A L.length c] 40 (0, 0)) ∧ nd.Row w A c L
abbrev rptr (R : Nat) : Value := .pointer (some ⟨R, 0, none⟩)
theorem RefV.ch {w w' : World} {R : Nat} {L : List Nd} (h : RefV w R L) (hc : Ch no w w') : RefV w' R L := by
  obtain ⟨A, c, h1, h2⟩ := h.ex
  exact ⟨A, c, hc.blk h1 (no_not _), h2.ch hc⟩
/-- Where an id stands. -/
def findN (L : List Nd) (x : Nm) : Int := match L.findIdx? (fun n => decide (n.id = x)) with | some i => i | none => -1
theorem findN_at {L : List Nd} {x : Nm} {k : Nat} (hk : k < L.length) (hn : ∀ j (hj : j < k), (L[j]'(by omega)).id ≠ x) (he : L[k].id = x) : findN L x = k := by
  unfold findN
  have : L.findIdx? (fun n => decide (n.id = x)) = some k := by
    rw [List.findIdx?_eq_some_iff_getElem]
    exact ⟨hk, by simpa using he, fun j hj => by simpa using hn j hj⟩
  rw [this]
theorem findN_no {L : List Nd} {x : Nm} (hn : ∀ j (hj : j < L.length), L[j].id ≠ x) : findN L x = -1 := by
  unfold findN
  have : L.findIdx? (fun n => decide (n.id = x)) = none := by
    rw [List.findIdx?_eq_none_iff]
    intro n hn'
    obtain ⟨j, hj, rfl⟩ := List.mem_iff_getElem.1 hn'
    simpa using hn j hj
  rw [this]
set_option maxRecDepth 100000 in
set_option maxHeartbeats 4000000 in
theorem find_of (R : Nat) (L : List Nd) (x : Nm) (w : World) (h : RefV w R L) :
    Calls Try.prog 41 #[rptr R, .string x] w fun e w' => e = .returned (.int .i64 (findN L x)) ∧ w = w' := by
  obtain ⟨A, c, hb, hr⟩ := h.ex
  have hlx := hr.len
  have hc0 := (bCell hb 0).trans rfl
  have HX := Lib.hid hr
  clear hb hr h
  go_enter Try.func41, Try.ntmps41
  go_wp2_with fail
  go_loopw [5] (fun i wr => ∃ k : Nat, k ≤ L.length ∧ i = .int .i64 k ∧ Hid (∀ j (hj : j < L.length), j < k → L[j].id ≠ x) ∧ w = wr) (fun i _ => L.length - (intOf i).toNat)
  case atStart => exact ⟨0, by omega, rfl, Lib.hid (fun j hj h => by omega), rfl⟩
  case round =>
    obtain ⟨k, hk, rfl, HN, rfl⟩ := hrel
    by_cases hlt : k < L.length
    · obtain ⟨ad, A2, c2, rfl, p0, _, _⟩ := nd_at HX.out k hlt
      by_cases he : L[k].id = x
      · have hbe := beq_yes he
        have HF : Hid (findN L x = k) := Lib.hid (findN_at hlt (fun j hj => HN.out j (by omega) hj) he)
        clear he
        go_wp2_with fail
        go_ret
        exact ⟨by rw [HF.out]; rfl, rfl⟩
      · have hbe := beq_no he
        have HN2 : Hid (∀ j (hj : j < L.length), j < k + 1 → L[j].id ≠ x) := Lib.hid (fun j hj hjk => by
          by_cases hjk2 : j = k
          · subst hjk2; exact he
          · exact HN.out j hj (by omega))
        clear he
        go_wp2_with fail
        go_roundw
        case rel => exact ⟨k + 1, by omega, by go_num, HN2, trivial⟩
        case measure => simp [intOf]; omega
    · have HF : Hid (findN L x = -1) := Lib.hid (findN_no (fun j hj => HN.out j hj (by omega)))
      go_wp2_with fail
      go_ret
      exact ⟨by rw [HF.out]; rfl, rfl⟩
end Go.Proofs.Ytlmcbmgdhpoedaa.Fa

/- BlendSides. -/
import Derived.Test.YtekeiieefkgopaaBr
namespace Go.Proofs.Ytekeiieefkgopaa.Bs
open Go.RowKit Go.Proofs.Ytekeiieefkgopaa.Aa Go.Proofs.Ytekeiieefkgopaa.Vw Go.Proofs.Ytekeiieefkgopaa.Ma Go.Proofs.Ytekeiieefkgopaa.Mb Go.Proofs.Ytekeiieefkgopaa.Mr Go.Proofs.Ytekeiieefkgopaa.Mt Go.Proofs.Ytekeiieefkgopaa.Na Go.Proofs.Ytekeiieefkgopaa.No Go.Proofs.Ytekeiieefkgopaa.Nq Go.Proofs.Ytekeiieefkgopaa.Ba Go.Proofs.Ytekeiieefkgopaa.Bb Go.Proofs.Ytekeiieefkgopaa.Bk Go.Proofs.Ytekeiieefkgopaa.Bm Go.Proofs.Ytekeiieefkgopaa.Bn Go.Proofs.Ytekeiieefkgopaa.Bo Go.Proofs.Ytekeiieefkgopaa.Bp Go.Proofs.Ytekeiieefkgopaa.Bq Go.Proofs.Ytekeiieefkgopaa.Br
set_option linter.unusedVariables false
set_option linter.unusedSimpArgs false

theorem fm_two {f g : ByteArray → Option Fl} (h : ∀ p, (f p).isSome = (g p).isSome) : ∀ ps : List ByteArray, (ps.filterMap f).length = (ps.filterMap g).length ∧
    ∀ (i : Nat) (x : Fl), (ps.filterMap f)[i]? = some x → ∃ y p, (ps.filterMap g)[i]? = some y ∧ p ∈ ps ∧ f p = some x ∧ g p = some y
  | [] => ⟨rfl, fun i x hx => by simp at hx⟩
  | p :: ps => by
    obtain ⟨h1, h2⟩ := fm_two h ps
    have hp := h p
    cases hf : f p with
    | none =>
      cases hg : g p with
      | some y => rw [hf, hg] at hp; cases hp
      | none =>
        rw [List.filterMap_cons_none hf, List.filterMap_cons_none hg]
        refine ⟨h1, fun i x hx => ?_⟩
        obtain ⟨y, q, a1, a2, a3, a4⟩ := h2 i x hx
        exact ⟨y, q, a1, List.mem_cons_of_mem _ a2, a3, a4⟩
    | some x0 =>
      cases hg : g p with
      | none => rw [hf, hg] at hp; cases hp
      | some y0 =>
        rw [List.filterMap_cons_some hf, List.filterMap_cons_some hg]
        refine ⟨by simp [h1], fun i x hx => ?_⟩
        cases i with
        | zero =>
          have e : x0 = x := by simpa using hx
          subst e
          exact ⟨y0, p, rfl, List.mem_cons_self .., hf, hg⟩
        | succ i =>
          obtain ⟨y, q, a1, a2, a3, a4⟩ := h2 i x (by simpa using hx)
          exact ⟨y, q, by simpa using a1, List.mem_cons_of_mem _ a2, a3, a4⟩
/-- What the law says of two answers. -/
structure Swp (t u : List Fl) (l : List ByteArray) : Prop where
  len : t.length = u.length
  at_ : ∀ (i : Nat) (h1 : i < t.length) (h2 : i < u.length), t[i].path = u[i].path ∧ (t[i].path ∉ l → t[i].text = u[i].text)
theorem sides_plain {o a b : List Fl} (ha : Rise a) (hb : Rise b) (la : a.length ≤ 12) (lb : b.length ≤ 12) (zo : Szs 1000 o) (za : Szs 1000 a) (zb : Szs 1000 b) :
    (treesL o b a).2 = (treesL o a b).2 ∧ Swp (treesL o a b).1 (treesL o b a).1 (treesL o a b).2 := by
  rw [trees_eq o a b (by omega), trees_eq o b a (by omega), paths_swap ha hb]
  have key := fun p => one_swap (o := ofF o p) (ofF_shape a p) (ofF_shape b p) (ofF_size zo p) (ofF_size za p) (ofF_size zb p)
  have hodd : oddAt o b a = oddAt o a b := by funext p; exact (key p).1
  have hsome : ∀ p, (fileAt o a b p).isSome = (fileAt o b a p).isSome := by
    intro p
    have := (key p).2.1
    unfold fileAt
    rw [this]
    split <;> rfl
  obtain ⟨h1, h2⟩ := fm_two hsome (pathsL a b)
  refine ⟨by rw [hodd], h1, fun i hi1 hi2 => ?_⟩
  obtain ⟨y, p, a1, a2, a3, a4⟩ := h2 i _ (List.getElem?_eq_getElem hi1)
  have ey : ((pathsL a b).filterMap (fileAt o b a))[i] = y := by
    rw [List.getElem?_eq_getElem hi2] at a1
    exact Option.some.inj a1
  simp only [] at ey ⊢
  rw [ey]
  have p1 := file_path a3
  have p2 := file_path a4
  refine ⟨by rw [p1, p2], fun hno => ?_⟩
  rw [p1] at hno
  have ho : oddAt o a b p = false := by
    cases h : oddAt o a b p with
    | false => rfl
    | true => exact absurd (List.mem_filter.2 ⟨a2, h⟩) hno
  have ht := (key p).2.2 ho
  generalize ((pathsL a b).filterMap (fileAt o a b))[i] = x at *
  unfold fileAt at a3 a4
  split at a3
  · split at a4
    · cases a3; cases a4; exact ht.symm
    · cases a4
  · cases a3

theorem texts_yes (A B : Option Addr) (c d : Nat) (xs : List ByteArray) (w : World) (hx : El.str.Row w A c xs) (hy : El.str.Row w B d xs) :
    Calls Try.prog 12 #[.slice A xs.length c, .slice B xs.length d] w fun e w' => e = .returned (.bool true) ∧ Ch no w w' := by
  have h := texts_any A B c d xs xs w hx hy
  rw [decide_eq_true rfl] at h
  exact h.mono fun e w' h => ⟨h.1, h.2.ch no⟩

/-- Is a text among the first ones? -/
def inB (p : ByteArray) (l : List ByteArray) (n : Nat) : Bool := (l.take n).any fun q => decide (q = p)
theorem inB_next (p : ByteArray) (l : List ByteArray) (n : Nat) (h : n < l.length) : inB p l (n + 1) = (inB p l n || decide (l[n] = p)) := by
  unfold inB
  rw [List.take_succ_eq_append_getElem h, List.any_append]
  simp
theorem inB_all {p : ByteArray} {l : List ByteArray} {n : Nat} (h : l.length ≤ n) (hb : inB p l n = false) : p ∉ l := by
  unfold inB at hb
  rw [List.take_of_length_le h] at hb
  intro hp
  have := List.any_eq_false.1 hb p hp
  simp at this

set_option maxRecDepth 100000 in
set_option maxHeartbeats 8000000 in
theorem sides_law (Ao Aa Ab : Option Addr) (co ca cb : Nat) (o a b : List Fl) (w : World) (ho : file.Row w Ao co o) (ha : file.Row w Aa ca a) (hb : file.Row w Ab cb b) (zo : Szs 140737488355328 o) (za : Szs 140737488355328 a) (zb : Szs 140737488355328 b) :
    Calls Try.prog 6 #[.slice Ao o.length co, .slice Aa a.length ca, .slice Ab b.length cb] w (True1 w) := by
  have HO := Lib.hid ho; have HA := Lib.hid ha; have HB := Lib.hid hb; have ZO := Lib.hid zo; have ZA := Lib.hid za; have ZB := Lib.hid zb
  clear ho ha hb zo za zb
  go_enter Try.func6, Try.ntmps6
  go_wp2_with fail
  refine (awake_of w).mono ?_
  rintro e w1 ⟨rfl, hc⟩
  have C1 := Lib.hid hc
  clear hc
  go_wp2_with fail
  refine (good_of Ao co o w1 (HO.out.ch C1.out) ZO.out).mono ?_
  rintro e w2 ⟨b1, rfl, g1, hc⟩
  have C2 := Lib.hid (C1.out.same hc); have G1 := Lib.hid g1
  clear hc g1
  go_wp2_with fail
  refine (good_of Aa ca a w2 (HA.out.ch C2.out) ZA.out).mono ?_
  rintro e w3 ⟨b2, rfl, g2, hc⟩
  have C3 := Lib.hid (C2.out.same hc); have G2 := Lib.hid g2
  clear hc g2
  go_wp2_with fail
  refine (good_of Ab cb b w3 (HB.out.ch C3.out) ZB.out).mono ?_
  rintro e w4 ⟨b3, rfl, g3, hc⟩
  have C4 := Lib.hid (C3.out.same hc); have G3 := Lib.hid g3
  clear hc g3
  cases b1 with
  | false =>
    go_wp2_with fail
    go_ret
    exact ⟨rfl, C4.out⟩
  | true =>
  cases b2 with
  | false =>
    go_wp2_with fail
    go_ret
    exact ⟨rfl, C4.out⟩
  | true =>
  cases b3 with
  | false =>
    go_wp2_with fail
    go_ret
    exact ⟨rfl, C4.out⟩
  | true =>
  have K1 := Lib.hid (G1.out rfl); have K2 := Lib.hid (G2.out rfl); have K3 := Lib.hid (G3.out rfl)
  clear G1 G2 G3
  obtain ⟨hp1, hp2⟩ := sides_plain (o := o) K2.out.1 K3.out.1 K2.out.2.1 K3.out.2.1 (szs_up K1.out.2.2 (by omega)) (szs_up K2.out.2.2 (by omega)) (szs_up K3.out.2.2 (by omega))
  have T1 := fun w h1 h2 h3 => trees_any o a b Ao Aa Ab co ca cb w h1 h2 h3 K1.out.1 K2.out.1 K3.out.1 (by have := K1.out.2.1; omega) (by have := K2.out.2.1; omega) (by have := K3.out.2.1; omega) (szs_up K1.out.2.2 (by omega)) (szs_up K2.out.2.2 (by omega)) (szs_up K3.out.2.2 (by omega))
  have T2 := fun w h1 h2 h3 => trees_any o b a Ao Ab Aa co cb ca w h1 h2 h3 K1.out.1 K3.out.1 K2.out.1 (by have := K1.out.2.1; omega) (by have := K3.out.2.1; omega) (by have := K2.out.2.1; omega) (szs_up K1.out.2.2 (by omega)) (szs_up K3.out.2.2 (by omega)) (szs_up K2.out.2.2 (by omega))
  unfold TreesP at T1 T2
  rw [hp1] at T2
  obtain ⟨t, ht⟩ : ∃ t, (treesL o a b).1 = t := ⟨_, rfl⟩
  obtain ⟨l, hl⟩ : ∃ l, (treesL o a b).2 = l := ⟨_, rfl⟩
  obtain ⟨u, hu⟩ : ∃ u, (treesL o b a).1 = u := ⟨_, rfl⟩
  rw [ht, hl] at T1
  rw [hu, hl] at T2
  rw [ht, hl, hu] at hp2
  clear hp1 ht hl hu
  have HT1 := Lib.hid T1; have HT2 := Lib.hid T2; have HS := Lib.hid hp2
  clear T1 T2 hp2
  go_wp2_with fail
  refine (HT1.out w4 (HO.out.ch C4.out) (HA.out.ch C4.out) (HB.out.ch C4.out)).mono ?_
  rintro e w5 ⟨A5, c5, Ad5, cd5, rfl, h5, d5, hc⟩
  have C5 := Lib.hid (C4.out.same hc); have R5 := Lib.hid h5; have D5 := Lib.hid d5
  clear hc h5 d5
  go_wp2_with fail
  refine (HT2.out w5 (HO.out.ch C5.out) (HB.out.ch C5.out) (HA.out.ch C5.out)).mono ?_
  rintro e w6 ⟨A6, c6, Ad6, cd6, rfl, h6, d6, hc⟩
  have C6 := Lib.hid (C5.out.same hc); have R6 := Lib.hid h6; have D6 := Lib.hid d6; have R56 := Lib.hid (R5.out.ch hc); have D56 := Lib.hid (D5.out.ch hc)
  clear hc h6 d6
  go_wp2_with fail
  refine (texts_yes Ad5 Ad6 cd5 cd6 l w6 D56.out D6.out).mono ?_
  rintro e w7 ⟨rfl, hc⟩
  have C7 := Lib.hid (C6.out.same hc); have R7 := Lib.hid (R56.out.ch hc); have S7 := Lib.hid (R6.out.ch hc); have D7 := Lib.hid (D56.out.ch hc)
  clear hc
  have hlen : ((t.length : Int) != (u.length : Int)) = false := by have := HS.out.len; simp [this]
  have hlt := R7.out.len
  have hll := D7.out.len
  clear HT1 HT2 R5 R6 R56 D5 D6 D56 C1 C2 C3 C4 C5 C6
  go_wp2_with fail
  go_loopw [15] (fun i wr => ∃ k : Nat, k ≤ t.length ∧ i = .int .i64 k ∧ Hid (Ch no w7 wr)) (fun i _ => t.length - (intOf i).toNat)
  case atStart => exact ⟨0, by omega, rfl, Lib.hid (by first | exact Ch.refl no w7 | exact (Ch.refl no w7).drewN _ | exact (Ch.refl no w7).drew)⟩
  case round =>
    obtain ⟨k, hk, rfl, HC⟩ := hrel
    by_cases hkt : k < t.length
    · have hku : k < u.length := by have := HS.out.len; omega
      obtain ⟨hpe, hte⟩ := HS.out.at_ k hkt hku
      have HPE := Lib.hid hpe; have HTE := Lib.hid hte
      clear hpe hte
      go_wp2_with fail
      go_loopw [16, 17] (fun cl j wr => ∃ n : Nat, n ≤ l.length ∧ j = .int .i64 n ∧ cl = .bool (inB t[k].path l n) ∧ Hid (Ch no w7 wr)) (fun cl j _ => l.length - (intOf j).toNat)
      case atStart => exact ⟨0, by omega, rfl, by simp [inB], HC⟩
      case round =>
        obtain ⟨n, hn, rfl, rfl, HC2⟩ := hrel
        obtain ⟨at', rfl, hc0, hc1⟩ := file_at (R7.out.ch HC2.out) k hkt
        by_cases hnl : n < l.length
        · obtain ⟨al, rfl, hcl⟩ := (D7.out.ch HC2.out).flat_at n hnl
          have hnx := inB_next t[k].path l n hnl
          cases hin : inB t[k].path l n with
          | true =>
            rw [hin, Bool.true_or] at hnx
            have HNX := Lib.hid hnx
            clear hnx hin
            go_wp2_with fail
            go_quiet (fail)
            go_wp2_with fail
            go_roundw
            case rel => exact ⟨n + 1, by omega, by go_num, by rw [HNX.out], Lib.hid (HC2.out.drewN _)⟩
            case measure => simp [intOf]; omega
          | false =>
            rw [hin, Bool.false_or] at hnx
            by_cases he : l[n] = t[k].path
            · rw [decide_eq_true he] at hnx
              have HNX := Lib.hid hnx
              have hbe := beq_yes he
              clear hnx hin he
              go_wp2_with fail
              go_quiet (fail)
              go_wp2_with fail
              go_roundw
              case rel => exact ⟨n + 1, by omega, by go_num, by rw [HNX.out], Lib.hid (HC2.out.drewN _)⟩
              case measure => simp [intOf]; omega
            · rw [decide_eq_false he] at hnx
              have HNX := Lib.hid hnx
              have hbe := beq_no he
              clear hnx hin he
              go_wp2_with fail
              go_quiet (fail)
              go_wp2_with fail
              go_roundw
              case rel => exact ⟨n + 1, by omega, by go_num, by rw [HNX.out], Lib.hid (HC2.out.drewN _)⟩
              case measure => simp [intOf]; omega
        · obtain ⟨au, rfl, hd0, hd1⟩ := file_at (S7.out.ch HC2.out) k hku
          have hpe := beq_yes HPE.out
          cases hin : inB t[k].path l n with
          | true =>
            clear hin
            go_wp2_with fail
            go_quiet (fail)
            go_wp2_with fail
            go_roundw
            case rel => exact ⟨k + 1, by omega, by go_num, Lib.hid (HC2.out.drewN _)⟩
            case measure => simp [intOf]; omega
          | false =>
            have hte := beq_yes (HTE.out (inB_all (by omega) hin))
            clear hin
            go_wp2_with fail
            go_quiet (fail)
            go_wp2_with fail
            go_roundw
            case rel => exact ⟨k + 1, by omega, by go_num, Lib.hid (HC2.out.drewN _)⟩
            case measure => simp [intOf]; omega
    · go_wp2_with fail
      go_ret
      exact ⟨rfl, C7.out.same HC.out⟩

end Go.Proofs.Ytekeiieefkgopaa.Bs

/- The document's answer: the regions of three lists. -/
import Derived.Test.YtekeiieefkgopaaQl
import Derived.Deep.LoopGhost
namespace Go.Proofs.Ytekeiieefkgopaa.Qk
open Go.RowKit Go.Proofs.Ytekeiieefkgopaa.Aa Go.Proofs.Ytekeiieefkgopaa.Vw Go.Proofs.Ytekeiieefkgopaa.Ma Go.Proofs.Ytekeiieefkgopaa.Mr Go.Proofs.Ytekeiieefkgopaa.Mb Go.Proofs.Ytekeiieefkgopaa.Mc Go.Proofs.Ytekeiieefkgopaa.Mt Go.Proofs.Ytekeiieefkgopaa.Me Go.Proofs.Ytekeiieefkgopaa.Mf Go.Proofs.Ytekeiieefkgopaa.Mg Go.Proofs.Ytekeiieefkgopaa.Mh Go.Proofs.Ytekeiieefkgopaa.Mi Go.Proofs.Ytekeiieefkgopaa.Na Go.Proofs.Ytekeiieefkgopaa.Nb Go.Proofs.Ytekeiieefkgopaa.Nc Go.Proofs.Ytekeiieefkgopaa.Ne Go.Proofs.Ytekeiieefkgopaa.Nf Go.Proofs.Ytekeiieefkgopaa.Pa Go.Proofs.Ytekeiieefkgopaa.Pb Go.Proofs.Ytekeiieefkgopaa.Pc Go.Proofs.Ytekeiieefkgopaa.Pd Go.Proofs.Ytekeiieefkgopaa.Ph Go.Proofs.Ytekeiieefkgopaa.Qh Go.Proofs.Ytekeiieefkgopaa.Qm Go.Proofs.Ytekeiieefkgopaa.Qn Go.Proofs.Ytekeiieefkgopaa.Qi Go.Proofs.Ytekeiieefkgopaa.Qj Go.Proofs.Ytekeiieefkgopaa.Ql
attribute [local go_sem] mxNat mn2 mxOp mnOp
set_option linter.unusedVariables false
set_option linter.unusedSimpArgs false

theorem eo_shape {w : World} {B : Nat} {v : Value} {es : List EditP} (h : EO w B v es) : ∃ A c, v = .slice A es.length c := by
  rcases h with ⟨rfl, rfl⟩ | ⟨g, cap, svs, rfl, _⟩
  · exact ⟨_, _, rfl⟩
  · exact ⟨_, _, rfl⟩
theorem own_empty3 (w : World) (e : TypeId) (s : Nat) : (w.alloc (.cells #[] e)).ownsRow w.heap.size e s (.slice (some ⟨w.heap.size, 0, none⟩) 0 0) 0 [] :=
  ⟨by simp, .inr ⟨w.heap.size, 0, #[], rfl, Nat.le_refl _, bNew _ _, Nat.le_refl _, by unfold maxLen; omega, by simp, by simp⟩⟩
/-- append(v, region), v the call's own. -/
theorem app_reg {W : World} {ops : Array Oper} {rest : List Oper} {o : Oper} {a : Act} {Q : Exit → Act → World → Prop} (hgd : o.guard = none) (s x : Operand)
    (ho : o.op = .call { callee := .builtin .append, args := #[s, x], argTypes := #[62, 62] })
    (B : Nat) (v : Value) (rs : List Reg) (h : OwnR W B v rs) (hs : a.eval s = v) (k of om af am bf bm : Int)
    (hx : a.eval x = .slice (some ⟨W.heap.size, 0, none⟩) 1 1) (hlen : rs.length ≤ 2000000) (hB : B ≤ W.heap.size)
    (hK : ∀ v' w', OwnR w' B v' (rs ++ [⟨k, of, om, af, am, bf, bm⟩]) → (∀ {S : Nat → Prop} {w0 : World}, Ch S w0 W → w0.heap.size ≤ B → Ch S w0 w') → (∀ g ob, W.heap[g]? = some ob → v.ownBlock ≠ some g → w'.heap[g]? = some ob) → wpList Try.prog ops Q rest (a.put o.dst v') w') :
    wpList Try.prog ops Q (o :: rest) a (W.alloc (.cells #[.int .i64 k, .int .i64 of, .int .i64 om, .int .i64 af, .int .i64 am, .int .i64 bf, .int .i64 bm] 67)) := by
  obtain ⟨i0, hi, hz0, hz1, hz2⟩ := info_parts infoReg
  have hc : Ch no W (W.alloc (.cells #[.int .i64 k, .int .i64 of, .int .i64 om, .int .i64 af, .int .i64 am, .int .i64 bf, .int .i64 bm] 67)) := (Ch.refl no W).alloc _
  refine wpList_append_own_at _ hgd s x 62 ho B 67 i0 _ 7 56 Try.underlying62 hi hz0 hz1 hz2 rfl (by omega) v rs.length _ hs (own_ch h hc (fun _ _ => no_not _)) ⟨W.heap.size, 0, none⟩ 1 1 [.int .i64 k, .int .i64 of, .int .i64 om, .int .i64 af, .int .i64 am, .int .i64 bf, .int .i64 bm] hx rfl ?_ ?_ (by unfold maxLen; omega) (by omega) (by have := hc.size; omega) ?_
  · intro j u hj
    have e : (⟨W.heap.size, 0, none⟩ : Addr).add j = ⟨W.heap.size, j, none⟩ := by cases j <;> simp [Addr.add]
    rw [e, bCell (bNew W _) j]
    simpa using hj
  · intro u hu
    simp at hu
    rcases hu with rfl | rfl | rfl | rfl | rfl | rfl | rfl <;> rfl
  · intro v' w' hown hgrow _ _
    refine hK v' w' ?_ ?_ (fun g ob hg hv => ?_)
    · unfold OwnR
      rw [List.length_append, List.flatMap_append]
      exact hown
    · intro S w0 hw0 hb
      exact Ch.grown_new (hw0.then_ hc) hgrow (fun k hk => by have := own_ge h k hk; omega)
    · rw [hgrow.block g (Nat.lt_of_lt_of_le (blk_lt' hg) hc.size) (fun e => hv e.symm)]
      exact hc.blk hg (no_not _)

/-- Between two rounds. -/
structure Rn (w0 w : World) (o a b : Ls) (l r es : List EditP) (g8 c8 : Nat) (RS : List Reg) (k : Nat) (v : Value) (s : RSt) (p q : Nat) (x y : Int) : Prop where
  j : ∃ A B, J o a b s.last s.out s.at_ A B (l.drop p) (r.drop q)
  sep : Sep es l.length p q
  em : EM w g8 c8 es (left_ es l.length p q)
  own : OwnR w w0.heap.size v s.out
  fin : RS = (endS ((clus k (l.drop p) (r.drop q)).foldl (stepS a b) s) o.length).out
  fu : (l.drop p).length + (r.drop q).length ≤ k
  ch : Ch no w0 w
  pl : p ≤ l.length
  ql : q ≤ r.length
  ol : s.out.length + 2 * k ≤ 100000
  hx : x = s.last.af + s.last.am
  hy : y = s.last.bf + s.last.bm
  es : l ++ r = es
theorem Rn.bnd {w0 w : World} {o a b : Ls} {l r es : List EditP} {g8 c8 : Nat} {RS : List Reg} {k : Nat} {v : Value} {s : RSt} {p q : Nat} {x y : Int} (h : Rn w0 w o a b l r es g8 c8 RS k v s p q x y) :
    s.at_ ≤ o.length ∧ 0 ≤ x ∧ x ≤ a.length ∧ 0 ≤ y ∧ y ≤ b.length := by
  obtain ⟨A, B, hJ⟩ := h.j
  have h1 := hJ.pa; have h2 := hJ.pb; have h3 := hJ.la; have h4 := hJ.lb; have h5 := hJ.lo; have h6 := h.hx; have h7 := h.hy
  omega
theorem Rn.ch_ {w0 w w' : World} {o a b : Ls} {l r es : List EditP} {g8 c8 : Nat} {RS : List Reg} {k : Nat} {v : Value} {s : RSt} {p q : Nat} {x y : Int} (h : Rn w0 w o a b l r es g8 c8 RS k v s p q x y) (hc : Ch no w w') : Rn w0 w' o a b l r es g8 c8 RS k v s p q x y :=
  ⟨h.j, h.sep, h.em.ch hc (no_not _), own_ch h.own hc (fun _ _ => no_not _), h.fin, h.fu, h.ch.then_ hc, h.pl, h.ql, h.ol, h.hx, h.hy, h.es⟩

theorem Rn.gap {w0 w : World} {o a b : Ls} {l r es : List EditP} {g8 c8 : Nat} {RS : List Reg} {k : Nat} {v : Value} {s : RSt} {p q : Nat} {x y : Int} (h : Rn w0 w o a b l r es g8 c8 RS k v s p q x y) (n : Int) :
    nextR s.last n 0 0 = ⟨0, (s.at_ : Nat), n, x, n, y, n⟩ := by
  obtain ⟨A, B, hJ⟩ := h.j
  unfold nextR
  rw [hJ.po, h.hx, h.hy, Int.add_zero]

set_option maxRecDepth 100000 in
set_option maxHeartbeats 8000000 in
theorem regions_of (Ao Aa Ab : Option Addr) (co ca cb : Nat) (o a b : List ByteArray) (w : World) (ho : El.str.Row w Ao co o) (ha : El.str.Row w Aa ca a) (hb : El.str.Row w Ab cb b)
    (lo : o.length ≤ 1000) (la : a.length ≤ 1000) (lb : b.length ≤ 1000) :
    Calls Try.prog 40 #[.slice Ao o.length co, .slice Aa a.length ca, .slice Ab b.length cb] w fun e w' => ∃ v, e = .returned v ∧ OwnR w' w.heap.size v (regionsOf o a b) ∧ Ch no w w' := by
  have HO := Lib.hid ho; have HA := Lib.hid ha; have HB := Lib.hid hb
  clear ho ha hb
  obtain ⟨hl1, hl2, _⟩ := diff_scr o a
  obtain ⟨hr1, hr2, _⟩ := diff_scr o b
  have hl3 := diff_small o a (by omega) (by omega)
  have hr3 := diff_small o b (by omega) (by omega)
  have hres : regionsOf o a b = (endS ((clus ((diffOf o a).length + (diffOf o b).length) (diffOf o a) (diffOf o b)).foldl (stepS a b) Nf.start) o.length).out := rfl
  obtain ⟨RS, hRS⟩ : ∃ RS, regionsOf o a b = RS := ⟨_, rfl⟩
  have HLc := Lib.hid (refDiff_of Ao Aa co ca o a w HO.out HA.out (by omega) (by omega))
  have HRc : Hid (∀ W, Ch no w W → Calls Try.prog 50 #[.slice Ao o.length co, .slice Ab b.length cb] W fun e w' => ∃ v, e = .returned v ∧ EO w' W.heap.size v (diffOf o b) ∧ Ch no W w') := fun W hW => refDiff_of Ao Ab co cb o b W (HO.out.ch hW) (HB.out.ch hW) (by omega) (by omega)
  rw [hRS] at hres ⊢
  generalize diffOf o a = l at *
  generalize diffOf o b = r at *
  have HRES := Lib.hid hres
  have HJ0 := Lib.hid (start_J o a b l r hl1 hr1)
  have HAL := Lib.hid hl2; have HAR := Lib.hid hr2
  have HS1 := Lib.hid hl1; have HS2 := Lib.hid hr1
  have HSL := Lib.hid hl3; have HSR := Lib.hid hr3
  have hll : l.length ≤ 2000 := by have := hl3.2; omega
  have hlr : r.length ≤ 2000 := by have := hr3.2; omega
  clear hl1 hl2 hl3 hr1 hr2 hr3 hres hRS
  go_enter Try.func40, Try.ntmps40
  go_wp2_with fail
  refine HLc.out.mono ?_
  rintro e w1 ⟨v7, rfl, heo, hch⟩
  have HEL := Lib.hid heo
  have HC1 := Lib.hid hch
  obtain ⟨A7, c7, rfl⟩ := eo_shape heo
  clear heo hch HLc
  go_wp2_with (at_builtin; refine app_eo rfl _ _ rfl w.heap.size (.slice (some ⟨w1.heap.size, 0, none⟩) 0 0) 0 [] rfl (own_less (own_empty3 _ _ 3) HC1.out.size) w.heap.size _ l (HEL.out.ch ((Ch.refl no _).alloc _) (fun _ _ => no_not _)) rfl (by omega) (by have := HC1.out.size; simp; omega) ?_; intro v8 w2 cs1 hown1 hcs1 hgrow1 hne1; have HC2 := Lib.hid (Vw.Ch.grown_new (HC1.out.alloc _) hgrow1 (fun k hk => by simp [Value.ownBlock] at hk; have := HC1.out.size; omega)); have HO8 := Lib.hid hown1; have HCS1 := Lib.hid hcs1; have HN1 := Lib.hid (hne1 (by simp)); clear hown1 hcs1 hgrow1 hne1)
  refine (HRc.out _ HC2.out).mono ?_
  rintro e w3 ⟨v33, rfl, heo, hch⟩
  have HER := Lib.hid heo
  have HC3 := Lib.hid (HC2.out.then_ hch)
  have HO8b := Lib.hid (own_ch HO8.out hch (fun _ _ => no_not _))
  clear heo hch HO8 HRc
  have hs3 := HC3.out.size
  go_wp2_with (at_builtin; refine app_eo rfl _ _ rfl w.heap.size _ _ _ rfl HO8b.out _ _ r HER.out rfl (by omega) hs3 ?_; intro v8' w4 cs2 hown1 hcs1 hgrow1 hne1; have HC4 := Lib.hid (Vw.Ch.grown_new HC3.out hgrow1 (fun k hk => own_ge HO8b.out k hk)); have HO9 := Lib.hid hown1; have HCS2 := Lib.hid hcs1; have HN2 := Lib.hid (hne1 HN1.out); clear hown1 hcs1 hgrow1 hne1)
  obtain ⟨es, hes⟩ : ∃ es, l ++ r = es := ⟨_, rfl⟩
  have hnl : l.length + r.length = es.length := by rw [← hes, List.length_append]
  have hnl2 : 0 + l.length + r.length = es.length := by omega
  obtain ⟨g8, c8, hv8, hg8, hem⟩ := em_of (es := es) (by rw [← hnl2]; exact HO9.out) (by rw [← hes]; exact Cells3.append (Cells3.append Cells3.nil HCS1.out) HCS2.out) HN2.out
  subst hv8
  have HEM := Lib.hid hem
  have HES := Lib.hid hes
  have hsm : Hid (∀ e ∈ es, e.at_ ≤ 100000000 ∧ e.del ≤ 100000000) := fun e he => by
    rw [← hes] at he
    have key : ∀ (l : List EditP), SmallE l → ∀ e ∈ l, e.at_ ≤ 100000000 ∧ e.del ≤ 100000000 := by
      intro l
      induction l with
      | nil => intro _ e he; simp at he
      | cons f l ih =>
        intro h e he
        rcases List.mem_cons.1 he with rfl | he
        · exact ⟨h.head.1, h.head.2.1⟩
        · exact ih h.tail e he
    rcases List.mem_append.1 he with he | he
    · exact key l HSL.out.1 e he
    · exact key r HSR.out.1 e he
  have HIN : Hid (∀ e ∈ es, e.ins.length ≤ 100000000) := fun e he => by
    rw [← hes] at he
    have key : ∀ (l : List EditP), SmallE l → ∀ e ∈ l, e.ins.length ≤ 100000000 := by
      intro l
      induction l with
      | nil => intro _ e he; simp at he
      | cons f l ih =>
        intro h e he
        rcases List.mem_cons.1 he with rfl | he
        · exact h.head.2.2
        · exact ih h.tail e he
    rcases List.mem_append.1 he with he | he
    · exact key l HSL.out.1 e he
    · exact key r HSR.out.1 e he
  have HBO : Hid (∀ e ∈ es, e.at_ ≤ o.length) := fun e he => by
    rw [← hes] at he
    rcases List.mem_append.1 he with he | he
    · have := (scr_wt l 0 o a HS1.out).2 e he; omega
    · have := (scr_wt r 0 o b HS2.out).2 e he; omega
  clear hem hes HO9 HCS1 HCS2 HN1 HN2 HO8b HC1 HC2 HC3 HEL HER
  go_wp2_with fail
  refine (marks_of es g8 c8 w4 HEM.out hsm.out (by omega)).mono ?_
  rintro e w5 ⟨A9, c9, f, rfl, hmm, haf, hch⟩
  have HM5 : Hid (MM w w5 A9 es.length f) := hmm.imp id (fun ⟨g, e, hg, h⟩ => ⟨g, e, Nat.le_trans HC4.out.size hg, h⟩)
  have HAF := Lib.hid (fun i j hi hj => after_all (meet_sym es) haf i j hi hj)
  have HR5 : Hid (Rn w w5 o a b l r es g8 c8 RS (l.length + r.length) (.slice none 0 0) Nf.start 0 0 0 0) :=
    ⟨⟨0, 0, HJ0.out⟩, Sep.start _ _, EM.eq (EM.ch HEM.out hch (no_not _)) (fun j hj => by unfold left_; rw [if_neg (by omega)]), OwnR.nil _ _, HRES.out, by simp, HC4.out.then_ hch, by omega, by omega, by simp [Nf.start]; omega, rfl, rfl, HES.out⟩
  have hst : (Nf.start.at_ : Nat) = 0 := rfl
  clear hmm haf hch HC4 HEM HJ0 HRES
  go_wp2_with fail
  go_loopg [10, 11, 12, 13] (l.length + r.length) (fun k v10 v11 v12 v13 wr => ∃ (s : RSt) (p q : Nat) (x y : Int), v11 = .int .i64 (s.at_ : Nat) ∧ v12 = .int .i64 x ∧ v13 = .int .i64 y ∧ Hid (Rn w wr o a b l r es g8 c8 RS k v10 s p q x y) ∧ Hid (MM w wr A9 es.length f))
  case atStart => exact ⟨Nf.start, 0, 0, 0, 0, rfl, rfl, rfl, HR5, HM5⟩
  case round =>
    clear HR5 HM5 hst
    obtain ⟨s, p, q, x, y, rfl, rfl, rfl, HR, HM⟩ := hrel
    obtain ⟨ko, rfl⟩ : ∃ ko : Nat, ko = gk := ⟨_, rfl⟩
    obtain ⟨hat, hx0, hx1, hy0, hy1⟩ := HR.out.bnd
    have hati : (s.at_ : Int) ≤ (o.length : Int) := by omega
    go_wp2_with fail
    go_loopg [14, 15, 16] es.length (fun kk v14 v15 v16 wx => ∃ (i : Nat) (first : Int) (from_ : Nat), i + kk = es.length ∧ v14 = .int .i64 first ∧ v15 = .int .i64 (from_ : Nat) ∧ v16 = .int .i64 i ∧ Hid (Qj.Found (left_ es l.length p q) s.at_ (o.length + 1) i first from_) ∧ wr = wx)
    case atStart => exact ⟨0, -1, o.length + 1, by omega, rfl, by simp, rfl, Qj.Found.start _ _ _, rfl⟩
    case round =>
      obtain ⟨i, first, from_, hik, rfl, rfl, rfl, HF, rfl⟩ := hrel
      by_cases hlt : i < es.length
      · obtain ⟨Av, cv, e0, e1, e2, _⟩ := EM.at_ HR.out.em i hlt
        obtain ⟨z, hz⟩ : ∃ z, left_ es l.length p q i = z := ⟨_, rfl⟩
        rw [hz] at e0
        have HZ := Lib.hid hz
        clear hz e1 e2
        by_cases h1 : (s.at_ : Int) ≤ z
        · by_cases h2 : z < (from_ : Int)
          · obtain ⟨zn, rfl⟩ := Int.eq_ofNat_of_zero_le (show 0 ≤ z by omega)
            go_wp2_with fail
            go_roundg (gk - 1)
            case rel => exact ⟨i + 1, (i : Nat), zn, by omega, rfl, rfl, by go_num, HF.out.yes HZ.out (by omega) (by omega), rfl⟩
            case measure => omega
          · go_wp2_with fail
            go_roundg (gk - 1)
            case rel => exact ⟨i + 1, first, from_, by omega, rfl, rfl, by go_num, HF.out.no (.inr (by rw [HZ.out]; omega)), rfl⟩
            case measure => omega
        · go_wp2_with fail
          go_roundg (gk - 1)
          case rel => exact ⟨i + 1, first, from_, by omega, rfl, rfl, by go_num, HF.out.no (.inl (by rw [HZ.out]; omega)), rfl⟩
          case measure => omega
      · have e : i = es.length := by omega
        subst e
        clear hlt hik
        by_cases hrest : p = l.length ∧ q = r.length
        ·
          obtain ⟨rfl, rfl⟩ := hrest
          obtain ⟨rfl, rfl⟩ := found_none HR.out.es HF.out
          have hfin : Hid (RS = (endS s o.length).out) := by
            have h := HR.out.fin
            rw [List.drop_eq_nil_of_le (Nat.le_refl _), List.drop_eq_nil_of_le (Nat.le_refl _), show clus ko [] [] = [] by cases ko <;> simp [clus]] at h
            exact h
          clear HF HM
          have h1 : (s.at_ : Int) < (o.length : Int) + 1 := by omega
          by_cases h2 : s.at_ < o.length
          · have h2i : (s.at_ : Int) < (o.length : Int) := by omega
            have h3 : (o.length : Int) < (o.length : Int) + 1 := by omega
            have h4 : IntKind.i64.wrap ((o.length : Int) - s.at_) = (o.length : Int) - s.at_ := IntWalk.i64_in _ (by omega)
            have hol := HR.out.ol
            go_wp2_with (at_builtin; refine app_reg rfl _ _ rfl w.heap.size _ s.out HR.out.own rfl 0 _ _ _ _ _ _ rfl (by omega) HR.out.ch.size ?_; intro v' w6 hown hch _; have HOW := Lib.hid hown; have HC6 := Lib.hid (hch HR.out.ch (Nat.le_refl _)); clear hown hch)
            go_ret
            refine ⟨_, rfl, ?_, HC6.out⟩
            rw [hfin.out]
            unfold endS
            rw [if_pos h2]
            unfold gapS
            rw [HR.out.gap]
            exact HOW.out
          · have h2i : ¬ (s.at_ : Int) < (o.length : Int) := by omega
            go_wp2_with fail
            go_ret
            refine ⟨_, rfl, ?_, HR.out.ch⟩
            rw [hfin.out]
            unfold endS
            rw [if_neg h2]
            exact HR.out.own
        · have hne : ¬ (l.drop p = [] ∧ r.drop q = []) := fun h => by
            have h1 := congrArg List.length h.1; have h2 := congrArg List.length h.2
            rw [List.length_drop] at h1 h2
            have := HR.out.pl; have := HR.out.ql
            simp at h1 h2
            exact hrest ⟨by omega, by omega⟩
          obtain ⟨A0, B0, hJ⟩ := HR.out.j
          have hfar := (startAt_far (Pb.Scr.far hJ.sa) (Pb.Scr.far hJ.sb) hne).1
          have hst : startAt (l.drop p) (r.drop q) ≤ o.length := by
            obtain ⟨j, hj, _, hja⟩ := start_has HR.out.es HR.out.pl HR.out.ql hrest
            rw [← hja, (atF_of (List.getElem?_eq_getElem hj)).1]
            exact HBO.out _ (List.getElem_mem hj)
          obtain ⟨k1, rfl, hk1, hku, hka, hfe⟩ := found_some HR.out.es HAL.out HAR.out HR.out.pl HR.out.ql hrest hfar (by omega) HF.out
          obtain ⟨p', q', c, hround⟩ := round_of l r HAL.out HAR.out p q HR.out.pl HR.out.ql (by rw [HR.out.es]; exact HR.out.sep)
          obtain ⟨hgood, hlen2, hJ'⟩ := step_J hJ hne (by omega) (by omega) (by omega) (by have := HR.out.ol; omega)
          rw [hround.eq] at hgood hlen2 hJ'
          simp only at hgood hlen2 hJ'
          obtain ⟨km, hkm, hfu, hcl⟩ := Nd.clus_step hne HR.out.fu
          rw [hround.eq] at hfu hcl
          simp only at hfu hcl
          have hfin : RS = (endS ((clus km (l.drop p') (r.drop q')).foldl (stepS a b) (stepS a b s c)) o.length).out := by
            have h := HR.out.fin
            rw [hcl, List.foldl_cons] at h
            exact h
          have HFIN := Lib.hid hfin; have HFU := Lib.hid hfu; have HRD := Lib.hid hround; have HG := Lib.hid hgood; have HLN := Lib.hid hlen2; have HJN := Lib.hid hJ'
          have HKU := Lib.hid hku; have HKA := Lib.hid (hka.trans hfe.symm); have HFC : Hid (from_ = c.from_) := hfe.trans hround.fr.symm
          have hfr1 : s.at_ ≤ from_ := by omega
          have hfr2 : from_ ≤ o.length := by omega
          have HJ := Lib.hid hJ
          have HNE2 := Lib.hid hne
          have HOL := Lib.hid HR.out.ol
          clear hfin hfu hround hgood hlen2 hJ' hku hka hfe hfar hst hJ hcl hne HF hrest
          go_upto_region 17 with (fail)
          go_cut [80] from 72 to 79 (fun v80 wx => v80 = .bool (decide (s.at_ < from_)) ∧ wr = wx)
          case first =>
            as_aux_lemma =>
            by_cases hlt : s.at_ < from_
            · have h1 : (s.at_ : Int) < (from_ : Int) := by omega
              have h2 : (s.at_ : Int) < (o.length : Int) := by omega
              go_wp2_with fail
              go_meet
              case rel => exact ⟨by rw [decide_eq_true hlt], rfl⟩
            · have h1 : ¬ (s.at_ : Int) < (from_ : Int) := by omega
              go_wp2_with fail
              go_meet
              case rel => exact ⟨by rw [decide_eq_false hlt], rfl⟩
          case rest =>
            obtain ⟨rfl, rfl⟩ := hcut
            go_upto_if 80 with (fail)
            go_cut [10, 12, 13, 17] from 80 to 105 (fun v10 v12 v13 v17 wx => ∃ (vo : Value) (x1 y1 : Int), vo = v10 ∧ v12 = .int .i64 x1 ∧ v13 = .int .i64 y1 ∧ Hid (x1 = (headS s c).last.af + (headS s c).last.am ∧ y1 = (headS s c).last.bf + (headS s c).last.bm ∧ (headS s c).last.of + (headS s c).last.om = from_) ∧ Hid (OwnR wx w.heap.size v10 (headS s c).out) ∧ Hid (EM wx g8 c8 es (left_ es l.length p q)) ∧ Hid (MM w wx A9 es.length f) ∧ Hid (Ch no w wx))
            case first =>
              by_cases hlt : s.at_ < from_
              · have h1 : (s.at_ : Int) < (from_ : Int) := by omega
                have h3 : ¬ (o.length : Int) < (from_ : Int) := by omega
                have h4 : IntKind.i64.wrap ((from_ : Int) - s.at_) = (from_ : Int) - s.at_ := IntWalk.i64_in _ (by omega)
                have hol := HR.out.ol
                have HH : Hid (headS s c = gapS s ((from_ : Int) - s.at_)) := by
                  show headS s c = _
                  unfold headS; rw [← HFC.out, if_pos hlt]
                have h5 : IntKind.i64.wrap (x + ((from_ : Int) - s.at_)) = x + ((from_ : Int) - s.at_) := IntWalk.i64_in _ (by omega)
                have h6 : IntKind.i64.wrap (y + ((from_ : Int) - s.at_)) = y + ((from_ : Int) - s.at_) := IntWalk.i64_in _ (by omega)
                rw [decide_eq_true hlt]
                go_wp2_with (at_builtin; refine app_reg rfl _ _ rfl w.heap.size _ s.out HR.out.own rfl 0 _ _ _ _ _ _ rfl (by omega) HR.out.ch.size ?_; intro v' w6 hown hch hkb; have HOW := Lib.hid hown; have HC6 := Lib.hid (hch HR.out.ch (Nat.le_refl _)); have HKB := Lib.hid hkb; clear hown hch hkb)
                go_meet
                case rel => exact ⟨_, _, _, rfl, rfl, rfl, (by
                  rw [HH.out]; unfold gapS; simp only; rw [HR.out.gap]; exact ⟨rfl, rfl, by simp only; omega⟩), (by
                  rw [HH.out]; unfold gapS; simp only; rw [HR.out.gap]; exact HOW.out), EM.keep HR.out.em (fun ob hob => HKB.out _ ob hob (EM.notOwn HR.out.em HR.out.own)), MM.keep HM.out HR.out.own HKB.out, HC6.out⟩
              · have HH : Hid (headS s c = s) := by
                  show headS s c = _
                  unfold headS; rw [← HFC.out, if_neg hlt]
                rw [decide_eq_false hlt]
                go_wp2_with fail
                go_meet
                case rel => exact ⟨_, x, y, rfl, rfl, rfl, by rw [HH.out]; exact ⟨HR.out.hx, HR.out.hy, by rw [HJ.out.po]; have := HFC.out; omega⟩, by rw [HH.out]; exact HR.out.own, HR.out.em, HM, HR.out.ch⟩
            case rest =>
              clear HR HM
              obtain ⟨vo, x1, y1, rfl, rfl, rfl, HX, HOW, HEM, HMM, HC⟩ := hcut
              obtain ⟨g9, rfl, hg9, hrow⟩ := Or.resolve_left HMM.out (by omega)
              have HRW := Lib.hid hrow
              have HGD := Lib.hid hg9
              clear hrow HMM hg9
              have HREG : Hid (regS s c = ⟨0, (from_ : Nat), (c.to_ : Int) - from_, x1, (c.to_ : Int) - from_ + c.m0, y1, (c.to_ : Int) - from_ + c.m1⟩) := by
                show regS s c = _
                unfold regS nextR
                obtain ⟨h1, h2, h3⟩ := HX.out
                rw [h1, h2, h3, HFC.out]
              have hg := HG.out
              have n1 := hg.a0; have n2 := hg.a1; have n3 := hg.a2; have n4 := hg.b0; have n5 := hg.b1; have n6 := hg.b2
              have n7 := hg.m0; have n8 := hg.m1; have n9 := hg.ft
              rw [HREG.out] at n1 n2 n3 n4 n5 n6
              rw [← HFC.out] at n9
              simp only at n1 n2 n3 n4 n5 n6
              clear hg
              obtain ⟨T, hT⟩ : ∃ T : Nat → Clu, acc l r p q p' q' ⟨from_, from_, 0, 0, false, false⟩ = T := ⟨_, rfl⟩
              have hsa : startAt (l.drop p) (r.drop q) = from_ := by rw [HFC.out]; exact HRD.out.fr.symm
              have hT0 : T 0 = ⟨from_, from_, 0, 0, false, false⟩ := by rw [← hT]; exact acc_zero ..
              have HTE : Hid (T es.length = c) := by
                show T es.length = c
                have := acc_all HRD.out
                rw [hsa, HES.out, hT] at this
                exact this
              have HTN : Hid (∀ i, ¬ Clus l.length p q p' q' i → T (i + 1) = T i) := fun i hi => by rw [← hT]; exact acc_no _ _ _ _ _ _ _ i HRD.out.pl hi
              have HTL : Hid (∀ i (hi : i < es.length), Clus l.length p q p' q' i → i < l.length → T (i + 1) = Clu.add0 (T i) es[i]) := fun i hi hc hl => by
                have h0 : es[i] = l[i] := by have := HES.out; subst this; exact List.getElem_append_left hl
                rw [← hT, h0]; exact acc_left _ _ _ _ _ _ _ i HRD.out.pl hc hl
              have HTR : Hid (∀ i (hi : i < es.length), Clus l.length p q p' q' i → l.length ≤ i → T (i + 1) = Clu.add1 (T i) es[i]) := fun i hi hc hl => by
                have h0 : es[i] = r[i - l.length]'(by omega) := by have := HES.out; subst this; exact List.getElem_append_right hl
                rw [← hT, h0]; exact acc_right _ _ _ _ _ _ _ i HRD.out.pl HRD.out.ql hc hl (by omega)
              have HTB : Hid (∀ i, ((-100000000 ≤ (T i).m0 ∧ (T i).m0 ≤ 100000000) ∧ (-100000000 ≤ (T i).m1 ∧ (T i).m1 ≤ 100000000)) ∧ (T i).to_ ≤ 200000000) := fun i => by
                rw [← hT]
                refine ⟨acc_bnd _ _ _ _ _ _ _ i HSL.out.1 HSR.out.1, acc_to _ _ _ _ _ _ _ i _ (fun e he => ?_) (fun e he => ?_) (by omega)⟩
                · have := hsm.out e (by rw [← HES.out]; exact List.mem_append_left _ he); omega
                · have := hsm.out e (by rw [← HES.out]; exact List.mem_append_right _ he); omega
              have HCN : Hid (∀ i, i < es.length → (f i = f k1 ↔ Clus l.length p q p' q' i)) := fun i hi => by
                have h1 := HAF.out i k1 hi hk1
                have h2 := HRD.out.conn k1 (by rw [HES.out]; exact hk1) HKU.out (by rw [HES.out, HKA.out]; exact hsa.symm) i (by rw [HES.out]; exact hi)
                rw [HES.out] at h2
                exact h1.trans h2
              have HNU : Hid (∀ i, Clus l.length p q p' q' i → left_ es l.length p q i = (atF es i : Nat)) := fun i hi => by
                unfold left_; unfold Clus at hi
                have := HRD.out.pl
                have := HRD.out.pp
                rw [if_neg (by omega)]; rfl
              clear hT
              have HB0 : Hid (Hb w (wc.alloc (.cells #[.int .i64 0, .int .i64 (from_ : Nat), .int .i64 0, .int .i64 x1, .int .i64 (T 0).m0, .int .i64 y1, .int .i64 (T 0).m1] 67)) es g8 c8 g9 wc.heap.size (left_ es l.length p q) f vo (headS s c).out #[.int .i64 0, .int .i64 (from_ : Nat), .int .i64 0, .int .i64 x1, .int .i64 (T 0).m0, .int .i64 y1, .int .i64 (T 0).m1]) :=
                ⟨HEM.out.ch ((Ch.refl no _).alloc _) (no_not _), own_ch HOW.out ((Ch.refl no _).alloc _) (fun _ _ => no_not _), HRW.out.ch ((Ch.refl no _).alloc _) (no_not _), HC.out.alloc _, bNew _ _, by obtain ⟨cur, hb, _⟩ := HEM.out; exact blk_lt' hb, fun k hk => own_lt HOW.out k hk, by obtain ⟨cur, hb, _⟩ := HRW.out; exact blk_lt' hb, HC.out.size⟩
              rw [hT0] at HB0
              have hk0 : ¬ ((k1 : Nat) : Int) < 0 := by omega
              clear HEM HOW HRW HC
              go_wp2_with fail
              generalize hGe : wc.heap.size = G at HB0 ⊢
              clear hGe
              go_loopg [19, 20, 21, 22] es.length (fun kk v19 v20 v21 v22 wx => ∃ i : Nat, i + kk = es.length ∧ v22 = .int .i64 i ∧ v19 = .int .i64 ((T i).to_ : Nat) ∧ v20 = .bool (T i).h0 ∧ v21 = .bool (T i).h1 ∧ Hid (Hb w wx es g8 c8 g9 G (left_ es l.length p q) f vo (headS s c).out #[.int .i64 0, .int .i64 (from_ : Nat), .int .i64 0, .int .i64 x1, .int .i64 (T i).m0, .int .i64 y1, .int .i64 (T i).m1]))
              case atStart => exact ⟨0, by omega, rfl, by rw [hT0], by rw [hT0], by rw [hT0], by rw [hT0]; exact HB0⟩
              case round =>
                clear HB0
                obtain ⟨i, hik, rfl, rfl, rfl, rfl, HH⟩ := hrel
                by_cases hlt : i < es.length
                · obtain ⟨r0, _⟩ := RowI.at_ HH.out.row i hlt
                  obtain ⟨r1, _⟩ := RowI.at_ HH.out.row k1 hk1
                  by_cases hfi : f i = f k1
                  · have hin := (HCN.out i hlt).1 hfi
                    obtain ⟨Av, cv, e0, e1, e2, _⟩ := EM.at_ HH.out.em i hlt
                    rw [HNU.out i hin, (atF_of (List.getElem?_eq_getElem hlt)).1] at e0
                    have hsz := hsm.out _ (List.getElem_mem hlt)
                    have hsz2 := HIN.out _ (List.getElem_mem hlt)
                    have hb := HTB.out i
                    rw [hfi] at r0
                    obtain ⟨ti, hti⟩ : ∃ ti, T i = ti := ⟨_, rfl⟩
                    rw [hti] at HH hb ⊢
                    have q4 := HH.out.cell 4 _ rfl; have f4 := HH.out.free 4
                    have q6 := HH.out.cell 6 _ rfl; have f6 := HH.out.free 6
                    obtain ⟨ea, hea⟩ : ∃ ea, es[i].at_ = ea := ⟨_, rfl⟩
                    obtain ⟨ed, hed⟩ : ∃ ed, es[i].del = ed := ⟨_, rfl⟩
                    obtain ⟨en, hen⟩ : ∃ en, es[i].ins.length = en := ⟨_, rfl⟩
                    rw [hea] at e0 hsz; rw [hed] at e1 hsz; rw [hen] at e2 hsz2
                    obtain ⟨tt, htt⟩ : ∃ tt, ea + ed = tt := ⟨_, rfl⟩
                    have w1 : IntKind.i64.wrap ((ea : Int) + ed) = (tt : Int) := by rw [IntWalk.i64_in _ (by omega)]; omega
                    have w2 : IntKind.i64.wrap (ti.m0 + (en : Int)) = ti.m0 + en := IntWalk.i64_in _ (by omega)
                    have w3 : IntKind.i64.wrap (ti.m0 + (en : Int) - ed) = ti.m0 + en - ed := IntWalk.i64_in _ (by omega)
                    have w4 : IntKind.i64.wrap (ti.m1 + (en : Int)) = ti.m1 + en := IntWalk.i64_in _ (by omega)
                    have w5 : IntKind.i64.wrap (ti.m1 + (en : Int) - ed) = ti.m1 + en - ed := IntWalk.i64_in _ (by omega)
                    have HTI := Lib.hid hti; have HEA := Lib.hid hea; have HED := Lib.hid hed; have HEN := Lib.hid hen; have HTT := Lib.hid htt
                    clear hti hea hed hen htt hb hfi
                    by_cases hside : i < l.length
                    ·
                      as_aux_lemma =>
                      have HQ := Lib.hid (HTL.out i hlt hin hside)
                      rw [HTI.out] at HQ
                      have hs1 : (i : Int) < (l.length : Int) := by omega
                      go_wp2_with fail
                      go_quiet (fail)
                      go_wp2_with fail
                      go_quiet (fail)
                      go_wp2_with fail
                      refine wp_world (fun W => Hid (Hb w W es g8 c8 g9 G (left_ es l.length p q) f vo (headS s c).out #[.int .i64 0, .int .i64 (from_ : Nat), .int .i64 0, .int .i64 x1, .int .i64 ti.m0, .int .i64 y1, .int .i64 ti.m1])) (HH.out.step ((Ch.refl no _).drewN _)) ?_
                      intro W2 HH2
                      clear e0 e1 e2 r0 r1 q4 q6 f4 f6
                      obtain ⟨Av2, cv2, e0, e1, e2, _⟩ := EM.at_ HH2.out.em i hlt
                      rw [HED.out] at e1
                      rw [HEN.out] at e2
                      clear e0
                      have q4 := HH2.out.cell 4 _ rfl
                      have f4 := HH2.out.free 4
                      go_still_tail 18, (by kernel_rfl)
                      show wpList _ _ _ _ _ W2.drew
                      go_wp2_with fail
                      go_roundg (gk - 1)
                      case rel =>
                        have hstep := (HH2.out.set 4 (.int .i64 (ti.m0 + en - ed))).step (Ch.refl no _).drew
                        simp only [List.setIfInBounds_toArray, List.set_cons_zero, List.set_cons_succ] at hstep
                        have hv : ti.m0 + (en : Int) - ed = ti.m0 + ((en : Int) - ed) := by omega
                        refine ⟨i + 1, by omega, by go_num, ?_, ?_, ?_, ?_⟩
                        · rw [HQ.out]; simp only [Clu.add0, Clu.take0]; rw [HEA.out, HED.out, HTT.out]
                        · rw [HQ.out]; rfl
                        · rw [HQ.out]; rfl
                        · rw [HQ.out]; simp only [Clu.add0, Clu.take0]; rw [HED.out, HEN.out, ← hv]; exact hstep
                      case measure => omega
                    ·
                      as_aux_lemma =>
                      have HQ := Lib.hid (HTR.out i hlt hin (by omega))
                      rw [HTI.out] at HQ
                      have hs1 : ¬ (i : Int) < (l.length : Int) := by omega
                      go_wp2_with fail
                      go_quiet (fail)
                      go_wp2_with fail
                      go_quiet (fail)
                      go_wp2_with fail
                      refine wp_world (fun W => Hid (Hb w W es g8 c8 g9 G (left_ es l.length p q) f vo (headS s c).out #[.int .i64 0, .int .i64 (from_ : Nat), .int .i64 0, .int .i64 x1, .int .i64 ti.m0, .int .i64 y1, .int .i64 ti.m1])) (HH.out.step ((Ch.refl no _).drewN _)) ?_
                      intro W2 HH2
                      clear e0 e1 e2 r0 r1 q4 q6 f4 f6
                      obtain ⟨Av2, cv2, e0, e1, e2, _⟩ := EM.at_ HH2.out.em i hlt
                      rw [HED.out] at e1
                      rw [HEN.out] at e2
                      clear e0
                      have q4 := HH2.out.cell 6 _ rfl
                      have f4 := HH2.out.free 6
                      go_still_tail 18, (by kernel_rfl)
                      show wpList _ _ _ _ _ W2.drew
                      go_wp2_with fail
                      go_roundg (gk - 1)
                      case rel =>
                        have hstep := (HH2.out.set 6 (.int .i64 (ti.m1 + en - ed))).step (Ch.refl no _).drew
                        simp only [List.setIfInBounds_toArray, List.set_cons_zero, List.set_cons_succ] at hstep
                        have hv : ti.m1 + (en : Int) - ed = ti.m1 + ((en : Int) - ed) := by omega
                        refine ⟨i + 1, by omega, by go_num, ?_, ?_, ?_, ?_⟩
                        · rw [HQ.out]; simp only [Clu.add1, Clu.take1]; rw [HEA.out, HED.out, HTT.out]
                        · rw [HQ.out]; rfl
                        · rw [HQ.out]; rfl
                        · rw [HQ.out]; simp only [Clu.add1, Clu.take1]; rw [HED.out, HEN.out, ← hv]; exact hstep
                      case measure => omega
                  · have hnb : (((f i : Nat) : Int) == ((f k1 : Nat) : Int)) = false := by rw [beq_eq_false_iff_ne]; omega
                    have HQ := Lib.hid (HTN.out i (fun h => hfi ((HCN.out i hlt).2 h)))
                    clear hfi
                    go_wp2_with fail
                    go_quiet (fail)
                    go_wp2_with fail
                    go_roundg (gk - 1)
                    case rel => exact ⟨i + 1, by omega, by go_num, by rw [HQ.out], by rw [HQ.out], by rw [HQ.out], by rw [HQ.out]; exact HH.out.step ((Ch.refl no _).drewN _)⟩
                    case measure => omega
                · have e : i = es.length := by omega
                  subst e
                  rw [HTE.out] at HH ⊢
                  obtain ⟨am, ham⟩ : ∃ am : Int, c.m0 + c.to_ - from_ = am := ⟨_, rfl⟩
                  obtain ⟨bm, hbm⟩ : ∃ bm : Int, c.m1 + c.to_ - from_ = bm := ⟨_, rfl⟩
                  obtain ⟨om, hom⟩ : ∃ om : Int, (c.to_ : Int) - from_ = om := ⟨_, rfl⟩
                  have htb := HG.out.tb
                  have z1 : IntKind.i64.wrap ((c.to_ : Int) - from_) = om := by rw [IntWalk.i64_in _ (by omega)]; exact hom
                  have z2 : IntKind.i64.wrap (c.m0 + (c.to_ : Int)) = c.m0 + c.to_ := IntWalk.i64_in _ (by omega)
                  have z3 : IntKind.i64.wrap (c.m0 + (c.to_ : Int) - from_) = am := by rw [IntWalk.i64_in _ (by omega)]; exact ham
                  have z4 : IntKind.i64.wrap (c.m1 + (c.to_ : Int)) = c.m1 + c.to_ := IntWalk.i64_in _ (by omega)
                  have z5 : IntKind.i64.wrap (c.m1 + (c.to_ : Int) - from_) = bm := by rw [IntWalk.i64_in _ (by omega)]; exact hbm
                  have m1 : 0 ≤ am := by omega
                  have m5 : 0 ≤ x1 := n1
                  have m6 : 0 ≤ y1 := n4
                  have m2 : x1 + am ≤ a.length := by omega
                  have m3 : 0 ≤ bm := by omega
                  have m4 : y1 + bm ≤ b.length := by omega
                  have q4 := HH.out.cell 4 _ rfl; have f4 := HH.out.free 4
                  have q6 := HH.out.cell 6 _ rfl; have f6 := HH.out.free 6
                  have f2 := HH.out.free 2; have q2 := HH.out.cell 2 _ rfl
                  have HREG2 : Hid (regS s c = ⟨0, (from_ : Nat), om, x1, am, y1, bm⟩) := by
                    show regS s c = _
                    rw [HREG.out, hom, show om + c.m0 = am by omega, show om + c.m1 = bm by omega]
                  have HOM := Lib.hid hom
                  clear hlt hik hk0
                  go_upto_region 41 with (fail)
                  refine wp_world (fun W => Hid (Hb w W es g8 c8 g9 G (left_ es l.length p q) f vo (headS s c).out #[.int .i64 0, .int .i64 (from_ : Nat), .int .i64 om, .int .i64 x1, .int .i64 am, .int .i64 y1, .int .i64 bm])) (by
                    have h := ((HH.out.set 2 (.int .i64 om)).set 4 (.int .i64 am)).set 6 (.int .i64 bm)
                    simp only [List.setIfInBounds_toArray, List.set_cons_zero, List.set_cons_succ] at h
                    exact h) ?_
                  intro W1 HH1
                  clear HH q2 q4 q6 f2 f4 f6 z1 z2 z3 z4 z5 ham hbm hom n1 n2 n3 n4 n5 n6
                  go_cut [23] from 208 to 224 (fun v23 wx => v23 = .bool (decide (cutL a x1 am = cutL b y1 bm)) ∧ Hid (Hb w wx es g8 c8 g9 G (left_ es l.length p q) f vo (headS s c).out #[.int .i64 0, .int .i64 (from_ : Nat), .int .i64 om, .int .i64 x1, .int .i64 am, .int .i64 y1, .int .i64 bm]))
                  case first =>
                    as_aux_lemma =>
                    obtain ⟨i0, hi, hz0, hz1, hz2⟩ := info_parts infoStr
                    have ca1 := HA.out.le; have cb1 := HB.out.le
                    obtain ⟨A2, hcutA, hrowA⟩ := cut_lh (P := Try.prog) (d := El.str) 25 9 .i64 .i64 Try.underlying25 hi hz1 Aa ca a x1 (x1 + am) (by omega) (by omega) (by omega) ca1
                    obtain ⟨B2, hcutB, hrowB⟩ := cut_lh (P := Try.prog) (d := El.str) 25 9 .i64 .i64 Try.underlying25 hi hz1 Ab cb b y1 (y1 + bm) (by omega) (by omega) (by omega) cb1
                    obtain ⟨LA, hLA⟩ : ∃ LA, (a.take (x1 + am).toNat).drop x1.toNat = LA := ⟨_, rfl⟩
                    obtain ⟨LB, hLB⟩ : ∃ LB, (b.take (y1 + bm).toNat).drop y1.toNat = LB := ⟨_, rfl⟩
                    obtain ⟨cA, hcA⟩ : ∃ cA, ca - x1.toNat = cA := ⟨_, rfl⟩
                    obtain ⟨cB, hcB⟩ : ∃ cB, cb - y1.toNat = cB := ⟨_, rfl⟩
                    rw [hLA, hcA] at hcutA hrowA
                    rw [hLB, hcB] at hcutB hrowB
                    have HLA : Hid (cutL a x1 am = LA) := hLA
                    have HLB : Hid (cutL b y1 bm = LB) := hLB
                    clear hLA hLB hcA hcB
                    have HTX : Hid (∀ W, Ch no W1 W → Calls Try.prog 12 #[.slice A2 LA.length cA, .slice B2 LB.length cB] W fun e w' => e = .returned (.bool (decide (LA = LB))) ∧ Dr W w') := fun W hW =>
                      texts_any A2 B2 _ _ _ _ _ (hrowA _ (HA.out.ch (HH1.out.ch.then_ hW))) (hrowB _ (HB.out.ch (HH1.out.ch.then_ hW)))
                    have w1 : IntKind.i64.wrap (x1 + am) = x1 + am := IntWalk.i64_in _ (by omega)
                    have w2 : IntKind.i64.wrap (y1 + bm) = y1 + bm := IntWalk.i64_in _ (by omega)
                    have p4 := HH1.out.cell 4 _ rfl
                    have p6 := HH1.out.cell 6 _ rfl
                    clear hi hz0 hz1 hz2 hrowA hrowB
                    clear HO HS1 HS2 HSL HSR HAL HAR hsm HIN HBO HAF HES HRD HG HLN HJN HFIN HFU HKU HKA HFC HX HREG HTE HTN HTL HTR HTB HCN HNU HREG2 HOM HNE2 HOL HGD HJ hkm hg8 n7 n8 n9 htb hfr1 hfr2 hx0 hx1 hy0 hy1 hat hati hll hlr hnl hnl2 hT0 lo
                    refine wp_region_tail (G := gds [Gd.is ?r41v0, Gd.is ?r41v1, Gd.is ?r41v2, Gd.is ?r41v3, Gd.is ?r41v4, Gd.is ?r41v5, Gd.is ?r41v6, Gd.is (.slice A2 LA.length cA), Gd.is ?r41v8, Gd.is ?r41v9, Gd.is ?r41v10, Gd.is ?r41v11, Gd.is ?r41v12, Gd.is ?r41v13, Gd.is ?r41v14, Gd.is (.slice B2 LB.length cB), Gd.is (.bool (decide (LA = LB)))]) 17 (by kernel_rfl) (by kernel_rfl) rfl (by kernel_rfl) gds_st ?obl41 ?fin41
                    case obl41 =>
                      simp only [Obls, and_true, List.take_succ_cons, List.take_zero]
                      refine ⟨?_, ?_, ?_, ?_, ?_, ?_, ?_, ?_, ?_, ?_, ?_, ?_, ?_, ?_, ?_, ?_, ?_⟩
                      · intro vs W hW hd
                        simp only [fill, List.setIfInBounds_toArray, List.set_cons_zero, List.set_cons_succ]
                        clear hd
                        go_wp2_with (fail)
                        refine ⟨rfl, rfl, Ch.refl _ _, gds_is rfl ?_⟩
                        (conv => lhs; whnf)
                      · intro vs W hW hd
                        simp only [fill, List.setIfInBounds_toArray, List.set_cons_zero, List.set_cons_succ]
                        clear hd
                        go_wp2_with (fail)
                        refine ⟨rfl, rfl, Ch.refl _ _, gds_is rfl ?_⟩
                        (conv => lhs; whnf)
                      · intro vs W hW hd
                        simp only [fill, List.setIfInBounds_toArray, List.set_cons_zero, List.set_cons_succ]
                        clear hd
                        go_wp2_with (fail)
                        refine ⟨rfl, rfl, Ch.refl _ _, gds_is rfl ?_⟩
                        (conv => lhs; whnf)
                      · intro vs W hW hd
                        simp only [fill, List.setIfInBounds_toArray, List.set_cons_zero, List.set_cons_succ]
                        clear hd
                        go_wp2_with (fail)
                        refine ⟨rfl, rfl, Ch.refl _ _, gds_is rfl ?_⟩
                        (conv => lhs; whnf)
                      · intro vs W hW hd
                        simp only [fill, List.setIfInBounds_toArray, List.set_cons_zero, List.set_cons_succ]
                        have d3 := gds_at rfl (hd ⟨3, .data⟩ (by simp) rfl)
                        rw [d3]
                        clear hd d3
                        go_wp2_with (fail)
                        refine ⟨rfl, rfl, Ch.refl _ _, gds_is rfl ?_⟩
                        (conv => lhs; whnf)
                      · intro vs W hW hd
                        simp only [fill, List.setIfInBounds_toArray, List.set_cons_zero, List.set_cons_succ]
                        have d4 := gds_at rfl (hd ⟨4, .data⟩ (by simp) rfl)
                        rw [d4]
                        clear hd d4
                        have hWW := (Ch.refl no W1).drew.same hW
                        have q4 := cell_ch hWW p4; have q6 := cell_ch hWW p6
                        go_wp2_with (fail)
                        refine ⟨rfl, rfl, Ch.refl _ _, gds_is rfl ?_⟩
                        (conv => lhs; whnf)
                      · intro vs W hW hd
                        simp only [fill, List.setIfInBounds_toArray, List.set_cons_zero, List.set_cons_succ]
                        have d2 := gds_at rfl (hd ⟨2, .data⟩ (by simp) rfl)
                        have d5 := gds_at rfl (hd ⟨5, .data⟩ (by simp) rfl)
                        rw [d2, d5]
                        clear hd d2 d5
                        go_wp2_with (fail)
                        refine ⟨rfl, rfl, Ch.refl _ _, gds_is rfl ?_⟩
                        (conv => lhs; whnf)
                      · intro vs W hW hd
                        simp only [fill, List.setIfInBounds_toArray, List.set_cons_zero, List.set_cons_succ]
                        have d0 := gds_at rfl (hd ⟨0, .data⟩ (by simp) rfl)
                        have d1 := gds_at rfl (hd ⟨1, .data⟩ (by simp) rfl)
                        have d6 := gds_at rfl (hd ⟨6, .data⟩ (by simp) rfl)
                        rw [d0, d1, d6]
                        clear hd d0 d1 d6
                        go_wp2_with (fail)
                        refine ⟨rfl, rfl, Ch.refl _ _, gds_is rfl ?_⟩
                        (conv => lhs; whnf)
                      · intro vs W hW hd
                        simp only [fill, List.setIfInBounds_toArray, List.set_cons_zero, List.set_cons_succ]
                        clear hd
                        go_wp2_with (fail)
                        refine ⟨rfl, rfl, Ch.refl _ _, gds_is rfl ?_⟩
                        (conv => lhs; whnf)
                      · intro vs W hW hd
                        simp only [fill, List.setIfInBounds_toArray, List.set_cons_zero, List.set_cons_succ]
                        clear hd
                        go_wp2_with (fail)
                        refine ⟨rfl, rfl, Ch.refl _ _, gds_is rfl ?_⟩
                        (conv => lhs; whnf)
                      · intro vs W hW hd
                        simp only [fill, List.setIfInBounds_toArray, List.set_cons_zero, List.set_cons_succ]
                        clear hd
                        go_wp2_with (fail)
                        refine ⟨rfl, rfl, Ch.refl _ _, gds_is rfl ?_⟩
                        (conv => lhs; whnf)
                      · intro vs W hW hd
                        simp only [fill, List.setIfInBounds_toArray, List.set_cons_zero, List.set_cons_succ]
                        clear hd
                        go_wp2_with (fail)
                        refine ⟨rfl, rfl, Ch.refl _ _, gds_is rfl ?_⟩
                        (conv => lhs; whnf)
                      · intro vs W hW hd
                        simp only [fill, List.setIfInBounds_toArray, List.set_cons_zero, List.set_cons_succ]
                        have d11 := gds_at rfl (hd ⟨11, .data⟩ (by simp) rfl)
                        rw [d11]
                        clear hd d11
                        go_wp2_with (fail)
                        refine ⟨rfl, rfl, Ch.refl _ _, gds_is rfl ?_⟩
                        (conv => lhs; whnf)
                      · intro vs W hW hd
                        simp only [fill, List.setIfInBounds_toArray, List.set_cons_zero, List.set_cons_succ]
                        have d12 := gds_at rfl (hd ⟨12, .data⟩ (by simp) rfl)
                        rw [d12]
                        clear hd d12
                        have hWW := (Ch.refl no W1).drew.same hW
                        have q4 := cell_ch hWW p4; have q6 := cell_ch hWW p6
                        go_wp2_with (fail)
                        refine ⟨rfl, rfl, Ch.refl _ _, gds_is rfl ?_⟩
                        (conv => lhs; whnf)
                      · intro vs W hW hd
                        simp only [fill, List.setIfInBounds_toArray, List.set_cons_zero, List.set_cons_succ]
                        have d10 := gds_at rfl (hd ⟨10, .data⟩ (by simp) rfl)
                        have d13 := gds_at rfl (hd ⟨13, .data⟩ (by simp) rfl)
                        rw [d10, d13]
                        clear hd d10 d13
                        go_wp2_with (fail)
                        refine ⟨rfl, rfl, Ch.refl _ _, gds_is rfl ?_⟩
                        (conv => lhs; whnf)
                      · intro vs W hW hd
                        simp only [fill, List.setIfInBounds_toArray, List.set_cons_zero, List.set_cons_succ]
                        have d8 := gds_at rfl (hd ⟨8, .data⟩ (by simp) rfl)
                        have d9 := gds_at rfl (hd ⟨9, .data⟩ (by simp) rfl)
                        have d14 := gds_at rfl (hd ⟨14, .data⟩ (by simp) rfl)
                        rw [d8, d9, d14]
                        clear hd d8 d9 d14
                        go_wp2_with (fail)
                        refine ⟨rfl, rfl, Ch.refl _ _, gds_is rfl ?_⟩
                        (conv => lhs; whnf)
                      · intro vs W hW hd
                        simp only [fill, List.setIfInBounds_toArray, List.set_cons_zero, List.set_cons_succ]
                        have d7 := gds_at rfl (hd ⟨7, .data⟩ (by simp) rfl)
                        have d15 := gds_at rfl (hd ⟨15, .data⟩ (by simp) rfl)
                        rw [d7, d15]
                        clear hd d7 d15
                        have hWW := (Ch.refl no W1).drew.same hW
                        have q4 := cell_ch hWW p4; have q6 := cell_ch hWW p6
                        go_wp2_with (refine (HTX.out W hWW).mono ?_; rintro e w2 ⟨rfl, hdr⟩; have hch := Dr.ch hdr no)
                        exact ⟨rfl, rfl, hch, gds_is rfl rfl⟩
                    case fin41 =>
                      intro vs W hW hd
                      simp only [fill, List.setIfInBounds_toArray, List.set_cons_zero, List.set_cons_succ, List.take_succ_cons, List.take_zero, List.drop_succ_cons, List.drop_zero]
                      have d0 := gds_at rfl (hd 0 (by omega))
                      have d1 := gds_at rfl (hd 1 (by omega))
                      have d2 := gds_at rfl (hd 2 (by omega))
                      have d3 := gds_at rfl (hd 3 (by omega))
                      have d4 := gds_at rfl (hd 4 (by omega))
                      have d5 := gds_at rfl (hd 5 (by omega))
                      have d6 := gds_at rfl (hd 6 (by omega))
                      have d7 := gds_at rfl (hd 7 (by omega))
                      have d8 := gds_at rfl (hd 8 (by omega))
                      have d9 := gds_at rfl (hd 9 (by omega))
                      have d10 := gds_at rfl (hd 10 (by omega))
                      have d11 := gds_at rfl (hd 11 (by omega))
                      have d12 := gds_at rfl (hd 12 (by omega))
                      have d13 := gds_at rfl (hd 13 (by omega))
                      have d14 := gds_at rfl (hd 14 (by omega))
                      have d15 := gds_at rfl (hd 15 (by omega))
                      have d16 := gds_at rfl (hd 16 (by omega))
                      rw [d0, d1, d2, d3, d4, d5, d6, d7, d8, d9, d10, d11, d12, d13, d14, d15, d16]
                      clear hd d0 d1 d2 d3 d4 d5 d6 d7 d8 d9 d10 d11 d12 d13 d14 d15 d16
                      go_wp2_with fail
                      go_meet
                      case rel => exact ⟨by rw [HLA.out, HLB.out], HH1.out.step ((Ch.refl no W1).drew.same hW)⟩
                  case rest =>
                    clear HH1
                    obtain ⟨rfl, HH⟩ := hcut
                    have HAS := Lib.hid (first_has (l.drop p) (r.drop q))
                    have hhas : ¬ (c.h0 = false ∧ c.h1 = false) := by
                      have h := first_has (l.drop p) (r.drop q) HNE2.out
                      rw [HRD.out.eq] at h
                      exact h
                    clear HAS
                    have HKD : Hid (kindS a b s c = kindOf c (cutL a x1 am) (cutL b y1 bm)) := by
                      show kindS a b s c = _
                      unfold kindS
                      rw [HREG2.out]
                    obtain ⟨sm, hsme⟩ : ∃ sm, decide (cutL a x1 am = cutL b y1 bm) = sm := ⟨_, rfl⟩
                    have hkk : kindS a b s c = if c.h1 = false then 1 else if c.h0 = false then 2 else if sm = true then 3 else 4 := by
                      rw [HKD.out]; unfold kindOf; rw [← hsme]; simp only [decide_eq_true_eq]
                    rw [hsme]
                    obtain ⟨b0, hb0⟩ : ∃ b0, c.h0 = b0 := ⟨_, rfl⟩
                    obtain ⟨b1, hb1⟩ : ∃ b1, c.h1 = b1 := ⟨_, rfl⟩
                    rw [hb0, hb1] at hhas hkk ⊢
                    have hkk3 : kindS a b s c = if b0 = false then 2 else if b1 = false then 1 else if sm = true then 3 else 4 := by
                      rw [hkk]; cases b0 <;> cases b1 <;> simp at hhas ⊢
                    have HKK := Lib.hid hkk3
                    clear hkk hkk3 hb0 hb1 hsme hhas HKD
                    have f0 := HH.out.free 0
                    have q0 := HH.out.cell 0 _ rfl
                    go_upto_if 226 with (fail)
                    refine wp_world (fun wx => Hid (Hb w wx es g8 c8 g9 G (left_ es l.length p q) f vo (headS s c).out #[.int .i64 4, .int .i64 (from_ : Nat), .int .i64 om, .int .i64 x1, .int .i64 am, .int .i64 y1, .int .i64 bm])) (by have h := HH.out.set 0 (.int .i64 4); simp only [List.setIfInBounds_toArray, List.set_cons_zero, List.set_cons_succ] at h; exact h) ?_
                    clear HH q0 f0
                    intro W2 HH
                    have f0 := HH.out.free 0
                    have q0 := HH.out.cell 0 _ rfl
                    go_cut [23] from 226 to 226 (fun v23 wx => v23 = .bool sm ∧ Hid (Hb w wx es g8 c8 g9 G (left_ es l.length p q) f vo (headS s c).out #[.int .i64 (if sm = true then 3 else 4), .int .i64 (from_ : Nat), .int .i64 om, .int .i64 x1, .int .i64 am, .int .i64 y1, .int .i64 bm]))
                    case first =>
                      cases sm with
                      | true =>
                        go_wp2_with fail
                        go_meet
                        case rel =>
                          have h := HH.out.set 0 (.int .i64 3)
                          simp only [List.setIfInBounds_toArray, List.set_cons_zero, List.set_cons_succ] at h
                          exact ⟨rfl, h⟩
                      | false =>
                        go_wp2_with fail
                        go_meet
                        case rel => exact ⟨rfl, HH.out⟩
                    case rest =>
                      clear HH q0 f0
                      obtain ⟨rfl, HH⟩ := hcut
                      have f0 := HH.out.free 0
                      have q0 := HH.out.cell 0 _ rfl
                      go_upto_if 229 with (fail)
                      refine wp_world (fun wx => Hid (Hb w wx es g8 c8 g9 G (left_ es l.length p q) f vo (headS s c).out #[.int .i64 (if sm = true then 3 else 4), .int .i64 (from_ : Nat), .int .i64 om, .int .i64 x1, .int .i64 am, .int .i64 y1, .int .i64 bm])) (by exact HH.out) ?_
                      clear HH q0 f0
                      intro W2 HH
                      have f0 := HH.out.free 0
                      have q0 := HH.out.cell 0 _ rfl
                      go_cut [23] from 228 to 229 (fun v23 wx => v23 = .bool sm ∧ Hid (Hb w wx es g8 c8 g9 G (left_ es l.length p q) f vo (headS s c).out #[.int .i64 (if b1 = false then 1 else if sm = true then 3 else 4), .int .i64 (from_ : Nat), .int .i64 om, .int .i64 x1, .int .i64 am, .int .i64 y1, .int .i64 bm]))
                      case first =>
                        cases b1 with
                        | false =>
                          go_wp2_with fail
                          go_meet
                          case rel =>
                            have h := HH.out.set 0 (.int .i64 1)
                            simp only [List.setIfInBounds_toArray, List.set_cons_zero, List.set_cons_succ] at h
                            exact ⟨rfl, h⟩
                        | true =>
                          go_wp2_with fail
                          go_meet
                          case rel => exact ⟨rfl, HH.out⟩
                      case rest =>
                        clear HH q0 f0
                        obtain ⟨rfl, HH⟩ := hcut
                        have f0 := HH.out.free 0
                        have q0 := HH.out.cell 0 _ rfl
                        go_upto_if 232 with (fail)
                        refine wp_world (fun wx => Hid (Hb w wx es g8 c8 g9 G (left_ es l.length p q) f vo (headS s c).out #[.int .i64 (if b1 = false then 1 else if sm = true then 3 else 4), .int .i64 (from_ : Nat), .int .i64 om, .int .i64 x1, .int .i64 am, .int .i64 y1, .int .i64 bm])) (by exact HH.out) ?_
                        clear HH q0 f0
                        intro W2 HH
                        have f0 := HH.out.free 0
                        have q0 := HH.out.cell 0 _ rfl
                        go_cut [23] from 231 to 232 (fun v23 wx => v23 = .bool sm ∧ Hid (Hb w wx es g8 c8 g9 G (left_ es l.length p q) f vo (headS s c).out #[.int .i64 (if b0 = false then 2 else if b1 = false then 1 else if sm = true then 3 else 4), .int .i64 (from_ : Nat), .int .i64 om, .int .i64 x1, .int .i64 am, .int .i64 y1, .int .i64 bm]))
                        case first =>
                          cases b0 with
                          | false =>
                            go_wp2_with fail
                            go_meet
                            case rel =>
                              have h := HH.out.set 0 (.int .i64 2)
                              simp only [List.setIfInBounds_toArray, List.set_cons_zero, List.set_cons_succ] at h
                              exact ⟨rfl, h⟩
                          | true =>
                            go_wp2_with fail
                            go_meet
                            case rel => exact ⟨rfl, HH.out⟩
                        case rest =>
                          clear HH q0 f0
                          obtain ⟨rfl, HH⟩ := hcut
                          rw [← HKK.out] at HH
                          have hol : (headS s c).out.length ≤ 200000 := by
                            have h1 := HLN.out
                            have h2 := HOL.out
                            unfold stepS at h1
                            simp only [List.length_append, List.length_cons, List.length_nil] at h1
                            omega
                          have q0 := HH.out.cell 0 _ rfl; have q1 := HH.out.cell 1 _ rfl; have q2 := HH.out.cell 2 _ rfl; have q3 := HH.out.cell 3 _ rfl
                          have q4 := HH.out.cell 4 _ rfl; have q5 := HH.out.cell 5 _ rfl; have q6 := HH.out.cell 6 _ rfl
                          have w1 : IntKind.i64.wrap (x1 + am) = x1 + am := IntWalk.i64_in _ (by omega)
                          have w2 : IntKind.i64.wrap (y1 + bm) = y1 + bm := IntWalk.i64_in _ (by omega)
                          have HNB : Hid (vo.ownBlock ≠ some G) := fun h => Nat.lt_irrefl _ (HH.out.lv G h)
                          have HK1 := Lib.hid ((HCN.out k1 hk1).1 rfl)
                          go_wp2_with (at_builtin; refine app_reg rfl _ _ rfl w.heap.size _ (headS s c).out HH.out.own rfl _ _ _ _ _ _ _ rfl (by omega) HH.out.ch.size ?_; intro v6 w6 hown hch hkb; have HOW6 := Lib.hid hown; have HC6 := Lib.hid (hch HH.out.ch (Nat.le_refl _)); have HKB := Lib.hid hkb; have p4 := (bCell (hkb G _ HH.out.box HNB.out) 4).trans rfl; have p6 := (bCell (hkb G _ HH.out.box HNB.out) 6).trans rfl; clear hown hch hkb q0 q1 q2 q3 q4 q5 q6)
                          have H0 : Hid (H4 w w6 es g8 c8 g9 (strk es l.length p q p' q' k1 0) f v6 ((headS s c).out ++ [⟨kindS a b s c, (from_ : Nat), om, x1, am, y1, bm⟩])) :=
                            ⟨EM.eq (EM.keep HH.out.em (fun ob hob => HKB.out _ ob hob (EM.notOwn HH.out.em HH.out.own))) (fun j hj => strk_zero ..), HOW6.out, RowI.keep HH.out.row (fun ob hob => HKB.out _ ob hob (RowI.notOwn HH.out.row HH.out.own)), HC6.out, hg8⟩
                          clear p4 p6 HKB HOW6 HC6 HH HNB
                          go_loopg [24] es.length (fun kk v24 wx => ∃ i : Nat, i + kk = es.length ∧ v24 = .int .i64 i ∧ Hid (H4 w wx es g8 c8 g9 (strk es l.length p q p' q' k1 i) f v6 ((headS s c).out ++ [⟨kindS a b s c, (from_ : Nat), om, x1, am, y1, bm⟩])))
                          case atStart => exact ⟨0, by omega, rfl, H0⟩
                          case round =>
                            clear H0
                            obtain ⟨i, hik, rfl, HS⟩ := hrel
                            by_cases hlt : i < es.length
                            ·
                              as_aux_lemma =>
                              obtain ⟨r0, _⟩ := RowI.at_ HS.out.row i hlt
                              obtain ⟨r1, _⟩ := RowI.at_ HS.out.row k1 hk1
                              go_upto_region 56 with (fail)
                              go_cut [268] from 255 to 267 (fun v268 wx => v268 = .bool (decide (f i = f k1 ∧ i ≠ k1)) ∧ Hid (H4 w wx es g8 c8 g9 (strk es l.length p q p' q' k1 i) f v6 ((headS s c).out ++ [⟨kindS a b s c, (from_ : Nat), om, x1, am, y1, bm⟩])))
                              case first =>
                                by_cases hfi : f i = f k1
                                · rw [hfi] at r0
                                  by_cases hi1 : i = k1
                                  · have hb : ((i : Int) == (k1 : Int)) = true := by rw [beq_iff_eq]; omega
                                    have HD := Lib.hid (decide_eq_false (p := f i = f k1 ∧ i ≠ k1) (fun h => h.2 hi1))
                                    clear hi1 hfi
                                    go_quiet (fail)
                                    go_wp2_with fail
                                    go_meet
                                    case rel => exact ⟨by rw [HD.out] <;> simp [bne, hb], HS.out.step ((Ch.refl no _).drewN _)⟩
                                  · have hb : ((i : Int) == (k1 : Int)) = false := by rw [beq_eq_false_iff_ne]; omega
                                    have HD := Lib.hid (decide_eq_true (p := f i = f k1 ∧ i ≠ k1) ⟨hfi, hi1⟩)
                                    clear hi1 hfi
                                    go_quiet (fail)
                                    go_wp2_with fail
                                    go_meet
                                    case rel => exact ⟨by rw [HD.out] <;> simp [bne, hb], HS.out.step ((Ch.refl no _).drewN _)⟩
                                · have hnb : (((f i : Nat) : Int) == ((f k1 : Nat) : Int)) = false := by rw [beq_eq_false_iff_ne]; omega
                                  have HD := Lib.hid (decide_eq_false (p := f i = f k1 ∧ i ≠ k1) (fun h => hfi h.1))
                                  clear hfi
                                  go_quiet (fail)
                                  go_wp2_with fail
                                  go_meet
                                  case rel => exact ⟨by rw [HD.out], HS.out.step ((Ch.refl no _).drewN _)⟩
                              case rest =>
                                clear HS r0 r1
                                obtain ⟨rfl, HS⟩ := hcut
                                by_cases hd : f i = f k1 ∧ i ≠ k1
                                · have HCL := Lib.hid ((HCN.out i hlt).1 hd.1)
                                  have HNK := Lib.hid hd.2
                                  rw [decide_eq_true hd]
                                  clear hd
                                  obtain ⟨Av, cv, e0, e1, e2, e3⟩ := EM.at_ HS.out.em i hlt
                                  clear e1 e2
                                  go_wp2_with fail
                                  go_roundg (gk - 1)
                                  case rel => exact ⟨i + 1, by omega, by go_num, HS.out.set i hlt (-1) (fun j hj => strk_yes _ _ _ _ _ _ _ i j HCL.out HNK.out)⟩
                                  case measure => omega
                                · have HNC : Hid (¬ (Clus l.length p q p' q' i ∧ i ≠ k1)) := fun h => hd ⟨(HCN.out i hlt).2 h.1, h.2⟩
                                  rw [decide_eq_false hd]
                                  clear hd
                                  go_wp2_with fail
                                  go_roundg (gk - 1)
                                  case rel => exact ⟨i + 1, by omega, by go_num, HS.out.eq (fun j hj => strk_no _ _ _ _ _ _ _ i j HNC.out)⟩
                                  case measure => omega
                            · have e : i = es.length := by omega
                              subst e
                              obtain ⟨Av, cv, e0, e1, e2, e3⟩ := EM.at_ HS.out.em k1 hk1
                              clear e1 e2 hlt hik
                              have hkm2 := hkm
                              go_wp2_with fail
                              go_roundg km
                              case rel =>
                                have HF := HS.out.set (A' := left_ es l.length p' q') k1 hk1 (-1) (fun j hj => strk_end _ _ _ _ _ _ _ _ j HK1.out HRD.out.pp HRD.out.pl HRD.out.qq hj)
                                have hso : (stepS a b s c).out = (headS s c).out ++ [⟨kindS a b s c, (from_ : Nat), om, x1, am, y1, bm⟩] := by
                                  unfold stepS; rw [HREG2.out]
                                have hsl : (stepS a b s c).last = ⟨0, (from_ : Nat), om, x1, am, y1, bm⟩ := HREG2.out
                                exact ⟨stepS a b s c, p', q', x1 + am, y1 + bm, rfl, rfl, rfl, ⟨HJN.out, by have := HRD.out.sep; rwa [HES.out] at this, HF.em, by rw [hso]; exact HF.own, HFIN.out, HFU.out, HF.ch, HRD.out.pl, HRD.out.ql, by have h1 := HLN.out; have h2 := HOL.out; omega, by rw [hsl], by rw [hsl], HES.out⟩, .inr ⟨g9, rfl, HGD.out, HF.row⟩⟩
                              case measure => omega
end Go.Proofs.Ytekeiieefkgopaa.Qk

import Derived.Test.YtddpnldgfdooiaaTkC
import Derived.Maps.RangeWalk
import Derived.Deep.LoopGhost
namespace Go.Proofs.Ytddpnldgfdooiaa
open Go.RowKit Go.Maps
attribute [local go_sem] World.cell?_alloc_some frozen_alloc_some

/-! Sweep. -/
theorem wpList_nextS {w : World} {b n r cnt : Nat} {F : Int → Option Ses} {left : Int → Bool} {ops : Array Oper} {rest : List Oper} {o : Oper} {a : Act} {Q : Exit → Act → World → Prop} (hg : o.guard = none) (it : Operand) (hop : o.op = Op.next it false) (hit : a.eval it = .pointer (some ⟨r, 0, none⟩)) (h : RangeF krU erS w b r n F left cnt)
    (hDone : (∀ x, krU.ok x → left x = false) → wpList Try.prog ops Q rest (a.put o.dst (.tuple #[.bool false])) w)
    (hMore : ∀ (x p b' l : Int) (w' : World) (cnt' : Nat), (Lit.int .u64 x).wf = true → left x = true → F x = some (p, b', l) → RangeF krU erS w' b r n F (fun y => left y && !decide (y = x)) cnt' → cnt' < cnt →
      w.grownBy w' (some r) → w'.heap.size = w.heap.size → (Instr.entry (.pointer (some ⟨r, 0, none⟩))).run Try.prog w' = .ok (.tuple #[.int .u64 x, .agg #[.int .i64 p, .int .i64 b', .int .i64 l]]) w' → wpList Try.prog ops Q rest (a.put o.dst (.tuple #[.bool true, .int .u64 x, .agg #[.int .i64 p, .int .i64 b', .int .i64 l]])) w') :
    wpList Try.prog ops Q (o :: rest) a w :=
  wpList_nextF hg it hop hit h hDone fun x s w' cnt' h1 h2 h3 h4 h5 h6 h7 h8 => hMore x s.1 s.2.1 s.2.2 w' cnt' h1 h2 h3 h4 h5 h6 h7 h8
def Fk (F : Int → Option Ses) (p : Int → Ses → Bool) (left : Int → Bool) : Int → Option Ses := fun x => if left x = true then F x else (F x).filter fun s => !p x s
def delF (F : Int → Option Ses) (p : Int → Ses → Bool) : Int → Option Ses := fun x => (F x).filter fun s => !p x s
theorem Fk_start (F : Int → Option Ses) (p : Int → Ses → Bool) (x : Int) : F x = Fk F p (fun x => (F x).isSome) x := by
  unfold Fk
  show F x = if (F x).isSome = true then F x else (F x).filter fun s => !p x s
  cases h : F x with
  | none => rfl
  | some s => rfl
theorem Fk_left {F : Int → Option Ses} {p : Int → Ses → Bool} {left : Int → Bool} {x : Int} {s : Ses} (hl : left x = true) (h : Fk F p left x = some s) : F x = some s := by
  unfold Fk at h
  rwa [if_pos hl] at h
theorem Fk_stays {F : Int → Option Ses} {p : Int → Ses → Bool} {left : Int → Bool} {x : Int} {s : Ses} (hs : F x = some s) (hp : p x s = false) (y : Int) : Fk F p left y = Fk F p (fun y => left y && !decide (y = x)) y := by
  unfold Fk
  by_cases e : y = x
  · subst e
    simp [hs, hp, Option.filter]
  · simp [e]
theorem Fk_struck {F : Int → Option Ses} {p : Int → Ses → Bool} {left : Int → Bool} {x : Int} {s : Ses} (hs : F x = some s) (hp : p x s = true) (y : Int) : era (Fk F p left) x y = Fk F p (fun y => left y && !decide (y = x)) y := by
  unfold era Fk
  by_cases e : y = x
  · subst e
    simp [hs, hp, Option.filter]
  · simp [e]
theorem twice (left : Int → Bool) (x z : Int) : ((left z && !decide (z = x)) && !decide (z = x)) = (left z && !decide (z = x)) := by cases left z <;> cases decide (z = x) <;> rfl
set_option maxHeartbeats 2000000 in
set_option maxRecDepth 100000 in
theorem delf_calls (w : World) (bt bn : Nat) (mb n : Nat) (F : Int → Option Ses) (p : Int → Ses → Bool) (hm : MapF krU erS w mb n F)
    (hdel : ∀ (W : World) (x p' b l : Int), w.grownBy W (some mb) → (Lit.int .u64 x).wf = true → F x = some (p', b, l) → Calls Try.prog 19 #[.int .u64 x, .agg #[.int .i64 p', .int .i64 b, .int .i64 l], .pointer (some ⟨bt, 0, none⟩), .pointer (some ⟨bn, 0, none⟩)] W fun e w' => e = .returned (.bool (p x (p', b, l))) ∧ Below W.heap.size W w') :
    Calls Try.prog 18 #[.map (some mb), .func (.func 19) #[] #[.pointer (some ⟨bt, 0, none⟩), .pointer (some ⟨bn, 0, none⟩)]] w fun e w' => e = .returned (.tuple #[]) ∧ MapF krU erS w' mb n (delF F p) ∧ w.grownBy w' (some mb) := by
  have HD := Lib.hid hdel
  have HM := Lib.hid hm
  clear hdel hm
  go_enter Try.func18, Try.ntmps18
  go_wp2_with (first
    | (at_range; refine wpList_rangeF rfl _ rfl Try.underlying52 rfl HM.out ?_; intro w0 c0 hrg0 hg0 hs0)
    | go_in)
  go_frame
  go_loopw [8] (fun _ wr => ∃ (left : Int → Bool) (cnt : Nat), RangeF krU erS wr mb w.heap.size n (Fk F p left) left cnt ∧ w.grownBy wr (some mb)) (fun _ wr => wr.rangeLeft mb w.heap.size)
  case atStart => exact ⟨_, _, hrg0.congr (Fk_start F p) (fun _ => rfl), hg0.but _⟩
  case round =>
    obtain ⟨left, cnt, hrg, hgw⟩ := hrel
    go_wp2_with (first
      | (at_next; refine wpList_nextS rfl _ rfl rfl hrg ?_ ?_)
      | go_in)
    · intro hl0
      go_wp2
      go_end0
      exact ⟨rfl, hrg.owns.congr fun x => by
        unfold Fk delF
        by_cases hx : (Lit.int .u64 x).wf = true
        · rw [if_neg (by rw [hl0 x hx]; simp)]
        · cases hF : F x with
          | none => simp
          | some s => exact absurd (HM.out.ok hF) hx, hgw⟩
    · intro x p' b l w1 cnt1 hx hlx hs hrg1 hlt hg1 hs1 hen
      have hsF := Fk_left hlx hs
      have hgw1 := hgw.andThen hg1 (fun j hj => by cases hj; exact Or.inl (Nat.le_refl _))
      have hbl := hrg1.owns.lt
      have hrl := hrg1.lt
      have hb2 := (Below.refl w1.heap.size w1).alloc (Nat.le_refl _) (.cells #[.int .i64 p', .int .i64 b, .int .i64 l] 56)
      have hgw2 := grown_trans hgw1 (below_grown hb2 (some mb))
      have hrg2 := hrg1.kept (below_grown hb2 none) (by simp) (by simp)
      have hc := HD.out _ x p' b l hgw2 hx hsF
      obtain ⟨q, hq⟩ : ∃ q, q = p x (p', b, l) := ⟨_, rfl⟩
      rw [← hq] at hc
      have HC := Lib.hid hc
      have HQ : Hid (p x (p', b, l) = q) := hq.symm
      clear hc hs1 hq
      cases q
      · go_wp2_with fail
        refine HC.out.mono ?_
        rintro e w2 ⟨rfl, hb3⟩
        go_wp2
        have hg3 := below_grown hb3 none
        have hrg3 := hrg2.kept hg3 (by simp) (by simp)
        go_roundw
        case rel => exact ⟨_, cnt1, hrg3.congr (Fk_stays hsF HQ.out) fun _ => rfl, grown_trans hgw2 (below_grown hb3 (some mb))⟩
        case measure => rw [hrg3.left_eq, hrg.left_eq]; exact hlt
      · go_wp2_with fail
        refine HC.out.mono ?_
        rintro e w2 ⟨rfl, hb3⟩
        have hrg3 := hrg2.kept (below_grown hb3 none) (by simp) (by simp)
        go_wp2_with (first
          | (at_delete; refine wpList_delF rfl _ _ rfl Try.underlying52 rfl hrg3 x rfl hx ?_; intro w3 cnt3 hrg4 hle hg4; go_frame)
          | go_in)
        go_roundw
        case rel => exact ⟨_, cnt3, hrg4.congr (Fk_struck hsF HQ.out) (twice left x), grown_trans (grown_trans hgw2 (below_grown hb3 (some mb))) hg4⟩
        case measure => rw [hrg4.left_eq, hrg.left_eq]; omega
end Go.Proofs.Ytddpnldgfdooiaa

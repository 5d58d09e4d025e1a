import Derived.RunT
import Derived.Calls
import Derived.Listen
import Derived.Eval
/-! No step of the machine lowers the tape's place. -/
namespace Go.Mono
open Go

def rd {α : Type} : Result α → Nat
  | .ok _ w => w.drawn
  | .halt _ w => w.drawn

theorem ask_ge {α : Type} : ∀ (a : Ask α) (w : World), w.drawn ≤ (w.ask a).2.drawn
  | .done _, _ => Nat.le_refl _
  | .ask what range k, w => by
    unfold World.ask; dsimp only; split
    · exact ask_ge (k 0) w
    · exact Nat.le_trans (Nat.le_succ _) (ask_ge (k _) { w with drawn := w.drawn + 1 })

theorem sys_ge (w : World) (c : Sys) : w.drawn ≤ (w.sys c).2.drawn := by
  unfold World.sys
  have h := ask_ge (Kernel.perform c w.os) w
  revert h
  generalize w.ask (Kernel.perform c w.os) = x
  obtain ⟨⟨r, os⟩, w'⟩ := x
  intro h
  split
  · exact Nat.le_refl _
  · rename_i heq; cases heq; exact h

theorem view_ge {p : Program} {w w' : World} {a k : Addr} {u : TypeId} {v : Value} {b : Bool} {l : List Addr} (h : w.viewStore p a u k v b = .ok (w', l)) : w'.drawn = w.drawn := by
  unfold World.viewStore at h
  simp only [bind, Except.bind, pure, Except.pure, throw, throwThe, MonadExceptOf.throw] at h
  repeat' (split at h)
  all_goals first | (cases h; rfl) | (cases h; done) | skip
  all_goals (try (injection h with h; cases h; rfl))

theorem far_ge {p : Program} {w w' : World} {a : Addr} {v : Value} {b : Bool} {l : List Addr} (h : w.farStore p a v b = .ok (w', l)) : w'.drawn = w.drawn := by
  unfold World.farStore at h
  split at h
  · split at h
    · rename_i hv; cases h; exact view_ge hv
    · cases h
  · cases h

theorem run_ge {α : Type} (p : Program) (e : Sem α) : ∀ w : World, w.drawn ≤ rd (e.run p w) := by
  induction e with
  | pure a => intro w; exact Nat.le_refl _
  | load m a k ih =>
    intro w; unfold Sem.run; split
    · exact ih _ w
    · split
      · exact ih _ w
      · exact Nat.le_refl _
  | store m a v k ih =>
    intro w
    cases v <;> first
      | exact Nat.le_refl _
      | (unfold Sem.run
         split
         · split
           · exact Nat.le_refl _
           · exact ih (w.setCell a _)
         · split
           · rename_i hf; exact Nat.le_trans (Nat.le_of_eq (far_ge hf).symm) (ih _)
           · exact Nat.le_refl _)
  | new o k ih => intro w; exact ih _ { w with heap := w.heap.push o }
  | shape r k ih => intro w; exact ih _ w
  | freeze a n k ih =>
    intro w
    refine Nat.le_trans (Nat.le_of_eq ?_) (ih (w.freeze a n))
    unfold World.freeze; split <;> rfl
  | frozen a k ih => intro w; exact ih _ w
  | getObj r k ih =>
    intro w; unfold Sem.run; split
    · exact Nat.le_refl _
    · exact ih _ w
    · exact Nat.le_refl _
  | setObj r o k ih =>
    intro w; unfold Sem.run; split
    · exact Nat.le_refl _
    · exact ih { w with heap := w.heap.setIfInBounds r o }
    · exact Nat.le_refl _
  | choose q k ih =>
    intro w; unfold Sem.run; split
    · exact ih _ w
    · exact Nat.le_trans (Nat.le_succ _) (ih _ { w with drawn := w.drawn + 1 })
  | sys c k ih => intro w; exact Nat.le_trans (sys_ge w c) (ih _ _)
  | program k ih => intro w; exact ih _ w
  | mark m k ih => intro w; exact ih w
  | halt h => intro w; exact Nat.le_refl _

theorem runT_ge {α : Type} (p : Program) (e : Sem α) (w : World) (es : Array Event) : w.drawn ≤ rd (e.runT p w es).1 := by
  rw [Sem.runT_fst]; exact run_ge p e w

def ge (d : Nat) : GStep → Prop
  | .go _ w _ => d ≤ w.drawn
  | .comm _ _ _ _ w _ => d ≤ w.drawn
  | .spawn _ _ w _ => d ≤ w.drawn
  | .count _ w _ => d ≤ w.drawn
  | .timer _ _ w _ => d ≤ w.drawn
  | .alone _ _ w _ => d ≤ w.drawn
  | .newcoro _ _ _ w _ => d ≤ w.drawn
  | .coroswitch _ _ _ w _ => d ≤ w.drawn
  | .collect _ w _ => d ≤ w.drawn
  | .watch _ w _ => d ≤ w.drawn
  | .ended _ _ _ => True

theorem after_ge {d : Nat} {es : Array Event} {s : GStep} (h : ge d s) : ge d (s.after es) := by
  cases s <;> exact h

theorem ite_ge {d : Nat} {c : Prop} [Decidable c] {a b : GStep} (ha : ge d a) (hb : ge d b) : ge d (if c then a else b) := by
  split
  · exact ha
  · exact hb

theorem endThrow_ge {d : Nat} {fr : Frame} {m : String} {w : World} (h : d ≤ w.drawn) : ge d (endThrow fr m w) := h

theorem endPrinting_ge {d : Nat} {p : Program} {fr : Frame} {v : Value} {w : World} (h : d ≤ w.drawn) : ge d (endPrinting p fr v w) := by
  unfold endPrinting; dsimp only; split <;> first | exact h | trivial

theorem endWith_ge {d : Nat} {w : World} {fd : Nat} {t : ByteArray} {o : Outcome} : ge d (endWith w fd t o) := by
  unfold endWith; dsimp only; repeat' split
  all_goals trivial

theorem endFatal_ge {d : Nat} {p : Program} {fr : Frame} {cs : List Frame} {dy : Option Dying} {m : String} {w : World} (h : d ≤ w.drawn) : ge d (endFatal p fr cs dy m w) := by
  unfold endFatal; dsimp only
  generalize hx : (Sem.run p _ w) = x
  have hr : d ≤ rd x := by rw [← hx]; exact Nat.le_trans h (run_ge p _ w)
  split <;> first | exact hr | trivial

theorem writeOn_ge {d : Nat} {p : Program} {fr : Frame} {dy : Dying} {f : Fatal} {w : World} (h : d ≤ w.drawn) : ge d (writeOn p fr dy f w) := by
  unfold writeOn; dsimp only
  split
  · trivial
  · generalize hx : (Sem.runT p _ w #[]) = x
    have hr : d ≤ rd x.1 := by rw [← hx]; exact Nat.le_trans h (runT_ge p _ w _)
    clear hx
    obtain ⟨x, es⟩ := x
    dsimp only at hr
    split
    · rename_i heq; cases heq; exact hr
    · rename_i heq; cases heq; exact hr
    · trivial
    · trivial

theorem die_ge {d : Nat} {p : Program} {fr : Frame} {dy : Dying} {w : World} (h : d ≤ w.drawn) : ge d (die p fr dy w) := by
  unfold die; dsimp only
  split
  · exact writeOn_ge h
  · split
    · split
      · exact h
      · exact endWith_ge
    · split
      · exact h
      · generalize hx : (Sem.run p _ w) = x
        have hr : d ≤ rd x := by rw [← hx]; exact Nat.le_trans h (run_ge p _ w)
        split <;> first | exact hr | trivial
      · generalize hx : (Sem.runT p _ w #[]).1 = x
        have hr : d ≤ rd x := by rw [← hx]; exact Nat.le_trans h (runT_ge p _ w _)
        apply after_ge
        split <;> first | exact hr | trivial | exact endPrinting_ge hr
      · trivial

theorem doReturn_ge {d : Nat} {p : Program} {main : Bool} {fr : Frame} {cs : List Frame} {dy : Option Dying} {v : Value} {w : World} (h : d ≤ w.drawn) : ge d (doReturn p main fr cs dy v w) := by
  unfold doReturn; dsimp only
  repeat' split
  all_goals first | exact h | trivial

theorem callDeferred_ge {d : Nat} {p : Program} {fr : Frame} {cs : List Frame} {dy : Option Dying} {df : Deferred} {w : World} (h : d ≤ w.drawn) : ge d (callDeferred p fr cs dy df w) := by
  unfold callDeferred; dsimp only
  refine ite_ge ?_ ?_
  · trivial
  · generalize hx : (Sem.runT p _ w #[]).1 = x
    have hr : d ≤ rd x := by rw [← hx]; exact Nat.le_trans h (runT_ge p _ w _)
    apply after_ge
    repeat' split
    all_goals first | exact hr | trivial | exact endFatal_ge hr | exact endThrow_ge hr

theorem unwind_ge {d : Nat} {p : Program} {main : Bool} {fr : Frame} {cs : List Frame} {dy : Option Dying} {w : World} (h : d ≤ w.drawn) : ge d (unwind p main fr cs dy w) := by
  unfold unwind; dsimp only
  split
  · generalize hx : (Sem.runT p _ w #[]).1 = x
    have hr : d ≤ rd x := by rw [← hx]; exact Nat.le_trans h (runT_ge p _ w _)
    apply after_ge
    split <;> first | exact hr | trivial
  · exact callDeferred_ge h
  · split
    · trivial
    · split
      · trivial
      · split
        · exact h
        · split
          · split
            · exact h
            · generalize hx : (Sem.run p _ w) = x
              have hr : d ≤ rd x := by rw [← hx]; exact Nat.le_trans h (run_ge p _ w)
              split <;> first | exact hr | trivial
          · split
            · exact endPrinting_ge h
            · trivial
    · split
      · exact doReturn_ge h
      · generalize hx : (Sem.runT p _ w #[]).1 = x
        have hr : d ≤ rd x := by rw [← hx]; exact Nat.le_trans h (runT_ge p _ w _)
        apply after_ge
        split <;> first | exact doReturn_ge hr | trivial

theorem early_ge {d : Nat} {p : Program} {fr : Frame} {cs : List Frame} {dy : Option Dying} {g : Nat} {w : World} (h : d ≤ w.drawn) : ge d (early p fr cs dy g w) := by
  unfold early; dsimp only
  generalize hx : (Sem.run p (choose (.early g)) w) = x
  have hr : d ≤ rd x := by rw [← hx]; exact Nat.le_trans h (run_ge p _ w)
  clear hx
  cases x with
  | ok a w' =>
    have hr' : d ≤ w'.drawn := hr
    clear hr
    repeat' split
    all_goals first | exact h | trivial | exact hr' | skip
    all_goals (rename (Result.ok a w' = _) => e; cases e; exact hr')
  | halt a w' =>
    have hr' : d ≤ w'.drawn := hr
    repeat' split
    all_goals first | exact h | trivial | exact hr' | skip

theorem apply_ge {d : Nat} {p : Program} {l : Bool} {fr : Frame} {cs : List Frame} {dy : Option Dying} {s : Sem Next} {w : World} (h : d ≤ w.drawn) : ge d (stepG.apply p l fr cs dy s w) := by
  unfold stepG.apply; dsimp only
  have key : d ≤ rd (if l = true then s.runT p w #[] else (s.run p w, #[])).1 := by
    split
    · exact Nat.le_trans h (runT_ge p s w _)
    · exact Nat.le_trans h (run_ge p s w)
  revert key
  generalize (if l = true then s.runT p w #[] else (s.run p w, #[])) = x
  obtain ⟨x, es⟩ := x
  intro key
  dsimp only at key ⊢
  apply after_ge
  cases x with
  | ok n w' =>
    have hr : d ≤ w'.drawn := key
    cases n <;> (try dsimp only) <;> first | exact hr | skip
    all_goals (repeat' split)
    all_goals first | exact hr | exact endThrow_ge hr
  | halt n w' =>
    have hr : d ≤ w'.drawn := key
    cases n <;> (try dsimp only) <;> first | exact hr | trivial | exact endFatal_ge hr | exact endThrow_ge hr | skip
    rename_i u; cases u <;> first | exact early_ge hr | trivial

theorem oper_ge {d : Nat} {p : Program} {l : Bool} {fr : Frame} {cs : List Frame} {dy : Option Dying} {w : World} (h : d ≤ w.drawn) : ge d (stepG.oper p l fr cs dy w) := by
  unfold stepG.oper
  split
  · trivial
  · split <;> exact apply_ge h

theorem exec_ge {d : Nat} {p : Program} {main l : Bool} {fr : Frame} {cs : List Frame} {dy : Option Dying} {w : World} (h : d ≤ w.drawn) : ge d (stepG.exec p main l fr cs dy w) := by
  have leave : ∀ jump : Option Code, ge d (match fr.roundOf with
      | none => if jump matches none | some .ret then GStep.go { frame := { fr with mode := .returning }, callers := cs, status := .running, dying := dy } w else .ended (.stuck "exit, goto: no such block or label" (fr.pos p)) w
      | some l =>
        let (r, es) := (Instr.endRound l jump).runT p w #[]
        GStep.after (seen p fr.fn es) <| match r with
        | .ok v w => doReturn p main fr cs dy v w
        | .halt _ w => .ended (.stuck "range over a function: no such loop" (fr.pos p)) w) := by
    intro jump
    split
    · exact ite_ge h trivial
    · dsimp only
      generalize hx : (Sem.runT p _ w #[]).1 = x
      have hr : d ≤ rd x := by rw [← hx]; exact Nat.le_trans h (runT_ge p _ w _)
      apply after_ge
      split <;> first | exact doReturn_ge hr | trivial
  unfold stepG.exec; dsimp only
  split
  · exact leave none
  · exact leave (some .ret)
  all_goals first | exact h | trivial | exact apply_ge h | skip
  all_goals first
    | (refine ite_ge ?_ ?_ <;> first | exact oper_ge h | exact h)
    | (split <;> first | exact h | trivial)
    | skip
  · unfold Option.elim; split
    · exact h
    · rename_i id _ _; exact leave (some (.exit _))
  · unfold Option.elim; split
    · exact h
    · exact leave (some (.goto _))
  · apply after_ge
    generalize hx : (Sem.runT p _ w #[]).1 = x
    have hr : d ≤ rd x := by rw [← hx]; exact Nat.le_trans h (runT_ge p _ w _)
    split <;> first | exact apply_ge hr | trivial
  · apply after_ge
    generalize hx : (Sem.runT p _ w #[]).1 = x
    have hr : d ≤ rd x := by rw [← hx]; exact Nat.le_trans h (runT_ge p _ w _)
    split <;> first | exact hr | trivial
  · unfold Option.elim; split
    · exact apply_ge h
    · trivial
  · refine ite_ge h ?_
    generalize hx : (Sem.run p _ w) = x
    have hr : d ≤ rd x := by rw [← hx]; exact Nat.le_trans h (run_ge p _ w)
    split <;> first | exact hr | trivial

theorem stepG_ge {d : Nat} {p : Program} {main l : Bool} {g : Goroutine} {w : World} (h : d ≤ w.drawn) : ge d (stepG p main g w l) := by
  unfold stepG; dsimp only
  split
  · exact die_ge h
  · exact exec_ge h
  · exact unwind_ge h

def sg (d : Nat) : Stepped → Prop
  | .next m => d ≤ m.world.drawn
  | .ended _ _ => True

theorem look_ge {d : Nat} {p : Program} {gs : Array Goroutine} {r : Rest} {w : World} (h : d ≤ w.drawn) : sg d (look p gs r w) := by
  unfold look
  split
  · dsimp only
    split
    · trivial
    · split
      · trivial
      · generalize hx : (Sem.run p _ w) = x
        have hr : d ≤ rd x := by rw [← hx]; exact Nat.le_trans h (run_ge p _ w)
        split <;> first | exact hr | trivial
  · trivial

theorem serve_ge {d : Nat} {p : Program} {m : Machine} {k : Nat} (h : d ≤ m.world.drawn) : sg d (serve p m k) := by
  unfold serve
  split
  · trivial
  · exact h
  · dsimp only; split
    · trivial
    · exact h

theorem drain_eq (w : World) (c : Nat) : (drain w c).2.drawn = w.drawn := by
  unfold drain; split <;> rfl

theorem retime_eq (m : Machine) (k : Nat) (t : Timer) (a b : Nat) : (retime m k t a b).2.world.drawn = m.world.drawn := by
  unfold retime; dsimp only; split
  · exact drain_eq _ _
  · rfl

theorem named_eq {m : Machine} {var : Addr} {f : Nat → Timer → Value × Machine} {v : Value} {m' : Machine} {d : Nat} (hf : ∀ k t, (f k t).2.world.drawn = d) (h : timerOp.named m var f = .ok (v, m')) : m'.world.drawn = d := by
  unfold timerOp.named at h
  split at h
  · injection h with h
    have := congrArg (fun x => x.2.world.drawn) h
    simpa [hf] using this.symm
  · cases h

theorem timerOp_eq {m m' : Machine} {op : TimerOp} {v : Value} (h : timerOp m op = .ok (v, m')) : m'.world.drawn = m.world.drawn := by
  unfold timerOp at h
  split at h
  · split at h
    · cases h; rfl
    · split at h
      · split at h
        · cases h
        · cases h; rfl
      · cases h
  · exact named_eq (fun k t => retime_eq m k t _ _) h
  · split at h
    · rename_i m1 hm
      refine (named_eq (fun k t => retime_eq m1 k t _ _) h).trans ?_
      unfold timerOp.opened at hm
      split at hm
      · split at hm
        · cases hm; rfl
        · cases hm
      · cases hm; rfl
    · cases h
  · cases h; rfl

theorem of_ok {d : Nat} {α : Type} {p : Program} {s : Sem α} {a : α} {w w' : World} (hd : d ≤ w.drawn) (h : s.run p w = .ok a w') : d ≤ w'.drawn := by
  have := run_ge p s w
  rw [h] at this
  exact Nat.le_trans hd this

theorem of_halt {d : Nat} {α : Type} {p : Program} {s : Sem α} {a : Halt} {w w' : World} (hd : d ≤ w.drawn) (h : s.run p w = .halt a w') : d ≤ w'.drawn := by
  have := run_ge p s w
  rw [h] at this
  exact Nat.le_trans hd this

theorem communicate_ge {d : Nat} {p : Program} {r : Rest} {gs : Array Goroutine} {i : Nat} {g : Goroutine} {cs : Array CommCase} {b : Bool} {sh : CommShape} {w : World} (h : d ≤ w.drawn) : sg d (communicate p r gs i g cs b sh w).1 := by
  unfold communicate; dsimp only
  split
  · trivial
  · split
    · split
      · split
        · rename_i hw
          unfold waitingAt at hw
          split at hw
          · split at hw
            · cases hw; exact h
            · cases hw
          · cases hw; exact h
        · trivial
      · exact h
    · generalize hx : (Sem.run p _ w) = x
      cases x with
      | halt _ _ => trivial
      | ok t w' =>
        have hr' : d ≤ w'.drawn := of_ok h hx
        clear hx
        obtain ⟨k, c, way⟩ := t
        dsimp only
        repeat' split
        all_goals first | exact hr' | trivial | (rename (Sem.run p (choose (Question.extern _ _)) w' = Result.ok _ _) => e; have hz := of_ok hr' e; exact hz) | exact of_halt (s := runtimePanic _) hr' (by assumption) | skip

theorem ite_sg {d : Nat} {c : Prop} [Decidable c] {a b : Stepped} (ha : sg d a) (hb : sg d b) : sg d (if c then a else b) := by
  split
  · exact ha
  · exact hb

theorem runT_sg {d : Nat} {p : Program} {m : Machine} {i : Nat} {l : Bool} (h : d ≤ m.world.drawn) : sg d (runT p m i l).1 := by
  unfold runT; dsimp only
  generalize hx : (stepG p (i == 0) _ m.world l) = x
  have hr : ge d x := by rw [← hx]; exact stepG_ge h
  clear hx
  cases x with
  | go g w es => exact hr
  | comm g c b s w es => exact communicate_ge hr
  | spawn g c w es => exact hr
  | count g w es => dsimp only; exact ite_sg trivial hr
  | timer g op w es =>
    have hr' : d ≤ w.drawn := hr
    dsimp only
    split
    · rename_i ht; have := timerOp_eq ht; exact Nat.le_trans hr' (Nat.le_of_eq this.symm)
    · exact hr'
    · trivial
    · trivial
  | alone g o w es => exact hr
  | newcoro g c d w es => exact hr
  | coroswitch g c e w es =>
    have hr' : d ≤ w.drawn := hr
    dsimp only
    split
    · exact hr'
    · exact hr'
    · trivial
  | collect g w es => exact look_ge hr
  | watch g w es => exact hr
  | ended o w es => trivial

def mg (d : Nat) : Move → Prop
  | .goroutine m _ => d ≤ m.world.drawn
  | .machine s _ => sg d s

theorem askOn_mg {d : Nat} {p : Program} {m : Machine} (h : d ≤ m.world.drawn) : mg d (askOn p m) := by
  have pick : ∀ m : Machine, d ≤ m.world.drawn → ∀ rs : List Nat, mg d (match (choose (.sched rs.length)).run p m.world with
      | .halt _ w => .machine (.ended (.stuck "sched" "") w)
      | .ok k world =>
        if rs.length ≤ 1 then .goroutine { m with world } (rs.getD k 0) else
        match (choose (.extern "sched.slice" 65536)).run p world with
        | .halt _ w => .machine (.ended (.stuck "sched.slice" "") w)
        | .ok n world => .goroutine { m with world, rest := { m.rest with slice := if n = 0 then none else some (rs.getD k 0, n) } } (rs.getD k 0)) := by
    intro m h rs
    split
    · trivial
    · rename_i hs
      have h1 := of_ok h hs
      split
      · exact h1
      · split
        · trivial
        · rename_i hs'; have h2 := of_ok h1 hs'; exact h2
  unfold askOn; dsimp only
  split
  · trivial
  · rename_i hs
    have h1 := of_ok h hs
    split
    · exact serve_ge h1
    · split
      · split
        · exact h1
        · split
          · exact h1
          · split <;> trivial
      · split
        · exact pick ⟨_, m.gs, m.rest⟩ h1 _
        · split
          · trivial
          · rename_i hs'; have h2 := of_ok h1 hs'; exact pick ⟨_, m.gs, m.rest⟩ h2 _
          · rename_i hs'; have h2 := of_ok h1 hs'; exact h2
          · rename_i hs'; have h2 := of_ok h1 hs'; exact pick _ h2 _

theorem move_mg {d : Nat} {p : Program} {m : Machine} (h : d ≤ m.world.drawn) : mg d (move p m) := by
  have ask' : ∀ m : Machine, d ≤ m.world.drawn → mg d (ask p m) := by
    intro m h
    unfold ask
    split
    · split
      · trivial
      · rename_i hs
        have h1 := of_ok h hs
        split
        · rename_i hl
          have := look_ge (d := d) (p := p) (gs := m.gs) (r := m.rest) h1
          rw [hl] at this
          exact askOn_mg this
        · exact look_ge h1
      · rename_i hs
        have h1 := of_ok h hs
        exact askOn_mg h1
    · exact askOn_mg h
  unfold move
  split
  · split
    · exact h
    · trivial
  · split
    · split
      · exact h
      · exact ask' _ h
    · exact ask' _ h

theorem step_sg {d : Nat} {p : Program} {m : Machine} (h : d ≤ m.world.drawn) : sg d (step p m) := by
  unfold step stepT
  have := move_mg (p := p) h
  split
  · rename_i hm; rw [hm] at this; exact runT_sg this
  · rename_i hm; rw [hm] at this; exact this

theorem runN_sg {d : Nat} {p : Program} : ∀ (n : Nat) (m : Machine), d ≤ m.world.drawn → sg d (runN p n m)
  | 0, _, h => h
  | n + 1, m, h => by
    unfold runN
    have := step_sg (p := p) h
    split
    · rename_i hs; rw [hs] at this; exact runN_sg n _ this
    · exact this

theorem steps_ge {p : Program} {m m' : Machine} (h : Steps p m m') : m.world.drawn ≤ m'.world.drawn := by
  obtain ⟨n, hn⟩ := h
  have := runN_sg (p := p) n m (Nat.le_refl _)
  rw [hn] at this
  exact this

/-- A call never lowers the tape's place. -/
theorem calls_ge {P : Program} {f : FuncId} {args : Array Value} {w : World} {R : Ending → World → Prop} (h : Calls P f args w R) :
    Calls P f args w fun e w' => R e w' ∧ (e ≠ .outgrown → w.drawn ≤ w'.drawn) := by
  intro cs
  obtain ⟨e, w', fr, hR, hc, hf, hl⟩ := h cs
  refine ⟨e, w', fr, ⟨hR, fun ho => ?_⟩, hc, hf, hl⟩
  cases e with
  | outgrown => exact absurd rfl ho
  | returned v => exact steps_ge (m := lone _ cs w) (m' := lone fr cs w') hc
  | panicked v => exact steps_ge (m := lone _ cs w) (m' := lone fr cs w') hc

#print axioms calls_ge
end Go.Mono

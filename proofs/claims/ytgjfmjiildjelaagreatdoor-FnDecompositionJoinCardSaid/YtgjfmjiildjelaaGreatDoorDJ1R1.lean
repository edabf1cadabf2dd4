/-
  A part of a proof of this seat: a value-level semantics of Go code without maps, walks, plain lemmas. It holds of all that its hypotheses name.
-/
import Derived.Test.YtgjfmjiildjelaaGreatDoorDJ1A5
import Derived.WalkKit
import Derived.ProofKit
import Derived.OpenShut
import Derived.JoinedCond
import Derived.Carry
import Derived.HandedShaped
import Derived.Lay
import Derived.LaidMore
import Derived.MakeChecks
import Derived.SevenTiedAt
import Derived.OpenVars
set_option linter.unusedSimpArgs false
set_option linter.unusedVariables false
set_option linter.unnecessarySimpa false
namespace Go.Vs
open Go.RowKit Go.ChangeShapes Go.WideShapes
theorem lq {H : Type} {enc : TypeId × Value -> H} {P : Program} (hl : laidOutB P = true) {W W' : World} (hb : Below W.heap.size W W') :
  ∀ {ts : List TypeId} {vs : List Value} {ds : List (DataW H)} {ps : List MemPlace}, (∀ t ∈ ts, P.readableRec t = true ∧ t < P.types.size) →
    DataW.TrodAll enc P W 0 (fun _=>true) true ts vs ds ps -> (∀ x ∈ ps,x.block < W.heap.size) -> DataW.TrodAll enc P W' 0 (fun b=>decide (b < W.heap.size)) true ts vs ds ps
 | [], _, _, _, _, h, _ => by
   obtain ⟨rfl,rfl,rfl⟩:=trodAll_nil h
   exact rfl
 | t :: ts, _, _, _, ht, h, hp => by
   obtain ⟨v,vs1,d,ds1,a,b,rfl,rfl,rfl,h1,h2⟩:=trodAll_cons h
   exact ⟨a,b,Below.trod hl (ht t (by simp)).1 (ht t (by simp)).2 h1 hb (fun x hx=>hp x (by simp [hx])),lq hl hb (fun t h=>ht t (by simp [h])) h2 (fun x hx=>hp x (by simp [hx])),rfl⟩
theorem j7 {H : Type} {enc : TypeId × Value -> H} {P : Program} {W : World} {sp : Nat -> Bool} {b : Nat} {hd : Bool} :
  ∀ {ts : List TypeId} {vs : List Value} {ds : List (DataW H)} {ps : List MemPlace},DataW.TrodAll enc P W b sp hd ts vs ds ps -> ds.length = ts.length
 | [], _, _, _, h => by
   obtain ⟨rfl,rfl,rfl⟩:=trodAll_nil h
   rfl
 | t :: ts, _, _, _, h => by
   obtain ⟨v,vs1,d,ds1,a,b,rfl,rfl,rfl,h1,h2⟩:=trodAll_cons h
   simp [j7 h2]
def CR (S : Nat -> Prop) (w : World) (ds : List D) (cs : List Value) : Prop:=ds.length = cs.length /\ ∀ (j : Nat) (u : D),ds[j]? = some u -> ∃ v,cs[j]? = some v /\ DR S w u v
def lX (P : Program) (t : TypeId) {α : Type} (c : α -> List D) (ok : α -> Prop) : Prop:=
 ∀ (H : Type) (enc : TypeId × Value → H) (W : World) (fuel : Nat) (cs : List Value) (x : DataW H × List MemPlace), DataW.trod enc P W 0 (fun _ => true) true fuel t cs = some x → 0 < W.heap.size →
   ∃ a,ok a /\ CR (fun g=>g < W.heap.size) W (c a) cs
theorem CR.one {S : Nat -> Prop} {w : World} {u : D} {v : Value} (h : DR S w u v) : CR S w [u] [v]:=
 ⟨rfl,fun j x hx=>by
  cases j with
  | zero=>simp at hx; subst hx; exact ⟨v,rfl,h⟩
  | succ j=>simp at hx⟩
theorem lX.map {P : Program} {t : TypeId} {α β : Type} {c : α -> List D} {ok : α -> Prop} {c' : β -> List D} {ok' : β -> Prop} (h : lX P t c ok) (g : α -> β) (hc : ∀ a,c' (g a) = c a) (hk : ∀ a,ok a -> ok' (g a)) : lX P t c' ok':=
 fun H enc W fuel cs x hx h0=>let ⟨a,h1,h2⟩:=h H enc W fuel cs x hx h0; ⟨g a,hk a h1,by rw [hc]; exact h2⟩
theorem zM {P : Program} {t : TypeId} {k : IntKind} (ht : P.underlying t = some (.int k)) : lX P t (fun n : Int=>[.int k n]) (fun n=>(Lit.int k n).wf = true):=by
 intro H enc W fuel cs x h h0
 cases fuel with
 | zero=>simp [DataW.trod] at h
 | succ n =>
   unfold DataW.trod at h
   split at h <;> simp_all
   obtain ⟨⟨rfl,hw⟩,rfl⟩:=h
   exact ⟨_,hw,CR.one (DR.int _ _)⟩
theorem qN {w : World} {a : Addr} {n : Nat} {cs : List Value} (h : w.cells? 0 a n = some cs) : cs.length = n /\ ∀ j,j < n -> ∃ v,cs[j]? = some v /\ w.cell? (a.add j) = some v:=by
 simp only [World.cells?,Nat.zero_le,if_true] at h
 suffices ∀ (l : List Nat) (cs : List Value),l.mapM (fun i=>w.cell? (a.add i)) = some cs -> cs.length = l.length /\ ∀ (j i : Nat),l[j]? = some i -> ∃ v,cs[j]? = some v /\ w.cell? (a.add i) = some v by
  obtain ⟨h1,h2⟩:=this _ _ h
  refine ⟨by simpa using h1,fun j hj=>h2 j j (by simp [hj])⟩
 intro l
 induction l with
 | nil=>intro cs h; simp at h; subst h; simp
 | cons i l ih =>
   intro cs h
   rw [List.mapM_cons] at h
   cases hf : w.cell? (a.add i) with
   | none=>simp [hf] at h
   | some y =>
     cases hm : l.mapM (fun i=>w.cell? (a.add i)) with
     | none=>simp [hf,hm] at h
     | some zs =>
       simp [hf,hm] at h
       subst h
       obtain ⟨h1,h2⟩:=ih _ hm
       refine ⟨by simp [h1],fun j k hk=>?_⟩
       cases j with
       | zero=>simp at hk; subst hk; exact ⟨y,rfl,hf⟩
       | succ j=>simp at hk; simpa using h2 j k hk
theorem Ea {w : World} {a : Addr} {v : Value} (h : w.cell? a = some v) : a.block < w.heap.size:=by
 simp only [World.cell?] at h
 cases hg : w.heap[a.block]? with
 | none=>simp [hg] at h
 | some o=>exact (Qh.1 hg).1
theorem xL {sz i j : Nat} (hs : 0 < sz) (hj : j < sz) : (i * sz + j) / sz = i:=by
 rw [Nat.add_comm,Nat.add_mul_div_right _ _ hs,Nat.div_eq_of_lt hj,Nat.zero_add]
theorem xM {sz i j : Nat} (hj : j < sz) : (i * sz + j) % sz = j:=by
 rw [Nat.add_comm,Nat.add_mul_mod_self_right,Nat.mod_eq_of_lt hj]
theorem uF {P : Program} {t e : TypeId} {α : Type} [Inhabited α] {c : α -> List D} {ok : α -> Prop} {sz : Nat} (ht : P.underlying t = some (.slice e)) (hc : P.cellsOf e = sz) (hsz : 0 < sz) (hl : ∀ a,(c a).length = sz) (he : lX P e c ok) (hnp : ∀ a,hpL (c a) = false:=by intro a; first | rfl | simp) :
  lX P t (fun s : Sl α=>[dSl c s]) (fun s=>s.T = none /\ s.xs.length <= maxLen /\ ∀ a ∈ s.xs,ok a):=by
 intro H enc W fuel cs x h h0
 rcases DataW.trod_slice ht h with ⟨rfl,rfl⟩ | ⟨a,len,cap,elems,rest,n,rfl,rfl,rfl,_,hlc,hcm,hel,hat,hre,_⟩
 ·exact ⟨⟨none,none,[]⟩,by simp,CR.one (DR.nil _)⟩
 ·rw [hc] at hat hre
  have hblk : 0 < cap -> a.block < W.heap.size:=by
   intro hcap
   have key : ∀ (k : Nat) (y : DataW H × List MemPlace),(W.cells? 0 (a.add (k * sz)) sz).bind (DataW.trod enc P W 0 (fun _=>true) true n e) = some y -> a.block < W.heap.size:=by
    intro k y hy
    cases hcs : W.cells? 0 (a.add (k * sz)) sz with
    | none=>simp [hcs] at hy
    | some cs =>
      obtain ⟨v,_,hv⟩:=(qN hcs).2 0 hsz
      have:=Ea hv
      rwa [ct,ct] at this
   by_cases hl0 : 0 < len
   ·have h1:=hat 0 hl0
    rw [Jw (by omega)] at h1
    exact key 0 _ h1
   ·obtain ⟨hrl,hr⟩:=hre rfl
    have h1:=hr 0 (by omega)
    rw [Jw (by omega)] at h1
    exact key _ _ h1
  have hex : ∀ i,∃ (y : α × (Nat -> Value)),i < len -> ok y.1 /\ ∀ (j : Nat) (u : D),(c y.1)[j]? = some u -> W.cell? (a.add (i * sz + j)) = some (y.2 j) /\ DR (fun g=>g < W.heap.size) W u (y.2 j):=by
   intro i
   by_cases hi : i < len
   ·have h1:=hat i hi
    rw [Jw (by omega)] at h1
    cases hcs : W.cells? 0 (a.add (i * sz)) sz with
    | none=>simp [hcs] at h1
    | some cs =>
      simp only [hcs,Option.bind_some] at h1
      obtain ⟨b,hb,hlen,hd⟩:=he H enc W n cs _ h1 h0
      obtain ⟨hcl,hcg⟩:=qN hcs
      refine ⟨⟨b,fun j=>cs.getD j undef⟩,fun _=>⟨hb,fun j u hu=>?_⟩⟩
      obtain ⟨v,hv,hdr⟩:=hd j u hu
      have hj : j < sz:=by have:=(Qx.1 hv).1; omega
      obtain ⟨v',hv',hcell⟩:=hcg j hj
      rw [hv] at hv'
      cases hv'
      rw [iK] at hcell
      simp only [List.getD_eq_getElem?_getD,hv,Option.getD_some]
      exact ⟨hcell,hdr⟩
   ·exact ⟨⟨default,fun _=>undef⟩,fun h=>absurd h hi⟩
  obtain ⟨f,hf⟩:=Classical.axiomOfChoice hex
  let xs : List α:=(List.range len).map fun i=>(f i).1
  have hxl : xs.length = len:=by simp [xs]
  have hxg : ∀ (i : Nat) (es : List D),(xs.map c)[i]? = some es -> i < len /\ es = c (f i).1:=by
   intro i es he
   simp only [xs,List.map_map,List.getElem?_map] at he
   cases hr : (List.range len)[i]? with
   | none=>simp [hr] at he
   | some k =>
     have hi : i < len:=by have:=(Qx.1 hr).1; simpa using this
     rw [List.getElem?_range hi] at hr
     cases hr
     simp [List.getElem?_range hi] at he
     exact ⟨hi,he.symm⟩
  refine ⟨⟨some (if 0 < cap then a.block else 0),none,xs⟩,⟨rfl,by simp only [hxl]; omega,?_⟩,CR.one ?_⟩
  ·intro b hb
   simp only [xs,Xz,Zg] at hb
   obtain ⟨i,hi,rfl⟩:=hb
   exact (hf i hi).1
  ·have hlen : (xs.map c).length = len:=by simp [hxl]
   have hSg : (if 0 < cap then a.block else 0) < W.heap.size:=by
    by_cases h1 : 0 < cap
    ·rw [if_pos h1]; exact hblk h1
    ·rw [if_neg h1]; exact h0
   have:=DR.sl (S:=fun g=>g < W.heap.size) (w:=W) (if 0 < cap then a.block else 0) none (xs.map c) a cap sz (fun n=>(f (n / sz)).2 (n % sz)) hSg (fun h1=>by rw [if_pos h1]) (by rw [hlen]; exact hlc) hcm
    (fun i es he=>by obtain ⟨_,rfl⟩:=hxg i es he; exact hl _)
    (fun i es he j u hu=>by
     obtain ⟨hi,rfl⟩:=hxg i es he
     have hj : j < sz:=by have:=(Qx.1 hu).1; rwa [hl] at this
     obtain ⟨h1,h2⟩:=(hf i hi).2 j u hu
     rw [xL hsz hj,xM hj]; exact h1)
    (fun i es he j u hu=>by
     obtain ⟨hi,rfl⟩:=hxg i es he
     have hj : j < sz:=by have:=(Qx.1 hu).1; rwa [hl] at this
     obtain ⟨h1,h2⟩:=(hf i hi).2 j u hu
     rw [xL hsz hj,xM hj]; exact h2)
    (fun t ht=>by cases ht) (dg hnp _)
   rw [hlen] at this
   exact this
theorem D2 {H : Type} {enc : TypeId × Value -> H} {P : Program} {W : World} {t : TypeId} {v : Value} {d : DataW H} {p : List MemPlace} {α : Type} {f : α -> D} {ok : α -> Prop} (ho : lX P t (fun a=>[f a]) ok)
  (hv : v.cells = #[v]) (h : DataW.Trod enc P W 0 (fun _=>true) true t v d p) (h0 : 0 < W.heap.size) : ∃ a,ok a /\ VR (fun _=>none) (fun _=>none) (fun g=>g < W.heap.size) W (.d (f a)) v:=by
 obtain ⟨fuel,hf⟩:=h
 rw [hv] at hf
 obtain ⟨a,ha,hl,hg⟩:=ho H enc W fuel _ _ hf h0
 obtain ⟨v',hv',hdr⟩:=hg 0 _ rfl
 simp at hv'
 subst hv'
 exact ⟨a,ha,by simpa only [VR] using hdr⟩
theorem yN {H : Type} {enc : TypeId × Value -> H} {P : Program} {W : World} {r : Reach} {base : Nat} {t e : TypeId} {v : Value} {d : DataW H} {p : List MemPlace} {α : Type} {f : α -> D} {ok : α -> Prop} (ho : lX P t (fun a=>[f a]) ok) (ht : P.underlying t = some (.slice e))
  (hval : Value.okWide P W r base t v) (h : DataW.Trod enc P W 0 (fun _=>true) true t v d p) (h0 : 0 < W.heap.size) : ∃ a,ok a /\ VR (fun _=>none) (fun _=>none) (fun g=>g < W.heap.size) W (.d (f a)) v:=by
 refine D2 ho ?_ h h0
 simp only [Value.okWide,ht,Cell.okWide,Cell.ok] at hval
 cases v <;> simp_all [Value.cells]
def fsOf (P : Program) (t : TypeId) : Array Field:=match P.underlying t with
 | some (.struct fs)=>fs
 | _=>#[]
theorem uE {P : Program} {W : World} {n : String} {g : Nat} {t : TypeId} (hg : P.globalNamed n = some g) (ht : (P.globals[g]?).map (·.type) = some t) (hu : P.underlying t = some (.struct (fsOf P t))) (hs : (fsOf P t).size = 2) (hct : P.cellsOf t = 2)
  (h0 : ((fsOf P t)[0]?).map (fun f=>(f.offset,P.underlying f.type,P.cellsOf f.type)) = some (0,some (.int .i64),1))
  (h1 : ((fsOf P t)[1]?).map (fun f=>(f.offset,P.underlying f.type,P.cellsOf f.type)) = some (1,some (.int .i64),1))
  (h : laidMet P [(n,.agg [.lit (.int .i64 1),.lit (.int .i64 1)])] W) : ∃ T f,W.heap[g]? = some (.cells #[.int .i64 1,.int .i64 1] T f):=by
 obtain ⟨ps,⟨g',t',cs,fuel,p,q,hg',ht',hv,hd,_,_⟩,_,_⟩:=h
 obtain rfl:=Option.some.inj (hg.symm.trans hg')
 obtain rfl:=Option.some.inj (ht.symm.trans ht')
 obtain ⟨xs,m,_,ex,hlen,hl,hel⟩:=DataW.trod_struct hu hd
 rw [hct] at hlen
 cases hf0 : (fsOf P t)[0]? with
 | none=>rw [hf0] at h0; cases h0
 | some f0 =>
   cases hf1 : (fsOf P t)[1]? with
   | none=>rw [hf1] at h1; cases h1
   | some f1 =>
     rw [hf0] at h0
     rw [hf1] at h1
     simp only [Jg,Jx,Prod.mk.injEq] at h0 h1
     obtain ⟨o0,u0,c0⟩:=h0
     obtain ⟨o1,u1,c1⟩:=h1
     have k0:=hel 0 f0 hf0
     have k1:=hel 1 f1 hf1
     rw [o0,c0] at k0
     rw [o1,c1] at k1
     rw [hs] at hl
     obtain ⟨l⟩:=cs
     match l,hlen with
     | [a, b], _ =>
       match xs,hl with
       | [x0, x1], _ =>
         have e3:=DataW.agg.inj (Prod.mk.inj ex).1
         simp only [Qz,List.map_nil,List.cons.injEq,and_true] at e3
         simp only [List.getElem?_cons_zero,List.getElem?_cons_succ] at k0 k1
         obtain ⟨z0,a0,b0,_⟩:=DataW.trod_int u0 k0
         obtain ⟨z1,a1,b1,_⟩:=DataW.trod_int u1 k1
         simp at a0 a1
         rw [b0,b1] at e3
         simp only [DataW.lit.injEq,Lit.int.injEq,true_and] at e3
         obtain ⟨e4,e5⟩:=e3
         subst e4 e5 a0 a1
         unfold World.var? at hv
         rw [hg] at hv
         simp only [Option.bind_some] at hv
         split at hv
         ·rename_i cs' T f hh
          cases hv
          exact ⟨T,f,hh⟩
         ·cases hv
theorem Et {P : Program} {W : World} {g : Nat} (hgd : gdat P = [(g,[1,1])]) (h : ∃ T f,W.heap[g]? = some (.cells #[.int .i64 1,.int .i64 1] T f)) : GlobIn (gdat P) (fun _=>False) W:=by
 intro p hp
 rw [hgd,Qg] at hp
 subst hp
 exact ⟨fun h=>h,h⟩
theorem E7 {H : Type} {enc : TypeId × Value -> H} {P : Program} {f : FuncId} {fn : Func} {s : ChangeSpec} {W : World} {args : Array Value} {ds gs : List (DataW H)} {before : List MemPlace} {b : TypeId} {n : String}
  (hl : laidOutB P = true) (hr : ∀ t ∈ fn.params.toList,P.readableRec t = true /\ t < P.types.size) (hv : s.vars = [n]) (hvr' : varsRowed P s.vars = true) (hfn : ∀ (ds : List (DataW H)) (g : DataW H),ds.length = fn.params.toList.length -> s.fn H (ds ++ [g]) = ⟨[.lit (.bool true)],ds,[g]⟩)
  (hrt : fn.resultTypes = #[b]) (hb : P.underlying b = some .bool)
  (hW : DataW.Whole enc P fn.params.toList s.vars false W args.toList ds gs before) (hgl : GlobIn (gdat P) (fun _=>False) W) (As : List V) (hLR : LR (fun _=>none) (fun _=>none) (fun g=>g < W.heap.size) W As args.toList)
  (hVC : VC P f As (fun _ r=>r = .d (.bool true))) :
  Calls P f args W fun e W'=>∃ v,e = .returned v /\ s.post enc P fn false true false false W args v W':=by
 have hW':=hW
 have hlt:=hW.lt
 obtain ⟨p,q,hA,hV,rfl,hfr,hnd⟩:=hW
 have hV0:=hV
 rw [hv] at hV
 have hg1 : ∃ g1,gs = [g1]:=by
  match gs,hV with
  | [g1],_=>exact ⟨g1,rfl⟩
  | g1 :: g2 :: r,⟨_,_,_,_,_,_,_,_,_,_,h,_⟩=>exact h.elim
 obtain ⟨g1,rfl⟩:=hg1
 have hc:=hVC.2 W args.toList (fun _=>True) hgl (LR.mono (fun g hg=>⟨hg,trivial⟩) (fun _ _=>rfl) (fun k=>KC.refl k) _ _ hLR)
 rw [show args.toList.toArray = args by simp] at hc
 refine hc.mono ?_
 rintro e W' ⟨v,r,rfl,hbel,hvr,_,rfl⟩
 have : v = .bool true:=by
  simp only [VR] at hvr
  cases hvr
  rfl
 subst this
 have hdl:=j7 hA
 refine ⟨_,rfl,ds,[g1],p ++ q,[],p,q,hW',?_,?_,?_,hbel.frame _,fun h=>by cases h⟩
 ·rw [hfn _ _ hdl,hrt]
  exact trodAll_cons_mk (shut_bool hb _) trodAll_mk0
 ·rw [hfn _ _ hdl]
  exact lq hl hbel hr hA (fun x hx=>hlt x (List.mem_append_left _ hx))
 ·rw [hfn _ _ hdl]
  exact hbel.trodVars hl hvr' hV0
end Go.Vs

/- A part of the proof: nothing is stated here for its own sake. -/
import Derived.Test.YtbploiccompocaaGreatDoorPiA
import Derived.Laws.StructEq
import Derived.Deep.AppendSrc
import Derived.Laws.BytesString
import Derived.Laws.Cover3
section
namespace Go.X
open Go
inductive Tr where
 | mk (kind:Int) (text:ByteArray) (keys:List ByteArray) (items:List Tr)
namespace Tr
@[reducible] def kind:Tr→Int | mk k _ _ _=>k
@[reducible] def text:Tr→ByteArray | mk _ s _ _=>s
@[reducible] def keys:Tr→List ByteArray | mk _ _ ks _=>ks
@[reducible] def items:Tr→List Tr | mk _ _ _ xs=>xs
@[simp] theorem eta (t:Tr):mk t.kind t.text t.keys t.items=t:=by cases t;rfl
instance:Inhabited Tr:=⟨mk 0 ⟨#[]⟩ [] []⟩
end Tr
inductive Ty where
 | int (k:IntKind) | bool | str | row (t:Ty) | tree | unit | pair (a b:Ty) | ptr (t:Ty) | iter | err
 deriving DecidableEq
@[reducible] def El:Ty→Type
 | .int _=>Int
 | .bool=>Bool
 | .str=>ByteArray
 | .row t=>List (El t)
 | .tree=>Tr
 | .unit=>Unit
 | .pair a b=>El a×El b
 | .ptr t=>El t
 | .iter=>ByteArray×Nat
 | .err=>Bool
def dflt:(t:Ty)→El t
 | .int _=>(0:Int)
 | .bool=>false
 | .str=>(⟨#[]⟩:ByteArray)
 | .row _=>[]
 | .tree=>default
 | .unit=>()
 | .pair a b=>(dflt a,dflt b)
 | .ptr t=>dflt t
 | .iter=>(⟨#[]⟩,0)
 | .err=>true
def sz:Ty→Nat
 | .tree=>4
 | .unit=>0
 | .pair a b=>sz a+sz b
 | _=>1
abbrev Fr:=Nat→Option (Array Value)
def Fr.le (M M':Fr):Prop:=∀ b cs,M b=some cs→M' b=some cs
theorem Fr.le.refl (M:Fr):Fr.le M M:=fun _ _ h=>h
theorem Fr.le.trans {a b c:Fr} (h:Fr.le a b) (k:Fr.le b c):Fr.le a c:=fun _ _ e=>k _ _ (h _ _ e)
def cut (cs:Array Value) (o n:Nat):List Value:=(cs.toList.drop o).take n
def RowAt (M:Fr) {α:Type} (R:α→List Value→Prop) (z:Nat) (xs:List α) (v:Value):Prop:=
 ∃ a c,v=.slice a xs.length c∧(xs.length≤140737488355328∧xs.length≤c)∧(xs=[]∨∃ b o cs,a=some ⟨b,o,none⟩∧M b=some cs∧∀ i (h:i < xs.length),R xs[i] (cut cs (o+i*z) z))
inductive TrRd (M:Fr):Tr→List Value→Prop where
 | mk {k:Int} {s:ByteArray} {ks:List ByteArray} {xs:List Tr} {vk:Value} {a:Option Addr} {c b o:Nat} {cs:Array Value}
  (hk:RowAt M (fun s cs=>cs=[.string s]) 1 ks vk) (hn:xs.length≤140737488355328∧xs.length≤c) (hz:xs=[]∨(a=some ⟨b,o,none⟩∧M b=some cs))
  (hi:∀ i (h:i < xs.length),TrRd M xs[i] (cut cs (o+i*4) 4)):TrRd M (.mk k s ks xs) [.int .i64 k,.string s,vk,.slice a xs.length c]
def iterV (s:ByteArray) (p:Nat):Value:=.iface 0 (.agg #[.string s,.int .i64 p])
def Rd (M:Fr):(t:Ty)→El t→List Value→Prop
 | .int k,i,cs=>cs=[.int k i]
 | .bool,b,cs=>cs=[.bool b]
 | .str,s,cs=>cs=[.string s]
 | .row t,xs,cs=>∃ v,cs=[v]∧RowAt M (Rd M t) (sz t) xs v
 | .tree,t,cs=>TrRd M t cs
 | .unit,_,cs=>cs=[]
 | .pair a b,x,cs=>∃ c1 c2,cs=c1++c2∧Rd M a x.1 c1∧Rd M b x.2 c2
 | .ptr t,x,cs=>∃ b o cc,cs=[.pointer (some ⟨b,o,none⟩)]∧M b=some cc∧Rd M t x (cut cc o (sz t))
 | .iter,x,cs=>cs=[iterV x.1 x.2]
 | .err,b,cs=>∃ v,cs=[v]∧((b=true∧v=.nilIface)∨(b=false∧∃ t u,v=.iface t u))
theorem RowAt.mono {M M':Fr} (hM:Fr.le M M') {α:Type} {R R':α→List Value→Prop} {z:Nat} {xs:List α} {v:Value} (H:RowAt M R z xs v) (hR:∀ x∈xs,∀ cs,R x cs→R' x cs):RowAt M' R' z xs v:=by
 obtain⟨a,c,e,hn,h⟩:=H
 refine⟨a,c,e,hn,h.imp id ?_⟩
 rintro⟨b,o,cs,e1,e2,h3⟩
 exact⟨b,o,cs,e1,hM _ _ e2,fun i h=>hR _ (List.getElem_mem _) _ (h3 i h)⟩
theorem TrRd.mono {M M':Fr} (hM:Fr.le M M') {t:Tr} {cs:List Value} (H:TrRd M t cs):TrRd M' t cs:=by
 induction H with
 | mk hk hn hz _ ih=>exact .mk (hk.mono hM fun _ _ _ h=>h) hn (hz.imp id fun h=>⟨h.1,hM _ _ h.2⟩) ih
theorem Rd.mono {M M':Fr} (hM:Fr.le M M'):∀ {t:Ty} {x:El t} {cs:List Value},Rd M t x cs→Rd M' t x cs
 | .int _,_,_,h=>h
 | .bool,_,_,h=>h
 | .str,_,_,h=>h
 | .row _,_,_,⟨v,e,h⟩=>⟨v,e,h.mono hM fun _ _ _ h=>Rd.mono hM h⟩
 | .tree,_,_,h=>TrRd.mono hM h
 | .unit,_,_,h=>h
 | .pair _ _,_,_,⟨c1,c2,e,h1,h2⟩=>⟨c1,c2,e,Rd.mono hM h1,Rd.mono hM h2⟩
 | .ptr _,_,_,⟨b,o,cc,e,h1,h2⟩=>⟨b,o,cc,e,hM _ _ h1,Rd.mono hM h2⟩
 | .iter,_,_,h=>h
 | .err,_,_,h=>h
theorem Rd.len {M:Fr}:∀ {t:Ty} {x:El t} {cs:List Value},Rd M t x cs→cs.length=sz t
 | .int _,_,_,h=>by rw [h];rfl
 | .bool,_,_,h=>by rw [h];rfl
 | .str,_,_,h=>by rw [h];rfl
 | .row t,_,_,⟨v,e,_⟩=>by rw [e];rfl
 | .tree,_,_,h=>by cases h;rfl
 | .unit,_,_,h=>by rw [h];rfl
 | .pair _ _,_,_,⟨c1,c2,e,h1,h2⟩=>by rw [e,List.length_append,Rd.len h1,Rd.len h2];rfl
 | .ptr _,_,_,⟨b,o,cc,e,_⟩=>by rw [e];rfl
 | .iter,_,_,h=>by rw [h];rfl
 | .err,_,_,⟨v,e,_⟩=>by rw [e];rfl
theorem Rd.one {M:Fr}:∀ {t:Ty} {x:El t} {cs:List Value},Rd M t x cs→∀ v∈cs,v.oneCell'=true
 | .int _,_,_,h=>by rw [h];simp [Value.oneCell']
 | .bool,_,_,h=>by rw [h];simp [Value.oneCell']
 | .str,_,_,h=>by rw [h];simp [Value.oneCell']
 | .row t,_,_,⟨v,e,a,c,e2,_⟩=>by rw [e,e2];simp [Value.oneCell']
 | .tree,_,_,h=>by
  cases h with
  | mk hk _ _ _=>obtain⟨a,c,e,_⟩:=hk;rw [e];simp [Value.oneCell']
 | .unit,_,_,h=>by rw [h];simp
 | .pair _ _,_,_,⟨c1,c2,e,h1,h2⟩=>by
  intro v hv
  rw [e] at hv
  rcases List.mem_append.1 hv with hv | hv
  ·exact Rd.one h1 v hv
  ·exact Rd.one h2 v hv
 | .ptr _,_,_,⟨b,o,cc,e,_⟩=>by rw [e];simp [Value.oneCell']
 | .iter,_,_,h=>by rw [h];simp [Value.oneCell',iterV]
 | .err,_,_,⟨v,e,h⟩=>by
  rw [e]
  rcases h with⟨_,rfl⟩| ⟨_,t,u,rfl⟩ <;> simp [Value.oneCell']
theorem TrRd.keys {M:Fr} {t:Tr} {cs:List Value} (H:TrRd M t cs):∃ vk vi,cs=[.int .i64 t.kind,.string t.text,vk,vi]∧Rd M (.row .str) t.keys [vk]∧Rd M (.row .tree) t.items [vi]:=by
 cases H with
 | @mk k s ks xs vk a c b o cs hk hn hz hi=>
  exact⟨vk,_,rfl,⟨vk,rfl,hk⟩,⟨_,rfl,a,c,rfl,hn,hz.imp id fun h=>⟨b,o,cs,h.1,h.2,hi⟩⟩⟩
theorem TrRd.of {M:Fr} {k:Int} {s:ByteArray} {ks:List ByteArray} {xs:List Tr} {vk vi:Value} (h1:Rd M (.row .str) ks [vk]) (h2:Rd M (.row .tree) xs [vi]):TrRd M (.mk k s ks xs) [.int .i64 k,.string s,vk,vi]:=by
 obtain⟨v,e,h1⟩:=h1
 obtain⟨v',e',a,c,e2,hn,h2⟩:=h2
 cases e;cases e';subst e2
 rcases h2 with rfl | ⟨b,o,cs,e1,e2,h3⟩
 ·exact .mk (b:=0) (o:=0) (cs:=#[]) h1 hn (.inl rfl) fun i h=>absurd h (by simp)
 ·exact .mk h1 hn (.inr ⟨e1,e2⟩) h3
def Bd:(t:Ty)→El t→Prop
 | .row _,xs=>xs.length≤140737488355328
 | .tree,t=>t.keys.length≤140737488355328∧t.items.length≤140737488355328
 | .pair a b,x=>Bd a x.1∧Bd b x.2
 | _,_=>True
theorem Rd.bd {M:Fr}:∀ {t:Ty} {x:El t} {cs:List Value},Rd M t x cs→Bd t x
 | .int _,_,_,_=>trivial
 | .bool,_,_,_=>trivial
 | .str,_,_,_=>trivial
 | .row t,_,_,⟨v,_,a,c,_,h,_⟩=>h.1
 | .tree,_,_,h=>by
  cases h with
  | mk hk hn _ _=>obtain⟨a,c,e,h,_⟩:=hk;exact⟨h.1,hn.1⟩
 | .unit,_,_,_=>trivial
 | .pair _ _,_,_,⟨_,_,_,h1,h2⟩=>⟨Rd.bd h1,Rd.bd h2⟩
 | .ptr _,_,_,_=>trivial
 | .iter,_,_,_=>trivial
 | .err,_,_,_=>trivial
inductive AA where
 | v (x:Value)
 | d (t:Ty) (x:El t)
 | box (c o:Nat)
 | own (c:Nat)
 | oelt (c z:Nat) (i:Nat) (o:Nat)
 | elt (t:Ty) (x:El t) (o:Nat)
 | dc (t:Ty) (xs:List (El t))
inductive AG where
 | a (x:AA)
 | agg (l:List AA)
inductive AV where
 | g (x:AG)
 | tup (l:List AG)
 | nx (b:Bool) (p:Int) (c:Int)
structure Gh where
 M:Fr
 β:Nat→Nat
 σ:Nat→Sl
def All2 {α β:Type} (R:α→β→Prop):List α→List β→Prop
 | [],[]=>True
 | x::xs,y::ys=>R x y∧All2 R xs ys
 | _,_=>False
def slV (s:Sl):Value:=.slice s.a s.len s.cap
def DenA (γ:Gh):AA→Value→Prop
 | .v x,u=>u=x
 | .d t x,u=>Rd γ.M t x [u]
 | .box c o,u=>u=.pointer (some ⟨γ.β c,o,none⟩)
 | .own c,u=>u=slV (γ.σ c)
 | .oelt c z i o,u=>∃ g,(γ.σ c).a=some ⟨g,0,none⟩∧u=.pointer (some ⟨g,i*z+o,none⟩)
 | .elt t x o,u=>∃ b f cs,u=.pointer (some ⟨b,f+o,none⟩)∧γ.M b=some cs∧Rd γ.M t x (cut cs f (sz t))
 | .dc t xs,u=>∃ s:Sl,u=slV s∧s.cap=s.len∧Rd γ.M (.row t) xs [u]
def DenG (γ:Gh):AG→Value→Prop
 | .a x,u=>DenA γ x u
 | .agg l,u=>∃ us,u=.agg us.toArray∧All2 (DenA γ) l us
def DenV (γ:Gh):AV→Value→Prop
 | .g x,u=>DenG γ x u
 | .tup l,u=>∃ us,u=.tuple us.toArray∧All2 (DenG γ) l us
 | .nx b p c,u=>(b=true→u=.tuple #[.bool true,.int .i64 p,.int .i32 c])∧(b=false→u=.tuple #[.bool false])
theorem All2.length {α β:Type} {R:α→β→Prop}:∀ {l:List α} {m:List β},All2 R l m→l.length=m.length
 | [],[],_=>rfl
 | [],_::_,h=>h.elim
 | _::_,[],h=>h.elim
 | _::_,_::_,h=>by simp [All2.length h.2]
theorem All2.imp {α β:Type} {R R':α→β→Prop}:∀ {l:List α} {m:List β},All2 R l m→(∀ x∈l,∀ y,R x y→R' x y)→All2 R' l m
 | [],[],_,_=>trivial
 | [],_::_,h,_=>h.elim
 | _::_,[],h,_=>h.elim
 | _::_,_::_,h,k=>⟨k _ List.mem_cons_self _ h.1,All2.imp h.2 fun x hx y hy=>k x (List.mem_cons_of_mem _ hx) y hy⟩
theorem All2.append {α β:Type} {R:α→β→Prop}:∀ {l l':List α} {m m':List β},All2 R l m→All2 R l' m'→All2 R (l++l') (m++m')
 | [],_,[],_,_,h=>h
 | [],_,_::_,_,h,_=>h.elim
 | _::_,_,[],_,h,_=>h.elim
 | _::_,_,_::_,_,h,k=>⟨h.1,All2.append h.2 k⟩
theorem All2.take {α β:Type} {R:α→β→Prop}:∀ (n:Nat) {l:List α} {m:List β},All2 R l m→All2 R (l.take n) (m.take n)
 | 0,_,_,_=>by simp [All2]
 | _+1,[],[],_=>trivial
 | _+1,[],_::_,h=>h.elim
 | _+1,_::_,[],h=>h.elim
 | n+1,_::_,_::_,h=>⟨h.1,All2.take n h.2⟩
theorem All2.drop {α β:Type} {R:α→β→Prop}:∀ (n:Nat) {l:List α} {m:List β},All2 R l m→All2 R (l.drop n) (m.drop n)
 | 0,_,_,h=>by simpa using h
 | _+1,[],[],_=>trivial
 | _+1,[],_::_,h=>h.elim
 | _+1,_::_,[],h=>h.elim
 | n+1,_::_,_::_,h=>by simpa using All2.drop n h.2
theorem All2.get {α β:Type} {R:α→β→Prop}:∀ {l:List α} {m:List β} {i:Nat} {x:α},All2 R l m→l[i]?=some x→∃ y,m[i]?=some y∧R x y
 | [],[],_,_,_,h=>by simp at h
 | [],_::_,_,_,h,_=>h.elim
 | _::_,[],_,_,h,_=>h.elim
 | _::_,y::_,0,_,h,e=>by simp at e;subst e;exact⟨y,rfl,h.1⟩
 | _::_,_::_,i+1,_,h,e=>by simpa using All2.get h.2 (by simpa using e)
def expand:(t:Ty)→El t→List AA
 | .int k,i=>[.v (.int k i)]
 | .bool,b=>[.v (.bool b)]
 | .str,s=>[.v (.string s)]
 | .row t,xs=>[.d (.row t) xs]
 | .tree,t=>[.v (.int .i64 t.kind),.v (.string t.text),.d (.row .str) t.keys,.d (.row .tree) t.items]
 | .unit,_=>[]
 | .pair a b,x=>expand a x.1++expand b x.2
 | .ptr t,x=>[.elt t x 0]
 | .iter,x=>[.d .iter x]
 | .err,x=>[.d .err x]
theorem expand_den {γ:Gh}:∀ {t:Ty} {x:El t} {cs:List Value},Rd γ.M t x cs→All2 (DenA γ) (expand t x) cs
 | .int _,_,_,h=>by rw [h];exact⟨rfl,trivial⟩
 | .bool,_,_,h=>by rw [h];exact⟨rfl,trivial⟩
 | .str,_,_,h=>by rw [h];exact⟨rfl,trivial⟩
 | .row t,_,_,⟨v,e,h⟩=>by rw [e];exact⟨⟨v,rfl,h⟩,trivial⟩
 | .tree,_,_,h=>by
  obtain⟨vk,vi,e,h1,h2⟩:=TrRd.keys h
  rw [e];exact⟨rfl,rfl,h1,h2,trivial⟩
 | .unit,_,_,h=>by rw [h];trivial
 | .pair _ _,_,_,⟨c1,c2,e,h1,h2⟩=>by rw [e];exact(expand_den h1).append (expand_den h2)
 | .ptr t,x,_,⟨b,o,cc,e,h1,h2⟩=>by rw [e];exact⟨⟨b,o,cc,rfl,h1,h2⟩,trivial⟩
 | .iter,x,_,h=>by rw [h];exact⟨rfl,trivial⟩
 | .err,x,_,⟨v,e,h⟩=>by rw [e];exact⟨⟨v,rfl,h⟩,trivial⟩
def hasIt:Ty→Bool
 | .iter=>true
 | .err=>true
 | .pair a b=>bif hasIt a then true else hasIt b
 | _=>false
theorem Rd.noIt {M:Fr}:∀ {t:Ty} {x:El t} {cs:List Value},hasIt t=false→Rd M t x cs→∀ s p,iterV s p∉cs
 | .int _,_,_,_,h,s,p=>by rw [h];simp [iterV]
 | .bool,_,_,_,h,s,p=>by rw [h];simp [iterV]
 | .str,_,_,_,h,s,p=>by rw [h];simp [iterV]
 | .row t,_,_,_,⟨v,e,a,c,e2,_⟩,s,p=>by rw [e,e2];simp [iterV]
 | .tree,_,_,_,h,s,p=>by
  cases h with
  | mk hk _ _ _=>obtain⟨a,c,e,_⟩:=hk;rw [e];simp [iterV]
 | .unit,_,_,_,h,s,p=>by rw [h];simp
 | .pair a b,_,_,hi,⟨c1,c2,e,h1,h2⟩,s,p=>by
  simp only [hasIt] at hi
  cases ha:hasIt a with
  | true=>rw [ha] at hi;cases hi
  | false=>
   rw [ha] at hi
   rw [e]
   intro hm
   rcases List.mem_append.1 hm with hm | hm
   ·exact Rd.noIt ha h1 s p hm
   ·exact Rd.noIt hi h2 s p hm
 | .ptr _,_,_,_,⟨b,o,cc,e,_⟩,s,p=>by rw [e];simp [iterV]
 | .iter,_,_,hi,_,_,_=>by cases hi
 | .err,_,_,hi,_,_,_=>by cases hi
def itB:List AA→Bool
 | [.d t _]=>hasIt t
 | [.v (.iface _ _)]=>true
 | _=>false
theorem itB_no {γ:Gh} {l:List AA} {us:List Value} (h:itB l=false) (hd:All2 (DenA γ) l us) (s:ByteArray) (p:Nat):us≠[iterV s p]:=by
 intro e
 subst e
 match l,hd with
 | [x],hd=>
  cases x with
  | v y=>rw [← show iterV s p=y from hd.1] at h;simp [itB,iterV] at h
  | d t y=>exact Rd.noIt (show hasIt t=false from h) (show Rd γ.M t y [iterV s p] from hd.1) s p (by simp)
  | box c o=>have:iterV s p=_:=hd.1;simp [iterV] at this
  | own c=>have:iterV s p=_:=hd.1;simp [iterV,slV] at this
  | oelt c z i o=>obtain⟨g,_,e⟩:=hd.1;simp [iterV] at e
  | elt t y o=>obtain⟨b,f,cs,e,_⟩:=hd.1;simp [iterV] at e
  | dc t xs=>obtain⟨s',e,_⟩:=hd.1;simp [iterV,slV] at e
 | [],hd=>exact hd.elim
 | _::_::_,hd=>exact hd.2.elim
inductive Ch where
 | box (l:List AA)
 | row (e:TypeId) (t:Ty) (xs:List (El t))
 | fz (t:Ty) (xs:List (El t))
abbrev CS:=List (Nat×Ch)
def findC:CS→Nat→Option Ch
 | [],_=>none
 | (j,k)::l,i=>bif Nat.beq i j then some k else findC l i
theorem findC_mem {l:CS} {i:Nat} {k:Ch} (h:findC l i=some k):(i,k)∈l:=by
 induction l with
 | nil=>cases h
 | cons x l ih=>
  obtain⟨j,k'⟩:=x
  simp only [findC] at h
  by_cases hb:Nat.beq i j=true
  ·simp only [hb,cond_true,Option.some.injEq] at h
   subst h
   rw [Nat.eq_of_beq_eq_true hb];exact List.mem_cons_self
  ·simp only [hb,cond_false] at h
   exact List.mem_cons_of_mem _ (ih h)
def castE (t t':Ty) (x:El t):Option (El t'):=if h:t=t' then some (h ▸ x) else none
theorem castE_rd {M:Fr} {t t':Ty} {x:El t} {y:El t'} {cs:List Value} (h:castE t t' x=some y) (r:Rd M t x cs):Rd M t' y cs:=by
 unfold castE at h
 split at h
 ·rename_i e
  subst e
  simp only [Option.some.injEq] at h
  subst h;exact r
 ·cases h
def cellD (cs:CS):(t:Ty)→AA→Option (El t)
 | .int k,.v (.int k' i)=>if k=k' then some i else none
 | .bool,.v (.bool b)=>some b
 | .str,.v (.string s)=>some s
 | .row t,.v (.slice none 0 0)=>some ([]:List (El t))
 | .row t,.d t' x=>castE t' (.row t) x
 | .row t,.dc t' x=>castE (.row t') (.row t) x
 | .row t,.own c=>match findC cs c with
  | some (.fz t' xs)=>castE (.row t') (.row t) xs
  | _=>none
 | .ptr t,.elt t' x 0=>castE t' t x
 | .ptr t,.d t' x=>castE t' (.ptr t) x
 | .iter,.d t' x=>castE t' .iter x
 | .err,.d t' x=>castE t' .err x
 | .err,.v .nilIface=>some true
 | .err,.v (.iface _ _)=>some false
 | _,_=>none
def collect (cs:CS):(t:Ty)→List AA→Option (El t×List AA)
 | .unit,l=>some ((),l)
 | .pair a b,l=>match collect cs a l with
  | some (x,l')=>match collect cs b l' with
   | some (y,l'')=>some ((x,y),l'')
   | none=>none
  | none=>none
 | .tree,k::s::ks::xs::l=>match cellD cs (.int .i64) k,cellD cs .str s,cellD cs (.row .str) ks,cellD cs (.row .tree) xs with
  | some k,some s,some ks,some xs=>some (Tr.mk k s ks xs,l)
  | _,_,_,_=>none
 | .tree,_=>none
 | t,x::l=>match cellD cs t x with
  | some y=>some (y,l)
  | none=>none
 | _,[]=>none
def FzOk (γ:Gh) (cs:CS):Prop:=∀ c t xs,(c,Ch.fz t xs)∈cs→Rd γ.M (.row t) xs [slV (γ.σ c)]
theorem cellD_rd {γ:Gh} {cs:CS} (hf:FzOk γ cs) {t:Ty} {x:AA} {y:El t} (h:cellD cs t x=some y) {u:Value} (hd:DenA γ x u):Rd γ.M t y [u]:=by
 unfold cellD at h
 split at h
 ·split at h
  ·rename_i hk;simp only [Option.some.injEq] at h;subst h;subst hk;exact congrArg (fun u=>[u]) hd
  ·cases h
 ·simp only [Option.some.injEq] at h;subst h;exact congrArg (fun u=>[u]) hd
 ·simp only [Option.some.injEq] at h;subst h;exact congrArg (fun u=>[u]) hd
 ·simp only [Option.some.injEq] at h;subst h
  exact⟨u,rfl,none,0,hd,by simp,.inl rfl⟩
 ·exact castE_rd h hd
 ·obtain⟨s,_,_,hd⟩:=hd
  exact castE_rd h hd
 ·split at h
  ·rename_i t' xs hfc
   rw [show u=_ from hd]
   exact castE_rd h (hf _ _ _ (findC_mem hfc))
  ·cases h
 ·rename_i t t' x
  obtain⟨b,f,cs',e,h1,h2⟩:=hd
  exact⟨b,f,cs',by rw [e];rfl,h1,by
   unfold castE at h
   split at h
   ·rename_i e;subst e;simp only [Option.some.injEq] at h;subst h;exact h2
   ·cases h⟩
 ·exact castE_rd h hd
 ·exact castE_rd h hd
 ·exact castE_rd h hd
 ·simp only [Option.some.injEq] at h;subst h;exact⟨u,rfl,.inl ⟨rfl,hd⟩⟩
 ·rename_i t' x';simp only [Option.some.injEq] at h;subst h;exact⟨u,rfl,.inr ⟨rfl,_,_,hd⟩⟩
 ·cases h
theorem collect_rd {γ:Gh} {cs:CS} (hf:FzOk γ cs):∀ {t:Ty} {l l':List AA} {y:El t},collect cs t l=some (y,l')→∀ {us:List Value},All2 (DenA γ) l us→∃ c1 c2,us=c1++c2∧Rd γ.M t y c1∧All2 (DenA γ) l' c2
 | .unit,l,l',y,h,us,hu=>by
  simp only [collect,Option.some.injEq,Prod.mk.injEq] at h
  obtain⟨_,rfl⟩:=h
  exact⟨[],us,rfl,rfl,hu⟩
 | .pair a b,l,l',y,h,us,hu=>by
  simp only [collect] at h
  split at h
  ·rename_i x l1 h1
   split at h
   ·rename_i z l2 h2
    simp only [Option.some.injEq,Prod.mk.injEq] at h
    obtain⟨rfl,rfl⟩:=h
    obtain⟨c1,c2,rfl,r1,r2⟩:=collect_rd hf h1 hu
    obtain⟨c3,c4,rfl,r3,r4⟩:=collect_rd hf h2 r2
    exact⟨c1++c3,c4,by simp,⟨c1,c3,rfl,r1,r3⟩,r4⟩
   ·cases h
  ·cases h
 | .tree,l,l',y,h,us,hu=>by
  match l,us,hu,h with
  | k::s::ks::xs::l,u1::u2::u3::u4::us,hu,h=>
   simp only [collect] at h
   split at h
   ·rename_i k' s' ks' xs' h1 h2 h3 h4
    simp only [Option.some.injEq,Prod.mk.injEq] at h
    obtain⟨rfl,rfl⟩:=h
    obtain⟨d1,d2,d3,d4,d5⟩:=hu
    have r1:=cellD_rd hf h1 d1
    have r2:=cellD_rd hf h2 d2
    have r3:=cellD_rd hf h3 d3
    have r4:=cellD_rd hf h4 d4
    refine⟨[u1,u2,u3,u4],us,rfl,?_,d5⟩
    have e1:[u1]=[Value.int .i64 k']:=r1
    have e2:[u2]=[Value.string s']:=r2
    cases e1;cases e2
    exact TrRd.of r3 r4
   ·cases h
  | [],_,_,h=>simp [collect] at h
  | [_],_,_,h=>simp [collect] at h
  | [_,_],_,_,h=>simp [collect] at h
  | [_,_,_],_,_,h=>simp [collect] at h
  | _::_::_::_::_,[],hu,_=>exact hu.elim
  | _::_::_::_::_,[_],hu,_=>exact hu.2.elim
  | _::_::_::_::_,[_,_],hu,_=>exact hu.2.2.elim
  | _::_::_::_::_,[_,_,_],hu,_=>exact hu.2.2.2.elim
 | .int k,x::l,l',y,h,u::us,hu=>by
  simp only [collect] at h
  split at h
  ·rename_i z hz;simp only [Option.some.injEq,Prod.mk.injEq] at h;obtain⟨rfl,rfl⟩:=h
   exact⟨[u],us,rfl,cellD_rd hf hz hu.1,hu.2⟩
  ·cases h
 | .bool,x::l,l',y,h,u::us,hu=>by
  simp only [collect] at h
  split at h
  ·rename_i z hz;simp only [Option.some.injEq,Prod.mk.injEq] at h;obtain⟨rfl,rfl⟩:=h
   exact⟨[u],us,rfl,cellD_rd hf hz hu.1,hu.2⟩
  ·cases h
 | .str,x::l,l',y,h,u::us,hu=>by
  simp only [collect] at h
  split at h
  ·rename_i z hz;simp only [Option.some.injEq,Prod.mk.injEq] at h;obtain⟨rfl,rfl⟩:=h
   exact⟨[u],us,rfl,cellD_rd hf hz hu.1,hu.2⟩
  ·cases h
 | .row _,x::l,l',y,h,u::us,hu=>by
  simp only [collect] at h
  split at h
  ·rename_i z hz;simp only [Option.some.injEq,Prod.mk.injEq] at h;obtain⟨rfl,rfl⟩:=h
   exact⟨[u],us,rfl,cellD_rd hf hz hu.1,hu.2⟩
  ·cases h
 | .ptr _,x::l,l',y,h,u::us,hu=>by
  simp only [collect] at h
  split at h
  ·rename_i z hz;simp only [Option.some.injEq,Prod.mk.injEq] at h;obtain⟨rfl,rfl⟩:=h
   exact⟨[u],us,rfl,cellD_rd hf hz hu.1,hu.2⟩
  ·cases h
 | .iter,x::l,l',y,h,u::us,hu=>by
  simp only [collect] at h
  split at h
  ·rename_i z hz;simp only [Option.some.injEq,Prod.mk.injEq] at h;obtain⟨rfl,rfl⟩:=h
   exact⟨[u],us,rfl,cellD_rd hf hz hu.1,hu.2⟩
  ·cases h
 | .iter,_::_,_,_,_,[],hu=>hu.elim
 | .iter,[],_,_,h,_,_=>by simp [collect] at h
 | .err,x::l,l',y,h,u::us,hu=>by
  simp only [collect] at h
  split at h
  ·rename_i z hz;simp only [Option.some.injEq,Prod.mk.injEq] at h;obtain⟨rfl,rfl⟩:=h
   exact⟨[u],us,rfl,cellD_rd hf hz hu.1,hu.2⟩
  ·cases h
 | .err,_::_,_,_,_,[],hu=>hu.elim
 | .err,[],_,_,h,_,_=>by simp [collect] at h
 | .int _,_::_,_,_,_,[],hu=>hu.elim
 | .bool,_::_,_,_,_,[],hu=>hu.elim
 | .str,_::_,_,_,_,[],hu=>hu.elim
 | .row _,_::_,_,_,_,[],hu=>hu.elim
 | .ptr _,_::_,_,_,_,[],hu=>hu.elim
 | .int _,[],_,_,h,_,_=>by simp [collect] at h
 | .bool,[],_,_,h,_,_=>by simp [collect] at h
 | .str,[],_,_,h,_,_=>by simp [collect] at h
 | .row _,[],_,_,h,_,_=>by simp [collect] at h
 | .ptr _,[],_,_,h,_,_=>by simp [collect] at h
end Go.X
end
section
namespace Go.X
open Go
set_option linter.unusedVariables false
def AgM (M:Fr) (h:Heap):Prop:=∀ b c,M b=some c→∃ T m,h[b]?=some (.cells c T m)
theorem AgM.lt {M:Fr} {h:Heap} (H:AgM M h) {b:Nat} {c:Array Value} (e:M b=some c):b < h.size:=by
 obtain⟨T,m,e'⟩:=H b c e;exact(Array.getElem?_eq_some_iff.1 e').1
theorem AgM.none {M:Fr} {h:Heap} (H:AgM M h) {b:Nat} (hb:h.size≤b):M b=none:=by
 cases e:M b with
 | none=>rfl
 | some c=>have:=H.lt e;omega
theorem AgM.cell {M:Fr} {h:Heap} (H:AgM M h) {b o:Nat} {c:Array Value} {v:Value} (e:M b=some c) (hv:c[o]?=some v):cellH h ⟨b,o,Option.none⟩=some v:=by
 obtain⟨T,m,e'⟩:=H b c e
 unfold cellH;simp [e',hv]
def Gx (c:Option Nat) (γ γ':Gh):Prop:=Fr.le γ.M γ'.M∧∀ i,c≠some i→γ'.β i=γ.β i∧γ'.σ i=γ.σ i
theorem Gx.refl (c:Option Nat) (γ:Gh):Gx c γ γ:=⟨Fr.le.refl _,fun _ _=>⟨rfl,rfl⟩⟩
def menA (c:Nat):AA→Bool
 | .box j _=>Nat.beq j c
 | .own j=>Nat.beq j c
 | .oelt j _ _ _=>Nat.beq j c
 | _=>false
def menL (c:Nat):List AA→Bool
 | []=>false
 | x::l=>bif menA c x then true else menL c l
def menCh (c:Nat):Ch→Bool
 | .box l=>menL c l
 | _=>false
def menG (c:Nat):AG→Bool
 | .a x=>menA c x
 | .agg l=>menL c l
def menGs (c:Nat):List AG→Bool
 | []=>false
 | x::l=>bif menG c x then true else menGs c l
def menV (c:Nat):AV→Bool
 | .g x=>menG c x
 | .tup l=>menGs c l
 | .nx _ _ _=>false
def menO {α:Type} (f:Nat→α→Bool):Option Nat→α→Bool
 | none,_=>false
 | some c,x=>f c x
theorem beq_ne {j c:Nat} (h:Nat.beq j c=false):some c≠some j:=by
 intro e;simp only [Option.some.injEq] at e;subst e;simp at h
theorem DenA.gx {c:Option Nat} {γ γ':Gh} (g:Gx c γ γ'):∀ {x:AA} {u:Value},menO menA c x=false→DenA γ x u→DenA γ' x u
 | .v _,_,_,h=>h
 | .d _ _,_,_,h=>Rd.mono g.1 h
 | .box j o,u,hm,h=>by
  have:c≠some j:=by cases c with | none=>simp | some c=>exact beq_ne hm
  rw [show u=_ from h];simp only [DenA,(g.2 j this).1]
 | .own j,u,hm,h=>by
  have:c≠some j:=by cases c with | none=>simp | some c=>exact beq_ne hm
  rw [show u=_ from h];simp only [DenA,(g.2 j this).2]
 | .oelt j z i o,u,hm,h=>by
  have:c≠some j:=by cases c with | none=>simp | some c=>exact beq_ne hm
  obtain⟨b,e1,e2⟩:=h
  exact⟨b,by rw [(g.2 j this).2];exact e1,e2⟩
 | .elt _ _ _,_,_,⟨b,f,cs,e,h1,h2⟩=>⟨b,f,cs,e,g.1 _ _ h1,Rd.mono g.1 h2⟩
 | .dc _ _,_,_,⟨s,e1,e2,h⟩=>⟨s,e1,e2,Rd.mono g.1 h⟩
theorem menL_mem {c:Nat} {l:List AA} (h:menL c l=false):∀ x∈l,menA c x=false:=by
 induction l with
 | nil=>intro x hx;cases hx
 | cons y l ih=>
  intro x hx
  simp only [menL] at h
  cases hy:menA c y with
  | true=>simp [hy] at h
  | false=>
   simp only [hy,cond_false] at h
   rcases List.mem_cons.1 hx with rfl | hx
   ·exact hy
   ·exact ih h x hx
theorem DenL.gx {c:Option Nat} {γ γ':Gh} (g:Gx c γ γ') {l:List AA} {us:List Value} (hm:menO menL c l=false) (h:All2 (DenA γ) l us):All2 (DenA γ') l us:=
 h.imp fun x hx u hu=>DenA.gx g (by cases c with | none=>rfl | some c=>exact menL_mem hm x hx) hu
theorem DenG.gx {c:Option Nat} {γ γ':Gh} (g:Gx c γ γ') {x:AG} {u:Value} (hm:menO menG c x=false) (h:DenG γ x u):DenG γ' x u:=by
 cases x with
 | a x=>exact DenA.gx g (by cases c <;> exact hm) h
 | agg l=>obtain⟨us,e,h⟩:=h;exact⟨us,e,DenL.gx g (by cases c <;> exact hm) h⟩
theorem menGs_mem {c:Nat} {l:List AG} (h:menGs c l=false):∀ x∈l,menG c x=false:=by
 induction l with
 | nil=>intro x hx;cases hx
 | cons y l ih=>
  intro x hx
  simp only [menGs] at h
  cases hy:menG c y with
  | true=>simp [hy] at h
  | false=>
   simp only [hy,cond_false] at h
   rcases List.mem_cons.1 hx with rfl | hx
   ·exact hy
   ·exact ih h x hx
theorem DenV.gx {c:Option Nat} {γ γ':Gh} (g:Gx c γ γ') {x:AV} {u:Value} (hm:menO menV c x=false) (h:DenV γ x u):DenV γ' x u:=by
 cases x with
 | g x=>exact DenG.gx g (by cases c <;> exact hm) h
 | tup l=>
  obtain⟨us,e,h⟩:=h
  exact⟨us,e,h.imp fun x hx u hu=>DenG.gx g (by cases c with | none=>rfl | some c=>exact menGs_mem hm x hx) hu⟩
 | nx b p c=>exact h
def RowC (M:Fr) (t:Ty) (xs:List (El t)) (cells:List Value):Prop:=
 cells.length=xs.length*sz t∧∀ i (h:i < xs.length),Rd M t xs[i] ((cells.drop (i*sz t)).take (sz t))
theorem RowC.mono {M M':Fr} (hM:Fr.le M M') {t:Ty} {xs:List (El t)} {cells:List Value} (H:RowC M t xs cells):RowC M' t xs cells:=⟨H.1,fun i h=>Rd.mono hM (H.2 i h)⟩
theorem RowC.nil (M:Fr) (t:Ty):RowC M t [] []:=⟨by simp,fun i h=>absurd h (by simp)⟩
theorem RowC.single {M:Fr} {t:Ty} {x:El t} {cs:List Value} (h:Rd M t x cs):RowC M t [x] cs:=by
 have hl:=h.len
 refine⟨by simp [hl],fun i hi=>?_⟩
 have:i=0:=by simpa using hi
 subst this
 simp only [Nat.zero_mul,List.drop_zero,List.getElem_cons_zero,← hl,List.take_length]
 exact h
theorem RowC.append {M:Fr} {t:Ty} {xs ys:List (El t)} {c1 c2:List Value} (h1:RowC M t xs c1) (h2:RowC M t ys c2):RowC M t (xs++ys) (c1++c2):=by
 refine⟨by rw [List.length_append,List.length_append,h1.1,h2.1,Nat.add_mul],fun i hi=>?_⟩
 by_cases hlt:i < xs.length
 ·rw [List.getElem_append_left hlt]
  have hle:(i+1)*sz t≤c1.length:=by rw [h1.1];exact Nat.mul_le_mul_right _ hlt
  rw [Nat.add_mul,Nat.one_mul] at hle
  rw [List.drop_append_of_le_length (by omega),List.take_append_of_le_length (by rw [List.length_drop];omega)]
  exact h1.2 i hlt
 ·have hge:xs.length≤i:=by omega
  rw [List.getElem_append_right hge]
  have hi':i - xs.length < ys.length:=by rw [List.length_append] at hi;omega
  have:=h2.2 (i - xs.length) hi'
  have e:(c1++c2).drop (i*sz t)=c2.drop ((i - xs.length)*sz t):=by
   rw [List.drop_append]
   have:c1.length≤i*sz t:=by rw [h1.1];exact Nat.mul_le_mul_right _ hge
   rw [List.drop_eq_nil_of_le this,List.nil_append,h1.1,← Nat.sub_mul]
  rw [e];exact this
theorem RowC.one {M:Fr} {t:Ty} {xs:List (El t)} {cells:List Value} (H:RowC M t xs cells):∀ v∈cells,v.oneCell'=true:=by
 intro v hv
 obtain⟨j,hj,rfl⟩:=List.getElem_of_mem hv
 have hz:0 < sz t:=by
  rcases Nat.eq_zero_or_pos (sz t) with h | h
  ·rw [H.1,h,Nat.mul_zero] at hj;omega
  ·exact h
 have hi:j / sz t < xs.length:=by rw [H.1] at hj;exact Nat.div_lt_of_lt_mul (by rw [Nat.mul_comm];exact hj)
 refine Rd.one (H.2 _ hi) _ ?_
 rw [List.mem_iff_getElem?]
 refine⟨j % sz t,?_⟩
 rw [List.getElem?_take,if_pos (Nat.mod_lt _ hz),List.getElem?_drop,Nat.mul_comm,Nat.div_add_mod,List.getElem?_eq_getElem hj]
theorem RowC.rd {M:Fr} {t:Ty} {xs:List (El t)} {cells:List Value} (H:RowC M t xs cells) {b o c:Nat} {cs:Array Value} (hM:M b=some cs) (hc:(cs.toList.drop o).take (xs.length*sz t)=cells) (hn:xs.length≤140737488355328∧xs.length≤c):
  Rd M (.row t) xs [.slice (some ⟨b,o,none⟩) xs.length c]:=by
 refine⟨_,rfl,_,_,rfl,hn,.inr ⟨b,o,cs,rfl,hM,fun i hi=>?_⟩⟩
 have:=H.2 i hi
 rw [← hc] at this
 have hle:(i+1)*sz t≤xs.length*sz t:=Nat.mul_le_mul_right _ hi
 rw [Nat.add_mul,Nat.one_mul] at hle
 have e:(((cs.toList.drop o).take (xs.length*sz t)).drop (i*sz t)).take (sz t)=cut cs (o+i*sz t) (sz t):=by
  unfold cut
  rw [List.drop_take,List.take_take,List.drop_drop,Nat.min_eq_left (by omega)]
 rw [e] at this
 exact this
theorem Rd.rowC {M:Fr} {h:Heap} (ag:AgM M h) {t:Ty} {xs:List (El t)} {u:Value} (H:Rd M (.row t) xs [u]):∃ s:Sl,u=slV s∧s.len=xs.length∧(xs.length≤140737488355328∧xs.length≤s.cap)∧∃ cells,RowC M t xs cells∧Arr h.size h s.a cells:=by
 obtain⟨v,e,a,c,rfl,hn,H⟩:=H
 cases e
 refine⟨⟨a,xs.length,c⟩,rfl,rfl,hn,?_⟩
 rcases H with rfl | ⟨b,o,cs,rfl,hM,hi⟩
 ·exact⟨[],RowC.nil _ _,.inl rfl⟩
 ·have hlen:xs=[]∨xs.length*sz t≤(cs.toList.drop o).length:=by
   rcases Nat.eq_zero_or_pos xs.length with h0 | h0
   ·exact .inl (List.eq_nil_of_length_eq_zero h0)
   ·right
    have:=(hi (xs.length - 1) (by omega)).len
    unfold cut at this
    rw [List.length_take,List.length_drop] at this
    rw [List.length_drop]
    rcases Nat.eq_zero_or_pos (sz t) with hz | hz
    ·rw [hz];simp
    ·have e:xs.length*sz t=(xs.length - 1)*sz t+sz t:=by
      rw [← Nat.succ_mul];congr 1;omega
     rw [e];omega
  rcases hlen with rfl | hlen
  ·exact⟨[],RowC.nil _ _,.inl rfl⟩
  refine⟨(cs.toList.drop o).take (xs.length*sz t),⟨by rw [List.length_take];omega,fun i hi'=>?_⟩,.inr ⟨b,o,rfl,ag.lt hM,fun i v hv=>?_⟩⟩
  ·have:=hi i hi'
   have hle:(i+1)*sz t≤xs.length*sz t:=Nat.mul_le_mul_right _ hi'
   rw [Nat.add_mul,Nat.one_mul] at hle
   unfold cut at this
   rw [List.drop_take,List.take_take,List.drop_drop,Nat.min_eq_left (by omega)]
   exact this
  ·refine ag.cell hM ?_
   rw [List.getElem?_take] at hv
   split at hv
   ·rw [List.getElem?_drop] at hv;simpa using hv
   ·cases hv
def ObjIs (o:Option Obj) (us:List Value):Prop:=((∃ T,o=some (.cells us.toArray T (0,0)))∧∀ s p,us≠[iterV s p])∨(∃ s p,us=[iterV s p]∧o=some (.stringIter s p))
def DenC (n0:Nat) (γ:Gh) (h:Heap) (c:Nat):Ch→Prop
 | .box l=>∃ us,ObjIs h[γ.β c]? us∧All2 (DenA γ) l us
 | .row e t xs=>∃ cells,Owns h n0 e (sz t) (γ.σ c) cells∧RowC γ.M t xs cells∧xs.length≤140737488355328∧(γ.σ c).len=xs.length
 | .fz t xs=>Rd γ.M (.row t) xs [slV (γ.σ c)]
def blk (γ:Gh) (c:Nat):Ch→Option Nat
 | .box _=>some (γ.β c)
 | .row _ _ _=>(γ.σ c).a.map (·.block)
 | .fz _ _=>none
structure Inv (h0:Heap) (W:Nat→Prop) (M0:Fr) (cs:CS) (γ:Gh) (h:Heap):Prop where
 ag:AgM γ.M h
 frame:∀ i,i < h0.size→¬ W i→h[i]?=h0[i]?
 size:h0.size≤h.size
 old:∀ b,b < h0.size→γ.M b=M0 b
 le:Fr.le M0 γ.M
 den:∀ x∈cs,DenC h0.size γ h x.1 x.2
 sep:∀ x∈cs,∀ b,blk γ x.1 x.2=some b→(h0.size≤b∨W b)∧γ.M b=none
 apart:cs.Pairwise fun x y=>∀ b,blk γ x.1 x.2=some b→blk γ y.1 y.2≠some b
variable {h0 : Heap} {W : Nat → Prop} {M0 : Fr}
theorem DenC.lt {n0:Nat} {γ:Gh} {h:Heap} {c:Nat} {k:Ch} (H:DenC n0 γ h c k):∀ b,blk γ c k=some b→b < h.size:=by
 intro b hb
 cases k with
 | box l=>
  obtain⟨us,e,_⟩:=H
  simp only [blk,Option.some.injEq] at hb
  subst hb
  rcases e with⟨⟨T,e⟩,_⟩| ⟨s,p,_,e⟩
  ·exact(Array.getElem?_eq_some_iff.1 e).1
  ·exact(Array.getElem?_eq_some_iff.1 e).1
 | row e t xs=>
  obtain⟨cells,h1,_⟩:=H
  simp only [blk,Option.map_eq_some_iff] at hb
  obtain⟨p,hp,rfl⟩:=hb
  exact(h1.base_le p hp).2
 | fz t xs=>cases hb
theorem DenC.gx {n0:Nat} {c:Option Nat} {γ γ':Gh} {h h':Heap} (g:Gx c γ γ') {j:Nat} {k:Ch} (hj:c≠some j) (hm:menO menCh c k=false) (H:DenC n0 γ h j k) (hb:∀ b,blk γ j k=some b→h'[b]?=h[b]?):DenC n0 γ' h' j k:=by
 obtain⟨e1,e2⟩:=g.2 j hj
 cases k with
 | box l=>
  obtain⟨us,e,h1⟩:=H
  exact⟨us,by rw [e1,hb _ rfl];exact e,DenL.gx g (by cases c <;> exact hm) h1⟩
 | row e t xs=>
  obtain⟨cells,h1,h2,h3,h4⟩:=H
  refine⟨cells,?_,h2.mono g.1,h3,by rw [e2];exact h4⟩
  rw [e2]
  exact h1.keep fun p hp=>hb _ (by simp [blk,hp])
 | fz t xs=>simp only [DenC,e2];exact Rd.mono g.1 H
theorem blk_gx {c:Option Nat} {γ γ':Gh} (g:Gx c γ γ') {j:Nat} (k:Ch) (hj:c≠some j):blk γ' j k=blk γ j k:=by
 obtain⟨e1,e2⟩:=g.2 j hj
 cases k <;> simp [blk,e1,e2]
theorem Inv.rest {cs rest:CS} {γ γ':Gh} {h h':Heap} (I:Inv h0 W M0 cs γ h) (hsub:rest.Sublist cs) {c:Option Nat} (g:Gx c γ γ')
  (hmen:∀ x∈rest,c≠some x.1∧menO menCh c x.2=false) (hk:∀ x∈rest,∀ b,blk γ x.1 x.2=some b→h'[b]?=h[b]?∧γ'.M b=none)
  (ag:AgM γ'.M h') (hframe:∀ i,i < h0.size→¬ W i→h'[i]?=h[i]?) (hsize:h.size≤h'.size) (hold:∀ b,b < h0.size→γ'.M b=γ.M b):Inv h0 W M0 rest γ' h' where
 ag:=ag
 frame:=fun i hi hw=>(hframe i hi hw).trans (I.frame i hi hw)
 size:=Nat.le_trans I.size hsize
 old:=fun b hb=>(hold b hb).trans (I.old b hb)
 le:=I.le.trans g.1
 den:=fun x hx=>(I.den x (hsub.subset hx)).gx g (hmen x hx).1 (hmen x hx).2 fun b hb=>(hk x hx b hb).1
 sep:=fun x hx b hb=>by
  rw [blk_gx g _ (hmen x hx).1] at hb
  exact⟨(I.sep x (hsub.subset hx) b hb).1,(hk x hx b hb).2⟩
 apart:=by
  refine(I.apart.sublist hsub).imp_of_mem fun {x y} hx hy h=>?_
  intro b hb
  rw [blk_gx g _ (hmen x hx).1] at hb
  rw [blk_gx g _ (hmen y hy).1]
  exact h b hb
theorem Inv.cons {rest:CS} {γ:Gh} {h:Heap} (I:Inv h0 W M0 rest γ h) {c:Nat} {k:Ch} (hd:DenC h0.size γ h c k) (hs:∀ b,blk γ c k=some b→(h0.size≤b∨W b)∧γ.M b=none)
  (ha:∀ b,blk γ c k=some b→∀ x∈rest,blk γ x.1 x.2≠some b):Inv h0 W M0 ((c,k)::rest) γ h where
 ag:=I.ag
 frame:=I.frame
 size:=I.size
 old:=I.old
 le:=I.le
 den:=fun x hx=>by rcases List.mem_cons.1 hx with rfl | hx;exact hd;exact I.den x hx
 sep:=fun x hx=>by rcases List.mem_cons.1 hx with rfl | hx;exact hs;exact I.sep x hx
 apart:=List.pairwise_cons.2 ⟨fun y hy b hb=>ha b hb y hy,I.apart⟩
theorem Inv.sub {cs rest:CS} {γ:Gh} {h:Heap} (I:Inv h0 W M0 cs γ h) (hsub:rest.Sublist cs):Inv h0 W M0 rest γ h where
 ag:=I.ag
 frame:=I.frame
 size:=I.size
 old:=I.old
 le:=I.le
 den:=fun x hx=>I.den x (hsub.subset hx)
 sep:=fun x hx=>I.sep x (hsub.subset hx)
 apart:=I.apart.sublist hsub
theorem Inv.fz {cs:CS} {γ:Gh} {h:Heap} (I:Inv h0 W M0 cs γ h):FzOk γ cs:=fun c t xs hm=>I.den _ hm
theorem Inv.call {cs:CS} {γ:Gh} {h h':Heap} (I:Inv h0 W M0 cs γ h) (k:Keep h.size h h') {M':Fr} (hM:Fr.le γ.M M') (hold:∀ b,b < h.size→M' b=γ.M b) (ag:AgM M' h'):Inv h0 W M0 cs { γ with M:=M' } h':=
 I.rest (List.Sublist.refl _) (c:=none) ⟨hM,fun _ _=>⟨rfl,rfl⟩⟩ (fun x _=>⟨by simp,rfl⟩)
  (fun x hx b hb=>by
   have hlt:=(I.den x hx).lt b hb
   exact⟨k.get b hlt,(hold b hlt).trans (I.sep x hx b hb).2⟩) ag (fun i hi _=>k.get i (Nat.lt_of_lt_of_le hi I.size)) k.size (fun b hb=>hold b (Nat.lt_of_lt_of_le hb I.size))
def purgeC (c:Nat):CS→CS
 | []=>[]
 | (j,k)::l=>bif (bif Nat.beq j c then true else menCh c k) then purgeC c l else(j,k)::purgeC c l
def noneC (c:Nat):CS→Bool
 | []=>true
 | (j,k)::l=>bif (bif Nat.beq j c then true else menCh c k) then false else noneC c l
def delC (c:Nat):CS→CS
 | []=>[]
 | (j,k)::l=>bif Nat.beq j c then delC c l else(j,k)::delC c l
theorem purgeC_sub (c:Nat):∀ l:CS,(purgeC c l).Sublist l
 | []=>.slnil
 | (j,k)::l=>by
  simp only [purgeC]
  cases(bif Nat.beq j c then true else menCh c k) with
  | true=>exact(purgeC_sub c l).cons _
  | false=>exact(purgeC_sub c l).cons_cons _
theorem delC_sub (c:Nat):∀ l:CS,(delC c l).Sublist l
 | []=>.slnil
 | (j,k)::l=>by
  simp only [delC]
  cases Nat.beq j c with
  | true=>exact(delC_sub c l).cons _
  | false=>exact(delC_sub c l).cons_cons _
theorem purgeC_mem {c:Nat}:∀ {l:CS} {x:Nat×Ch},x∈purgeC c l→some c≠some x.1∧menCh c x.2=false
 | (j,k)::l,x,h=>by
  simp only [purgeC] at h
  cases hb:(bif Nat.beq j c then true else menCh c k) with
  | true=>rw [hb] at h;exact purgeC_mem h
  | false=>
   rw [hb] at h
   rcases List.mem_cons.1 h with rfl | h
   ·cases hj:Nat.beq j c with
    | true=>simp [hj] at hb
    | false=>simp only [hj,cond_false] at hb;exact⟨beq_ne hj,hb⟩
   ·exact purgeC_mem h
theorem noneC_mem {c:Nat}:∀ {l:CS},noneC c l=true→∀ x∈l,some c≠some x.1∧menCh c x.2=false
 | [],_,x,h=>by cases h
 | (j,k)::l,hn,x,h=>by
  simp only [noneC] at hn
  cases hb:(bif Nat.beq j c then true else menCh c k) with
  | true=>rw [hb] at hn;cases hn
  | false=>
   rw [hb] at hn
   rcases List.mem_cons.1 h with rfl | h
   ·cases hj:Nat.beq j c with
    | true=>simp [hj] at hb
    | false=>simp only [hj,cond_false] at hb;exact⟨beq_ne hj,hb⟩
   ·exact noneC_mem hn x h
theorem delC_mem {c:Nat}:∀ {l:CS} {x:Nat×Ch},x∈delC c l→x∈l∧x.1≠c
 | (j,k)::l,x,h=>by
  simp only [delC] at h
  cases hb:Nat.beq j c with
  | true=>rw [hb] at h;exact⟨List.mem_cons_of_mem _ (delC_mem h).1,(delC_mem h).2⟩
  | false=>
   rw [hb] at h
   rcases List.mem_cons.1 h with rfl | h
   ·refine⟨List.mem_cons_self,fun e=>?_⟩
    simp only at e
    subst e
    simp at hb
   ·exact⟨List.mem_cons_of_mem _ (delC_mem h).1,(delC_mem h).2⟩
def setβ (γ:Gh) (c b:Nat):Gh:={ γ with β:=fun i=>bif Nat.beq i c then b else γ.β i }
def setσ (γ:Gh) (c:Nat) (s:Sl):Gh:={ γ with σ:=fun i=>bif Nat.beq i c then s else γ.σ i }
theorem setβ_gx (γ:Gh) (c b:Nat):Gx (some c) γ (setβ γ c b):=⟨Fr.le.refl _,fun i hi=>by
 have:Nat.beq i c=false:=by
  cases h:Nat.beq i c with
  | false=>rfl
  | true=>exact absurd (congrArg some (Nat.eq_of_beq_eq_true h).symm) hi
 simp [setβ,this]⟩
theorem setσ_gx (γ:Gh) (c:Nat) (s:Sl):Gx (some c) γ (setσ γ c s):=⟨Fr.le.refl _,fun i hi=>by
 have:Nat.beq i c=false:=by
  cases h:Nat.beq i c with
  | false=>rfl
  | true=>exact absurd (congrArg some (Nat.eq_of_beq_eq_true h).symm) hi
 simp [setσ,this]⟩
theorem setβ_same (γ:Gh) (c b:Nat):(setβ γ c b).β c=b:=by simp [setβ]
theorem setσ_same (γ:Gh) (c:Nat) (s:Sl):(setσ γ c s).σ c=s:=by simp [setσ]
theorem mem_pur {c:Nat} {C R:CS} (hR:noneC c R=true):∀ x∈purgeC c C++R,some c≠some x.1∧menO menCh (some c) x.2=false:=by
 intro x hx
 rcases List.mem_append.1 hx with hx | hx
 ·exact purgeC_mem hx
 ·exact noneC_mem hR x hx
theorem Inv.newBoxO {C R:CS} {γ:Gh} {h:Heap} (I:Inv h0 W M0 (C++R) γ h) {c:Nat} (hR:noneC c R=true) {l:List AA} {us:List Value} (hd:All2 (DenA γ) l us) (hl:menL c l=false) {ob:Obj} (hob:ObjIs (some ob) us):
  Inv h0 W M0 ((c,.box l)::purgeC c C++R) (setβ γ c h.size) (h.push ob):=by
 have hlt:∀ x∈purgeC c C++R,∀ b,blk γ x.1 x.2=some b→b < h.size:=fun x hx b hb=>(I.den x (((purgeC_sub c C).append_right R).subset hx)).lt b hb
 have hI:Inv h0 W M0 (purgeC c C++R) (setβ γ c h.size) (h.push ob):=by
  refine I.rest ((purgeC_sub c C).append_right R) (setβ_gx γ c h.size) (mem_pur hR) (fun x hx b hb=>?_) (fun b cc e=>?_) (fun i hi _=>?_) (by simp) (fun b hb=>rfl)
  ·have:=hlt x hx b hb
   exact⟨by rw [Array.getElem?_push,if_neg (by omega)],(I.sep x (((purgeC_sub c C).append_right R).subset hx) b hb).2⟩
  ·have:=I.ag.lt e
   obtain⟨T',m,e'⟩:=I.ag b cc e
   exact⟨T',m,by rw [Array.getElem?_push,if_neg (by omega)];exact e'⟩
  ·have:=I.size
   rw [Array.getElem?_push,if_neg (by omega)]
 refine hI.cons ⟨us,by rw [setβ_same,get_push];exact hob,DenL.gx (setβ_gx γ c h.size) hl hd⟩ (fun b hb=>?_) (fun b hb x hx e=>?_)
 ·simp only [blk,setβ_same,Option.some.injEq] at hb
  subst hb
  exact⟨.inl I.size,I.ag.none (Nat.le_refl _)⟩
 ·simp only [blk,setβ_same,Option.some.injEq] at hb
  subst hb
  rw [blk_gx (setβ_gx γ c h.size) _ (mem_pur hR x hx).1] at e
  have:=hlt x hx _ e
  omega
theorem Inv.newBox {C R:CS} {γ:Gh} {h:Heap} (I:Inv h0 W M0 (C++R) γ h) {c:Nat} (hR:noneC c R=true) {l:List AA} {us:List Value} (hd:All2 (DenA γ) l us) (hl:menL c l=false) (hit:itB l=false) (T:TypeId):
  Inv h0 W M0 ((c,.box l)::purgeC c C++R) (setβ γ c h.size) (h.push (.cells us.toArray T)):=
 Inv.newBoxO I hR hd hl (.inl ⟨⟨T,rfl⟩,fun s p=>itB_no hit hd s p⟩)
theorem pair_mem {α:Type} {R:α→α→Prop} (hs:∀ x y,R x y→R y x):∀ {l:List α},l.Pairwise R→∀ {x y:α},x∈l→y∈l→x≠y→R x y
 | [],_,_,_,hx,_,_=>by cases hx
 | z::l,h,x,y,hx,hy,hne=>by
  rw [List.pairwise_cons] at h
  rcases List.mem_cons.1 hx with e1 | h1
  ·rcases List.mem_cons.1 hy with e2 | h2
   ·exact absurd (e1.trans e2.symm) hne
   ·rw [e1];exact h.1 _ h2
  ·rcases List.mem_cons.1 hy with e2 | h2
   ·rw [e2];exact hs _ _ (h.1 _ h1)
   ·exact pair_mem hs h.2 h1 h2 hne
theorem Inv.setBox {C R:CS} {γ:Gh} {h h':Heap} (I:Inv h0 W M0 (C++R) γ h) {c:Nat} {l l':List AA} (hc:(c,Ch.box l)∈C) {us:List Value} (e:ObjIs h'[γ.β c]? us)
  (ho:∀ i,i≠γ.β c→h'[i]?=h[i]?) (hs:h'.size=h.size) (hd:All2 (DenA γ) l' us) (hR:∀ x∈R,x.1≠c):Inv h0 W M0 ((c,.box l')::delC c C++R) γ h':=by
 have hsep:=I.sep _ (List.mem_append_left R hc) _ rfl
 have hap:∀ x∈delC c C++R,blk γ x.1 x.2≠some (γ.β c):=by
  intro x hx
  have hne:x≠(c,Ch.box l):=by
   rintro rfl
   rcases List.mem_append.1 hx with hx | hx
   ·exact(delC_mem hx).2 rfl
   ·exact hR _ hx rfl
  have hx':x∈C++R:=((delC_sub c C).append_right R).subset hx
  have hp:=@pair_mem _ (fun(x y:Nat×Ch)=>∀ b,blk γ x.1 x.2=some b→blk γ y.1 y.2≠some b) (fun x y h b hb hb'=>h b hb' hb) _ I.apart
  intro hb
  exact hp (List.mem_append_left R hc) hx' (fun e=>hne e.symm) _ rfl hb
 have hI:Inv h0 W M0 (delC c C++R) γ h':=by
  refine I.rest ((delC_sub c C).append_right R) (c:=none) (Gx.refl _ _) (fun x _=>⟨by simp,rfl⟩) (fun x hx b hb=>?_) (fun b cc eM=>?_) (fun i hi hw=>?_) (by omega) (fun b hb=>rfl)
  ·exact⟨ho b fun e'=>hap x hx (e' ▸ hb),(I.sep x (((delC_sub c C).append_right R).subset hx) b hb).2⟩
  ·obtain⟨T',m,e'⟩:=I.ag b cc eM
   exact⟨T',m,by rw [ho b fun e2=>by rw [e2,hsep.2] at eM;cases eM];exact e'⟩
  ·refine ho i fun e'=>?_
   have h2:=hsep.1
   simp only at h2
   rcases h2 with h1 | h1
   ·omega
   ·rw [e'] at hw;exact hw h1
 refine hI.cons ⟨us,e,hd⟩ (fun b hb=>?_) (fun b hb x hx=>?_)
 ·simp only [blk,Option.some.injEq] at hb;subst hb;exact hsep
 ·simp only [blk,Option.some.injEq] at hb;subst hb;exact hap x hx
theorem Inv.newRow {C R:CS} {γ:Gh} {h h':Heap} (I:Inv h0 W M0 (C++R) γ h) {c:Nat} (hR:noneC c R=true) (hs:h.size≤h'.size) {p:Option Nat} (ho:∀ i,i < h.size→p≠some i→h'[i]?=h[i]?)
  (hp:∀ b,p=some b→h0.size≤b∧γ.M b=none∧∀ x∈C++R,blk γ x.1 x.2≠some b) {s:Sl} {e:TypeId} {t:Ty} {xs:List (El t)} {cells:List Value} (hown:Owns h' h0.size e (sz t) s cells)
  (hb:∀ q,s.a=some q→p=some q.block∨q.block=h.size) (hrow:RowC γ.M t xs cells) (hn:xs.length≤140737488355328) (hl:s.len=xs.length):
  Inv h0 W M0 ((c,.row e t xs)::purgeC c C++R) (setσ γ c s) h':=by
 have hsub:=(purgeC_sub c C).append_right R
 have hlt:∀ x∈purgeC c C++R,∀ b,blk γ x.1 x.2=some b→b < h.size:=fun x hx b hb=>(I.den x (hsub.subset hx)).lt b hb
 have hI:Inv h0 W M0 (purgeC c C++R) (setσ γ c s) h':=by
  refine I.rest hsub (setσ_gx γ c s) (mem_pur hR) (fun x hx b hb=>?_) (fun b cc eM=>?_) (fun i hi hw=>?_) hs (fun b hb=>rfl)
  ·exact⟨ho b (hlt x hx b hb) fun e'=>(hp b e').2.2 x (hsub.subset hx) hb,(I.sep x (hsub.subset hx) b hb).2⟩
  ·obtain⟨T',m,e'⟩:=I.ag b cc eM
   exact⟨T',m,by rw [ho b (I.ag.lt eM) fun e2=>by have:=(hp b e2).2.1;rw [show γ.M b=some cc from eM] at this;cases this];exact e'⟩
  ·have:=I.size
   refine ho i (by omega) fun e'=>?_
   have:=(hp i e').1
   omega
 refine hI.cons ⟨cells,by rw [setσ_same];exact hown,hrow,hn,by rw [setσ_same];exact hl⟩ (fun b hb'=>?_) (fun b hb' x hx e'=>?_)
 ·simp only [blk,setσ_same,Option.map_eq_some_iff] at hb'
  obtain⟨q,hq,rfl⟩:=hb'
  rcases hb q hq with h1 | h1
  ·exact⟨.inl (hp _ h1).1,(hp _ h1).2.1⟩
  ·rw [h1];exact⟨.inl I.size,I.ag.none (Nat.le_refl _)⟩
 ·simp only [blk,setσ_same,Option.map_eq_some_iff] at hb'
  obtain⟨q,hq,rfl⟩:=hb'
  rw [blk_gx (setσ_gx γ c s) _ (mem_pur hR x hx).1] at e'
  rcases hb q hq with h1 | h1
  ·exact(hp _ h1).2.2 x (hsub.subset hx) e'
  ·rw [h1] at e';have:=hlt x hx _ e';omega
def frzC (c:Nat):CS→CS
 | []=>[]
 | (j,k)::l=>bif Nat.beq j c then(match k with
  | .row _ t xs=>(j,.fz t xs)::frzC c l
  | k=>(j,k)::frzC c l) else(j,k)::frzC c l
def setM (γ:Gh) (b:Nat) (cs:Array Value):Gh:={ γ with M:=fun i=>bif Nat.beq i b then some cs else γ.M i }
theorem Inv.freeze1 {A C:CS} {γ:Gh} {h:Heap} {c:Nat} {e:TypeId} {t:Ty} {xs:List (El t)} (I:Inv h0 W M0 (A++(c,.row e t xs)::C) γ h):∃ γ',Inv h0 W M0 (A++(c,.fz t xs)::C) γ' h∧Gx none γ γ':=by
 obtain⟨cells,hown,hrow,hn,hl⟩:=I.den (c,.row e t xs) (by simp)
 have hlen:=hrow.1
 rcases hown.2 with⟨hv,h1⟩| ⟨g,cap,cur,hv,hbg,hg,hnc,hcap,hcs,htake⟩
 ·refine⟨γ,?_,Gx.refl _ _⟩
  have h0':xs=[]:=List.eq_nil_of_length_eq_zero (by omega)
  have hd:DenC h0.size γ h c (.fz t xs):=by
   subst h0'
   simp only [Value.slice.injEq] at hv
   exact⟨_,rfl,none,0,by simp [slV,hv],⟨by simp,by simp⟩,.inl rfl⟩
  have hmem:∀ x,x∈A++(c,Ch.fz t xs)::C→x∈A++(c,Ch.row e t xs)::C∨x=(c,Ch.fz t xs):=by
   intro x hx
   simp only [List.mem_append,List.mem_cons] at hx ⊢
   rcases hx with h | h | h
   ·exact .inl (.inl h)
   ·exact .inr h
   ·exact .inl (.inr (.inr h))
  refine⟨I.ag,I.frame,I.size,I.old,I.le,fun x hx=>?_,fun x hx b hb=>?_,?_⟩
  ·rcases hmem x hx with h | rfl
   ·exact I.den x h
   ·exact hd
  ·rcases hmem x hx with h | rfl
   ·exact I.sep x h b hb
   ·cases hb
  ·have:=I.apart
   simp only [List.pairwise_append,List.pairwise_cons] at this ⊢
   obtain⟨a1,⟨a2,a3⟩,a4⟩:=this
   refine⟨a1,⟨fun y hy b hb=>(by simp [blk] at hb),a3⟩,fun x hx y hy b hb=>?_⟩
   rcases List.mem_cons.1 hy with rfl | hy
   ·simp [blk]
   ·exact a4 x hx y (List.mem_cons_of_mem _ hy) b hb
 ·simp only [Value.slice.injEq] at hv
  have hgM:γ.M g=none:=(I.sep (c,.row e t xs) (by simp) g (by simp [blk,hv.1])).2
  have hle:Fr.le γ.M (setM γ g cur).M:=by
   intro b cc eM
   have:Nat.beq b g=false:=by
    cases hb:Nat.beq b g with
    | false=>rfl
    | true=>rw [Nat.eq_of_beq_eq_true hb,hgM] at eM;cases eM
   simp [setM,this,eM]
  have gx:Gx none γ (setM γ g cur):=⟨hle,fun _ _=>⟨rfl,rfl⟩⟩
  have hglt:g < h.size:=(Array.getElem?_eq_some_iff.1 hg).1
  have hne:∀ x,x∈A++C→blk γ x.1 x.2≠some g:=by
   intro x hx
   have:=I.apart
   simp only [List.pairwise_append,List.pairwise_cons] at this
   obtain⟨a1,⟨a2,a3⟩,a4⟩:=this
   rcases List.mem_append.1 hx with hx | hx
   ·intro hb
    exact a4 x hx (c,.row e t xs) List.mem_cons_self g hb (by simp [blk,hv.1])
   ·exact a2 x hx g (by simp [blk,hv.1])
  have hMg:∀ b,b≠g→(setM γ g cur).M b=γ.M b:=by
   intro b hb
   have:Nat.beq b g=false:=by
    cases h:Nat.beq b g with
    | false=>rfl
    | true=>exact absurd (Nat.eq_of_beq_eq_true h) hb
   simp [setM,this]
  have hI:Inv h0 W M0 (A++C) (setM γ g cur) h:=by
   refine I.rest (by simp) gx (fun x _=>⟨by simp,rfl⟩) (fun x hx b hb=>?_) (fun b cc eM=>?_) (fun _ _ _=>rfl) (Nat.le_refl _) (fun b hb=>hMg b (by omega))
   ·have hbg:b≠g:=fun e'=>hne x hx (e' ▸ hb)
    refine⟨rfl,(hMg b hbg).trans (I.sep x ?_ b hb).2⟩
    simp only [List.mem_append,List.mem_cons] at hx ⊢
    rcases hx with h | h
    ·exact .inl h
    ·exact .inr (.inr h)
   ·by_cases hbg:b=g
    ·subst hbg
     have:cc=cur:=by simp [setM] at eM;exact eM.symm
     subst this
     exact⟨_,_,hg⟩
    ·rw [hMg b hbg] at eM;exact I.ag b cc eM
  refine⟨setM γ g cur,?_,gx⟩
  have hd:DenC h0.size (setM γ g cur) h c (.fz t xs):=by
   have:=(hrow.mono hle).rd (b:=g) (o:=0) (c:=cap) (cs:=cur) (by simp [setM]) (by rw [List.drop_zero,← hl];exact htake) ⟨hn,by omega⟩
   show Rd _ _ _ [slV (γ.σ c)]
   have e3:slV (γ.σ c)=.slice (some ⟨g,0,none⟩) xs.length cap:=by
    unfold slV;rw [hv.1,hl,hv.2.2]
   rw [e3];exact this
  have hmem:∀ x,x∈A++(c,Ch.fz t xs)::C→x∈A++C∨x=(c,Ch.fz t xs):=by
   intro x hx
   simp only [List.mem_append,List.mem_cons] at hx ⊢
   rcases hx with h | h | h
   ·exact .inl (.inl h)
   ·exact .inr h
   ·exact .inl (.inr h)
  refine⟨hI.ag,hI.frame,hI.size,hI.old,hI.le,fun x hx=>?_,fun x hx b hb=>?_,?_⟩
  ·rcases hmem x hx with h | rfl
   ·exact hI.den x h
   ·exact hd
  ·rcases hmem x hx with h | rfl
   ·exact hI.sep x h b hb
   ·cases hb
  ·have:=hI.apart
   simp only [List.pairwise_append,List.pairwise_cons] at this ⊢
   obtain⟨a1,a3,a4⟩:=this
   refine⟨a1,⟨fun y hy b hb=>(by simp [blk] at hb),a3⟩,fun x hx y hy b hb=>?_⟩
   rcases List.mem_cons.1 hy with rfl | hy
   ·simp [blk]
   ·exact a4 x hx y hy b hb
theorem Inv.freeze {R:CS} {h:Heap} (c:Nat):∀ (C A:CS) {γ:Gh},Inv h0 W M0 (A++C++R) γ h→∃ γ',Inv h0 W M0 (A++frzC c C++R) γ' h∧Gx none γ γ'
 | [],A,γ,I=>⟨γ,I,Gx.refl _ _⟩
 | (j,k)::l,A,γ,I=>by
  have go:∀ (k:Ch) {γ:Gh},Inv h0 W M0 (A++(j,k)::l++R) γ h→∃ γ',Inv h0 W M0 (A++(j,k)::frzC c l++R) γ' h∧Gx none γ γ':=by
   intro k γ I
   have:=Inv.freeze c l (A++[(j,k)]) (R:=R) (γ:=γ) (by simpa using I)
   simpa using this
  simp only [frzC]
  cases Nat.beq j c with
  | true=>
   cases k with
   | row e t xs=>
    obtain⟨γ1,I1,g1⟩:=Inv.freeze1 (A:=A) (C:=l++R) (γ:=γ) (by simpa using I)
    obtain⟨γ2,I2,g2⟩:=go (.fz t xs) (γ:=γ1) (by simpa using I1)
    exact⟨γ2,I2,g1.1.trans g2.1,fun i hi=>⟨(g2.2 i hi).1.trans (g1.2 i hi).1,(g2.2 i hi).2.trans (g1.2 i hi).2⟩⟩
   | box l'=>exact go _ I
   | fz t xs=>exact go _ I
  | false=>exact go _ I
end Go.X
end
section
namespace Go.X
open Go
set_option linter.unusedVariables false
abbrev EnvA:=List (Nat×Chain×AV)
def lookA:EnvA→Nat→Option (Chain×AV)
 | [],_=>none
 | (j,c,v)::e,i=>bif Nat.beq i j then some (c,v) else lookA e i
def factA (γ:Gh) (σ:Nat→Value) (x:Nat×Chain×AV):Prop:=(valid σ x.2.1→DenV γ x.2.2 (σ x.1))∧(¬ valid σ x.2.1→σ x.1=undef)
structure SatA (n:Nat) (e:EnvA) (γ:Gh) (a:Act):Prop where
 defers:a.defers=[]
 size:a.tmps.size=n
 all:∀ x∈e,factA γ (vals a) x
def delA:EnvA→Nat→EnvA
 | [],_=>[]
 | (j,c,v)::e,i=>bif (bif Nat.beq i j then true else mentions c i) then delA e i else(j,c,v)::delA e i
def putA (e:EnvA) (i:Nat) (c:Chain) (v:AV):EnvA:=(i,c,v)::delA e i
def putOA (e:EnvA):Option Nat→Chain→AV→EnvA
 | none,_,_=>e
 | some d,c,v=>putA e d c v
def cleanA:EnvA→EnvA
 | []=>[]
 | (j,[],v)::e=>(j,[],v)::cleanA e
 | (_,_::_,_)::e=>cleanA e
def purge1 (c:Nat):EnvA→EnvA
 | []=>[]
 | (j,ch,v)::e=>bif menV c v then purge1 c e else(j,ch,v)::purge1 c e
def purgeE:Option Nat→EnvA→EnvA
 | none,e=>e
 | some c,e=>purge1 c e
theorem lookA_mem {e:EnvA} {i:Nat} {c:Chain} {v:AV} (h:lookA e i=some (c,v)):(i,c,v)∈e:=by
 induction e with
 | nil=>cases h
 | cons x e ih=>
  obtain⟨j,cj,vj⟩:=x
  simp only [lookA] at h
  by_cases hb:Nat.beq i j=true
  ·simp only [hb,cond_true,Option.some.injEq,Prod.mk.injEq] at h
   obtain⟨rfl,rfl⟩:=h
   rw [Nat.eq_of_beq_eq_true hb]
   exact List.mem_cons_self
  ·simp only [hb,cond_false] at h
   exact List.mem_cons_of_mem _ (ih h)
theorem mem_delA {e:EnvA} {i:Nat} {x:Nat×Chain×AV} (h:x∈delA e i):x∈e∧x.1≠i∧mentions x.2.1 i=false:=by
 induction e with
 | nil=>cases h
 | cons y e ih=>
  obtain⟨j,cj,vj⟩:=y
  simp only [delA] at h
  by_cases hb:Nat.beq i j=true
  ·simp only [hb,cond_true] at h
   exact⟨List.mem_cons_of_mem _ (ih h).1,(ih h).2⟩
  ·have hb':Nat.beq i j=false:=Bool.eq_false_iff.2 hb
   simp only [hb',cond_false] at h
   by_cases hm:mentions cj i=true
   ·simp only [hm,cond_true] at h
    exact⟨List.mem_cons_of_mem _ (ih h).1,(ih h).2⟩
   ·have hm':mentions cj i=false:=by simpa using hm
    simp only [hm',cond_false] at h
    rcases List.mem_cons.1 h with rfl | h
    ·refine⟨List.mem_cons_self,fun hji=>?_,hm'⟩
     simp only at hji
     rw [hji] at hb
     exact hb (by simp)
    ·exact⟨List.mem_cons_of_mem _ (ih h).1,(ih h).2⟩
theorem mem_cleanA {e:EnvA} {x:Nat×Chain×AV} (h:x∈cleanA e):x∈e∧x.2.1=[]:=by
 induction e with
 | nil=>cases h
 | cons y e ih=>
  obtain⟨j,cj,vj⟩:=y
  cases cj with
  | nil=>
   simp only [cleanA] at h
   rcases List.mem_cons.1 h with rfl | h
   ·exact⟨List.mem_cons_self,rfl⟩
   ·exact⟨List.mem_cons_of_mem _ (ih h).1,(ih h).2⟩
  | cons c cs=>
   simp only [cleanA] at h
   exact⟨List.mem_cons_of_mem _ (ih h).1,(ih h).2⟩
theorem mem_purgeE {c:Option Nat} {e:EnvA} {x:Nat×Chain×AV} (h:x∈purgeE c e):x∈e∧menO menV c x.2.2=false:=by
 cases c with
 | none=>exact⟨h,rfl⟩
 | some c=>
  have key:∀ e:EnvA,x∈purge1 c e→x∈e∧menV c x.2.2=false:=by
   intro e
   induction e with
   | nil=>intro h;cases h
   | cons y e ih=>
    obtain⟨j,cj,vj⟩:=y
    intro h
    simp only [purge1] at h
    cases hm:menV c vj with
    | true=>rw [hm] at h;exact⟨List.mem_cons_of_mem _ (ih h).1,(ih h).2⟩
    | false=>
     rw [hm] at h
     rcases List.mem_cons.1 h with rfl | h
     ·exact⟨List.mem_cons_self,hm⟩
     ·exact⟨List.mem_cons_of_mem _ (ih h).1,(ih h).2⟩
  exact key e h
theorem SatA.sub {n:Nat} {e e':EnvA} {γ:Gh} {a:Act} (h:SatA n e γ a) (hs:∀ x∈e',x∈e):SatA n e' γ a:=⟨h.defers,h.size,fun x hx=>h.all x (hs x hx)⟩
theorem SatA.clean {n:Nat} {e:EnvA} {γ:Gh} {a:Act} (h:SatA n e γ a):SatA n (cleanA e) γ a:=h.sub fun _ hx=>(mem_cleanA hx).1
theorem SatA.gx {n:Nat} {e:EnvA} {γ γ':Gh} {a:Act} {c:Option Nat} (h:SatA n e γ a) (g:Gx c γ γ'):SatA n (purgeE c e) γ' a:=
 ⟨h.defers,h.size,fun x hx=>by
  obtain⟨h1,h2⟩:=mem_purgeE hx
  exact⟨fun hv=>((h.all x h1).1 hv).gx g h2,(h.all x h1).2⟩⟩
theorem SatA.gx0 {n:Nat} {e:EnvA} {γ γ':Gh} {a:Act} (h:SatA n e γ a) (g:Gx none γ γ'):SatA n e γ' a:=h.gx g
theorem SatA.put {n:Nat} {e:EnvA} {γ:Gh} {a:Act} (h:SatA n e γ a) {i:Nat} {c:Chain} {v:AV} {u:Value} (hi:i < n) (hm:mentions c i=false)
  (hy:valid (vals a) c→DenV γ v u) (hn:¬ valid (vals a) c→u=undef):SatA n (putA e i c v) γ (a.put (some i) u):=by
 refine⟨by rw [defers_put];exact h.defers,by rw [size_put];exact h.size,fun x hx=>?_⟩
 have hi':i < a.tmps.size:=by rw [h.size];exact hi
 rcases List.mem_cons.1 hx with rfl | hx
 ·have hv:=valid_congr (σ:=vals (a.put (some i) u)) (τ:=vals a) hm (fun j hj=>vals_put_ne hj)
  refine⟨fun hc=>?_,fun hc=>?_⟩
  ·simp only;rw [vals_put hi'];exact hy (hv.1 hc)
  ·exact(vals_put hi').trans (hn (fun hc'=>hc (hv.2 hc')))
 ·obtain⟨h1,h2,h3⟩:=mem_delA hx
  have hv:=valid_congr (σ:=vals (a.put (some i) u)) (τ:=vals a) h3 (fun j hj=>vals_put_ne hj)
  have hf:=h.all x h1
  refine⟨fun hc=>?_,fun hc=>?_⟩
  ·rw [vals_put_ne h2];exact hf.1 (hv.1 hc)
  ·exact(vals_put_ne h2).trans (hf.2 (fun hc'=>hc (hv.2 hc')))
theorem SatA.putO {n:Nat} {e:EnvA} {γ:Gh} {a:Act} (h:SatA n e γ a) {d:Option Nat} {c:Chain} {v:AV} {u:Value} (hd:okDst n c d=true)
  (hy:valid (vals a) c→DenV γ v u) (hn:¬ valid (vals a) c→u=undef):SatA n (putOA e d c v) γ (a.put d u):=by
 cases d with
 | none=>exact h
 | some i=>
  simp only [okDst] at hd
  by_cases hm:mentions c i=true
  ·simp [hm] at hd
  ·have hm':mentions c i=false:=by simpa using hm
   simp only [hm',cond_false] at hd
   exact h.put (by simpa [Nat.blt_eq] using hd) hm' hy hn
def agOf:Value→AG
 | .agg cs=>.agg (cs.toList.map .v)
 | v=>.a (.v v)
def ofVal:Value→AV
 | .tuple vs=>.tup (vs.toList.map agOf)
 | v=>.g (agOf v)
theorem agOf_den (γ:Gh) (v:Value):DenG γ (agOf v) v:=by
 cases v with
 | agg cs=>
  refine⟨cs.toList,by simp,?_⟩
  generalize cs.toList=l
  induction l with
  | nil=>trivial
  | cons x l ih=>exact⟨rfl,ih⟩
 | _=>exact rfl
theorem ofVal_den (γ:Gh) (v:Value):DenV γ (ofVal v) v:=by
 cases v with
 | tuple vs=>
  refine⟨vs.toList,by simp,?_⟩
  generalize vs.toList=l
  induction l with
  | nil=>trivial
  | cons x l ih=>exact⟨agOf_den γ x,ih⟩
 | agg cs=>exact agOf_den γ (.agg cs)
 | _=>exact rfl
def exL:List AA→Option (List Value)
 | []=>some []
 | .v x::l=>match exL l with
  | some vs=>some (x::vs)
  | none=>none
 | _::_=>none
def exV:AV→Option Value
 | .g (.a (.v x))=>some x
 | .g (.agg l)=>match exL l with
  | some vs=>some (.agg vs.toArray)
  | none=>none
 | _=>none
theorem exL_den {γ:Gh}:∀ {l:List AA} {vs us:List Value},exL l=some vs→All2 (DenA γ) l us→us=vs
 | [],vs,[],h,_=>by simp only [exL,Option.some.injEq] at h;exact h
 | [],_,_::_,_,h=>h.elim
 | .v x::l,vs,u::us,h,hd=>by
  simp only [exL] at h
  split at h
  ·rename_i ws hw
   simp only [Option.some.injEq] at h
   subst h
   rw [show u=x from hd.1,exL_den hw hd.2]
  ·cases h
 | .v _::_,_,[],_,h=>h.elim
 | .d _ _::_,_,_,h,_=>by simp [exL] at h
 | .box _ _::_,_,_,h,_=>by simp [exL] at h
 | .own _::_,_,_,h,_=>by simp [exL] at h
 | .oelt _ _ _ _::_,_,_,h,_=>by simp [exL] at h
 | .elt _ _ _::_,_,_,h,_=>by simp [exL] at h
 | .dc _ _::_,_,_,h,_=>by simp [exL] at h
theorem exV_den {γ:Gh} {x:AV} {v u:Value} (h:exV x=some v) (hd:DenV γ x u):u=v:=by
 unfold exV at h
 split at h
 ·simp only [Option.some.injEq] at h;subst h;exact hd
 ·rename_i l
  split at h
  ·rename_i vs hv
   simp only [Option.some.injEq] at h
   subst h
   obtain⟨us,rfl,h2⟩:=hd
   rw [exL_den hv h2]
  ·cases h
 ·cases h
def opdA (e:EnvA) (c:Chain):Operand→Option AV
 | .tmp t=>match lookA e t with
  | some (cs,v)=>bif suf cs c then some v else none
  | none=>none
 | .const v=>some (ofVal v)
 | .global g=>some (.g (.a (.v (.pointer (some ⟨g,0,none⟩)))))
 | .func f=>some (.g (.a (.v (.func (.func f) #[] #[]))))
theorem opdA_sound {n:Nat} {e:EnvA} {γ:Gh} {a:Act} (h:SatA n e γ a) {c:Chain} (hc:valid (vals a) c) {x:Operand} {v:AV} (hx:opdA e c x=some v):DenV γ v (a.eval x):=by
 cases x with
 | tmp t=>
  simp only [opdA] at hx
  split at hx
  ·rename_i cs u hl
   by_cases hs:suf cs c=true
   ·simp only [hs,cond_true,Option.some.injEq] at hx
    subst hx
    exact(h.all _ (lookA_mem hl)).1 (suf_valid hs hc)
   ·simp [hs] at hx
  ·cases hx
 | const u=>simp only [opdA,Option.some.injEq] at hx;subst hx;exact ofVal_den γ u
 | global g=>simp only [opdA,Option.some.injEq] at hx;subst hx;exact rfl
 | func f=>simp only [opdA,Option.some.injEq] at hx;subst hx;exact rfl
def boolA:AV→Option Bool
 | .g (.a (.v (.bool b)))=>some b
 | _=>none
theorem boolA_den {γ:Gh} {v:AV} {b:Bool} (h:boolA v=some b) {u:Value} (hd:DenV γ v u):u=.bool b:=by
 unfold boolA at h
 split at h
 ·simp only [Option.some.injEq] at h;subst h;exact hd
 ·cases h
def chainOfA (ops:Array Oper) (e:EnvA):Option (Nat×Bool)→Option Chain
 | none=>some []
 | some (j,p)=>match dstOf ops j with
  | some g=>match lookA e g with
   | some (cg,v)=>match boolA v with
    | some _=>some ((g,p)::cg)
    | none=>none
   | none=>none
  | none=>none
def condEA (e:EnvA):Chain→Option Bool
 | []=>some true
 | (g,p)::c=>match lookA e g with
  | some (cg,v)=>match boolA v with
   | some b=>bif chainEq cg c then(match condEA e c with
    | some cb=>some (cb && (bif p then b else !b))
    | none=>none) else none
   | none=>none
  | none=>none
theorem condEA_sound {n:Nat} {e:EnvA} {γ:Gh} {a:Act} (h:SatA n e γ a):∀ {c:Chain} {b:Bool},condEA e c=some b→(b=true↔valid (vals a) c)
 | [],b,hb=>by simp only [condEA,Option.some.injEq] at hb;simp [← hb,valid]
 | (g,p)::c,b,hb=>by
  simp only [condEA] at hb
  split at hb
  ·rename_i cg v hl
   split at hb
   ·rename_i bg hbg
    by_cases hq:chainEq cg c=true
    ·simp only [hq,cond_true] at hb
     split at hb
     ·rename_i cb hcb
      simp only [Option.some.injEq] at hb
      have ih:=condEA_sound h hcb
      have hf:=h.all _ (lookA_mem hl)
      rw [chainEq_eq hq] at hf
      by_cases hv:valid (vals a) c
      ·have h1:vals a g=.bool bg:=boolA_den hbg (hf.1 hv)
       have h2:=ih.2 hv
       subst hb
       simp only [valid,h1,hv,h2,Bool.true_and,and_true,Value.bool.injEq]
       cases p <;> cases bg <;> simp
      ·have h1:cb=false:=by cases cb with | false=>rfl | true=>exact absurd (ih.1 rfl) hv
       subst hb
       simp [valid,hv,h1]
     ·cases hb
    ·simp [hq] at hb
   ·cases hb
  ·cases hb
theorem wantedA_sound {n:Nat} {ops:Array Oper} {e:EnvA} {γ:Gh} {a:Act} (h:SatA n e γ a) {o:Oper} {c:Chain} (hc:chainOfA ops e o.guard=some c):
  Region.wanted o (yielded ops a.tmps)=true↔valid (vals a) c:=by
 unfold Region.wanted
 cases hg:o.guard with
 | none=>rw [hg] at hc;simp only [chainOfA,Option.some.injEq] at hc;simp [← hc,valid]
 | some jp=>
  obtain⟨j,p⟩:=jp
  rw [hg] at hc
  simp only [chainOfA] at hc
  split at hc
  ·rename_i g hd
   split at hc
   ·rename_i cg v hl
    split at hc
    ·rename_i b hb
     simp only [Option.some.injEq] at hc
     subst hc
     have hd':((ops[j]?).bind (·.dst))=some g:=by
      simp only [dstOf] at hd
      split at hd
      ·rename_i o' ho';simp [ho',hd]
      ·cases hd
     have hf:=h.all _ (lookA_mem hl)
     have hy:yielded ops a.tmps j=some p↔vals a g=.bool p:=by
      unfold yielded vals
      rw [hd']
      simp only [Option.bind_some]
      cases ht:a.tmps[g]? with
      | none=>simp [Array.getD_eq_getD_getElem?,ht,undef]
      | some v=>cases v <;> simp [Array.getD_eq_getD_getElem?,ht]
     simp only [beq_iff_eq,hy,valid]
     constructor
     ·intro h1
      refine⟨h1,?_⟩
      by_cases hv:valid (vals a) cg
      ·exact hv
      ·have:=hf.2 hv
       simp only at this
       rw [h1] at this
       exact absurd this.symm undef_ne_bool
     ·exact fun h1=>h1.1
    ·cases hc
   ·cases hc
  ·cases hc
def condOptA (e:EnvA):Chain→Option (Option Bool)
 | []=>some none
 | c=>match condEA e c with
  | some b=>some (some b)
  | none=>none
theorem condOptA_yes {n:Nat} {e:EnvA} {γ:Gh} {a:Act} (hs:SatA n e γ a) {c:Chain} {g:Option Bool} (h:condOptA e c=some g) (hv:valid (vals a) c):gok g:=by
 unfold condOptA at h
 split at h
 ·simp only [Option.some.injEq] at h;subst h;trivial
 ·split at h
  ·rename_i b hb
   simp only [Option.some.injEq] at h
   subst h
   exact(condEA_sound hs hb).2 hv
  ·cases h
theorem condOptA_no {n:Nat} {e:EnvA} {γ:Gh} {a:Act} (hs:SatA n e γ a) {c:Chain} {g:Option Bool} (h:condOptA e c=some g) (hv:¬ valid (vals a) c):g=some false:=by
 unfold condOptA at h
 split at h
 ·exact absurd trivial hv
 ·split at h
  ·rename_i b hb
   simp only [Option.some.injEq] at h
   subst h
   cases b with
   | false=>rfl
   | true=>exact absurd ((condEA_sound hs hb).1 rfl) hv
  ·cases h
def rhoX (ρ:Operand→Option AV) (x:Operand):Value:=match ρ x with
 | some av=>match exV av with
  | some v=>v
  | none=>undef
 | none=>undef
def knownX (ρ:Operand→Option AV):List Operand→Bool
 | []=>true
 | x::l=>match ρ x with
  | some av=>match exV av with
   | some _=>knownX ρ l
   | none=>false
  | none=>false
theorem knownX_sound {γ:Gh} {ρ:Operand→Option AV} {σ:Operand→Value} (hρ:∀ x av,ρ x=some av→DenV γ av (σ x)) {l:List Operand} (hk:knownX ρ l=true):∀ x∈l,σ x=rhoX ρ x:=by
 induction l with
 | nil=>intro x hx;cases hx
 | cons y l ih=>
  intro x hx
  simp only [knownX] at hk
  split at hk
  ·rename_i av hv
   split at hk
   ·rename_i v hv2
    rcases List.mem_cons.1 hx with rfl | hx
    ·rw [exV_den hv2 (hρ _ _ hv)];simp [rhoX,hv,hv2]
    ·exact ih hk x hx
   ·cases hk
  ·cases hk
theorem exec_rhoX {γ:Gh} {ρ:Operand→Option AV} {σ:Operand→Value} (hρ:∀ x av,ρ x=some av→DenV γ av (σ x)) {o:Oper} (hs:noSel o.op=true) (hk:knownX ρ o.op.operands.toList=true):
  execOp σ o=execOp (rhoX ρ) o:=
 execOp_congr o (fun cs b hb=>by rw [hb] at hs;cases hs) fun x hx=>knownX_sound hρ hk x (by simpa using hx)
end Go.X
end
section
namespace Go.X
open Go
set_option linter.unusedVariables false
variable {h0 : Heap} {W : Nat → Prop} {M0 : Fr}
def takeN (l:List AA) (o n:Nat):Option (List AA):=bif Nat.beq ((l.drop o).take n).length n then some ((l.drop o).take n) else none
theorem takeN_some {l r:List AA} {o n:Nat} (h:takeN l o n=some r):r=(l.drop o).take n∧r.length=n:=by
 unfold takeN at h
 cases hb:Nat.beq ((l.drop o).take n).length n with
 | false=>rw [hb] at h;cases h
 | true=>
  rw [hb] at h
  simp only [cond_true,Option.some.injEq] at h
  subst h
  exact⟨rfl,Nat.eq_of_beq_eq_true hb⟩
theorem ldList_of {h:Heap} {p:Addr}:∀ {us:List Value} {i:Nat},(∀ j v,us[j]?=some v→cellH h (p.add (i+j))=some v)→ldList h p i us
 | [],_,_=>trivial
 | v::us,i,H=>⟨by have:=H 0 v rfl;simpa using this,ldList_of fun j u hu=>by have:=H (j+1) u (by simpa using hu);rwa [show i+(j+1)=i+1+j by omega] at this⟩
def Behind (h:Heap) (u:Value) (us:List Value):Prop:=∃ b o,u=.pointer (some ⟨b,o,none⟩)∧∀ j v,us[j]?=some v→cellH h ⟨b,o+j,none⟩=some v
theorem Behind.ld {h:Heap} {u:Value} {us:List Value} (H:Behind h u us):∃ p:Addr,u=.pointer (some p)∧ldList h p 0 us∧∀ v,us=[v]→cellH h p=some v:=by
 obtain⟨b,o,e,hc⟩:=H
 refine⟨_,e,ldList_of fun j v hv=>?_,fun v hv=>?_⟩
 ·rw [add_none,Nat.zero_add];exact hc j v hv
 ·have:=hc 0 v (by rw [hv];rfl);simpa using this
theorem cut_get {cs:Array Value} {f n j:Nat} {v:Value} (h:(cut cs f n)[j]?=some v):cs[f+j]?=some v:=by
 unfold cut at h
 rw [List.getElem?_take] at h
 split at h
 ·rw [List.getElem?_drop] at h;simpa using h
 ·cases h
def fetch (cs:CS) (n:Nat):AA→Option (List AA)
 | .box c o=>match findC cs c with
  | some (.box l)=>bif itB l then none else takeN l o n
  | _=>none
 | .elt t x o=>takeN (expand t x) o n
 | _=>none
theorem fetch_sound {cs:CS} {γ:Gh} {h:Heap} (I:Inv h0 W M0 cs γ h) {n:Nat} {aa:AA} {r:List AA} (hf:fetch cs n aa=some r) {u:Value} (hd:DenA γ aa u):
  ∃ us,Behind h u us∧us.length=n∧All2 (DenA γ) r us:=by
 unfold fetch at hf
 split at hf
 ·rename_i c o
  split at hf
  ·rename_i l hl
   cases hit:itB l with
   | true=>rw [hit] at hf;cases hf
   | false=>
   rw [hit] at hf
   obtain⟨rfl,hn⟩:=takeN_some hf
   obtain⟨us,e,h2⟩:=I.den _ (findC_mem hl)
   rcases e with⟨⟨T,e⟩,_⟩| ⟨s,p,e,_⟩
   case inr=>exact absurd e (itB_no hit h2 s p)
   have h3:=(h2.drop o).take n
   refine⟨(us.drop o).take n,⟨_,_,hd,fun j v hv=>?_⟩,by rw [← h3.length];exact hn,h3⟩
   rw [List.getElem?_take] at hv
   split at hv
   ·rw [List.getElem?_drop] at hv
    unfold cellH;simp only [e];simp;exact hv
   ·cases hv
  ·cases hf
 ·rename_i t x o
  obtain⟨rfl,hn⟩:=takeN_some hf
  obtain⟨b,f,cc,e,hM,hr⟩:=hd
  have h3:=((expand_den (γ:=γ) hr).drop o).take n
  refine⟨_,⟨_,_,e,fun j v hv=>?_⟩,by rw [← h3.length];exact hn,h3⟩
  rw [List.getElem?_take] at hv
  split at hv
  ·rw [List.getElem?_drop] at hv
   have:=cut_get hv
   exact I.ag.cell hM (by rw [show f+o+j=f+(o+j) by omega];exact this)
  ·cases hv
 ·cases hf
theorem own_elt {cs:CS} {γ:Gh} {h:Heap} (I:Inv h0 W M0 cs γ h) {c:Nat} {e:TypeId} {t:Ty} {xs:List (El t)} (hc:findC cs c=some (.row e t xs)) {i:Nat} {y:El t} (hy:xs[i]?=some y) {o n:Nat} {r:List AA} (hr:takeN (expand t y) o n=some r)
  {u:Value} (hd:DenA γ (.oelt c (sz t) i o) u):∃ us,Behind h u us∧us.length=n∧All2 (DenA γ) r us:=by
 obtain⟨rfl,hn⟩:=takeN_some hr
 obtain⟨g,hg,rfl⟩:=hd
 obtain⟨cells,hown,hrow,_,hl⟩:=I.den _ (findC_mem hc)
 simp only at hl hown
 rcases hown.2 with⟨hv,h1⟩| ⟨g',cap,cur,hv,_,hg',_,_,_,htake⟩
 ·simp only [Value.slice.injEq] at hv;rw [hg] at hv;cases hv.1
 ·simp only [Value.slice.injEq] at hv
  rw [hg] at hv
  have hgg:g=g':=by have:=hv.1;simp only [Option.some.injEq,Addr.mk.injEq] at this;exact this.1
  subst hgg
  have hi:i < xs.length:=(List.getElem?_eq_some_iff.1 hy).1
  have hyx:xs[i]=y:=(List.getElem?_eq_some_iff.1 hy).2
  have h4:=hrow.2 i hi
  rw [hyx] at h4
  have h3:=((expand_den (γ:=γ) h4).drop o).take n
  refine⟨_,⟨_,_,rfl,fun j v hv'=>?_⟩,by rw [← h3.length];exact hn,h3⟩
  rw [List.getElem?_take] at hv'
  split at hv'
  ·rw [List.getElem?_drop,List.getElem?_take] at hv'
   split at hv'
   ·rw [List.getElem?_drop,← htake,List.getElem?_take] at hv'
    split at hv'
    ·have e2:h[g]?=some (.cells cur e (0,0)):=hg'
     unfold cellH
     simp only [e2]
     simp
     rw [show i*sz t+o+j=i*sz t+(o+j) by omega]
     simpa using hv'
    ·cases hv'
   ·cases hv'
  ·cases hv'
def packA:Option Nat→List AA→Option AG
 | none,[x]=>some (.a x)
 | some _,l=>some (.agg l)
 | _,_=>none
def shapeT (P:Program) (t:TypeId):Option (Option Nat):=match vtOf P t with
 | some (.one _)=>some none
 | some (.agg l)=>some (some l.length)
 | none=>none
def numT:Option Nat→Nat
 | none=>1
 | some n=>n
theorem load_shape {P:Program} {t:TypeId} {s:Option Nat} (hs:shapeT P t=some s) {γ:Gh} {h:Heap} {u:Value} {us:List Value} (hb:Behind h u us) (hn:us.length=numT s) {r:List AA} (hr:All2 (DenA γ) r us) {ag:AG} (hp:packA s r=some ag):
  ∃ v,DenG γ ag v∧QExec P (Instr.loadAt t u) h v:=by
 obtain⟨p,e,hl,h1⟩:=hb.ld
 subst e
 have hl1:∀ v,QExec P (loadVar t p) h v→QExec P (Instr.loadAt t (.pointer (some p))) h v:=fun v hq B d=>by
  unfold Instr.loadAt Instr.sureAddr
  simp only [Sem.run_bind,Sem.run_pure,Result.andThen_ok]
  exact hq B d
 unfold shapeT at hs
 split at hs
 ·rename_i a hv
  simp only [Option.some.injEq] at hs
  subst hs
  match us,hn,r,hr with
  | [v],_,[x],hr=>
   simp only [packA,Option.some.injEq] at hp
   subst hp
   exact⟨v,hr.1,hl1 v (load_one hv (h1 v rfl))⟩
  | [v],_,[],hr=>exact hr.elim
  | [v],_,_::_::_,hr=>exact hr.2.elim
 ·rename_i l hv
  simp only [Option.some.injEq] at hs
  subst hs
  simp only [packA,Option.some.injEq] at hp
  subst hp
  exact⟨.agg us.toArray,⟨us,rfl,hr⟩,hl1 _ (load_agg hv hn hl)⟩
 ·cases hs
def loadA (P:Program) (cs:CS) (t:TypeId) (aa:AA) (g:Option Bool) (K:AV→Prop):Prop:=
 match shapeT P t with
 | some s=>match aa with
  | .oelt c z i o=>match findC cs c with
   | some (.row e ty xs)=>bif Nat.beq z (sz ty) then(∃ y:El ty,req g (xs[i]?=some y)∧match takeN (expand ty y) o (numT s) with
    | some r=>match packA s r with
     | some ag=>K (.g ag)
     | none=>False
    | none=>False) else False
   | _=>False
  | aa=>match fetch cs (numT s) aa with
   | some r=>match packA s r with
    | some ag=>K (.g ag)
    | none=>False
   | none=>False
 | none=>False
theorem loadA_sound {P:Program} {cs:CS} {t:TypeId} {aa:AA} {g:Option Bool} {K:AV→Prop} (H:loadA P cs t aa g K):
  ∃ av,K av∧(gok g→∀ γ h u,Inv h0 W M0 cs γ h→DenA γ aa u→∃ v,DenV γ av v∧QExec P (Instr.loadAt t u) h v):=by
 unfold loadA at H
 split at H
 ·rename_i s hs
  split at H
  ·rename_i c z i o
   split at H
   ·rename_i e ty xs hc
    cases hz:Nat.beq z (sz ty) with
    | false=>rw [hz] at H;exact H.elim
    | true=>
     rw [hz] at H
     obtain⟨y,hy,H⟩:=H
     split at H
     ·rename_i r hr
      split at H
      ·rename_i ag hp
       refine⟨_,H,fun hg γ h u I hd=>?_⟩
       rw [Nat.eq_of_beq_eq_true hz] at hd
       obtain⟨us,h1,h2,h3⟩:=own_elt I hc (hy.out hg) hr hd
       exact load_shape hs h1 h2 h3 hp
      ·exact H.elim
     ·exact H.elim
   ·exact H.elim
  ·split at H
   ·rename_i r hr
    split at H
    ·rename_i ag hp
     refine⟨_,H,fun hg γ h u I hd=>?_⟩
     obtain⟨us,h1,h2,h3⟩:=fetch_sound I hr hd
     exact load_shape hs h1 h2 h3 hp
    ·exact H.elim
   ·exact H.elim
 ·exact H.elim
def fldOf (P:Program) (t:TypeId) (f:Nat):Option (Nat×TypeId):=match P.underlying t with
 | some (.struct fs)=>match fs[f]? with
  | some fl=>match P.info? fl.type with
   | some i=>bif Nat.beq i.size 0 then none else some (fl.offset,fl.type)
   | none=>none
  | none=>none
 | _=>none
def addA (k:Nat):AA→Option AA
 | .box c o=>some (.box c (o+k))
 | .elt t x o=>some (.elt t x (o+k))
 | .oelt c z i o=>some (.oelt c z i (o+k))
 | _=>none
theorem fldOf_run {P:Program} {t:TypeId} {f k:Nat} {ty:TypeId} (hf:fldOf P t f=some (k,ty)) {h:Heap} (b o:Nat):QExec P (Instr.fieldAt t (.pointer (some ⟨b,o,none⟩)) f) h (.pointer (some ⟨b,o+k,none⟩)):=by
 unfold fldOf at hf
 split at hf
 ·rename_i fs hu
  split at hf
  ·rename_i fl hfl
   split at hf
   ·rename_i i hi
    cases hz:Nat.beq i.size 0 with
    | true=>rw [hz] at hf;cases hf
    | false=>
     rw [hz] at hf
     simp only [cond_false,Option.some.injEq,Prod.mk.injEq] at hf
     obtain⟨rfl,rfl⟩:=hf
     intro B d
     have hq:=QExec.underlying (h:=h) hu B d
     have hs:=QExec.sizeOf (h:=h) hi B d
     have hne:¬ (szOf P fl.type=0):=by
      unfold szOf;rw [hi]
      intro e
      simp only at e
      rw [e] at hz;simp at hz
     unfold Instr.fieldAt Instr.sureAddr fieldPlace
     simp only [Sem.run_bind,hq,Result.andThen_ok,hfl,Sem.run_pure,hs,hne,if_false,add_none]
   ·cases hf
  ·cases hf
 ·cases hf
theorem addA_den {γ:Gh} {aa aa':AA} {k:Nat} (h:addA k aa=some aa') {u:Value} (hd:DenA γ aa u):∃ b o,u=.pointer (some ⟨b,o,none⟩)∧DenA γ aa' (.pointer (some ⟨b,o+k,none⟩)):=by
 unfold addA at h
 split at h
 ·simp only [Option.some.injEq] at h;subst h;exact⟨_,_,hd,rfl⟩
 ·simp only [Option.some.injEq] at h;subst h
  obtain⟨b,f,cs,e,h1,h2⟩:=hd
  exact⟨_,_,e,b,f,cs,by rw [Nat.add_assoc],h1,h2⟩
 ·simp only [Option.some.injEq] at h;subst h
  obtain⟨g,e1,e2⟩:=hd
  exact⟨_,_,e2,g,e1,by rw [Nat.add_assoc]⟩
 ·cases h
def partA (P:Program) (ty:TypeId) (l:List AA) (k:Nat):Option AG:=match shapeT P ty with
 | some s=>match takeN l k (numT s) with
  | some r=>packA s r
  | none=>none
 | none=>none
theorem isAgg_run {P:Program} {t:TypeId} {s:Option Nat} (hs:shapeT P t=some s) (h:Heap):QExec P (isAgg t) h s.isSome:=by
 unfold shapeT at hs
 split at hs
 ·rename_i a hv
  simp only [Option.some.injEq] at hs;subst hs
  unfold vtOf at hv
  split at hv
  ·exact absurd hv (by split <;> (first | (intro h;cases h;done) | (cases Nat.beq _ _ <;> intro h <;> cases h)))
  ·exact absurd hv (by split <;> (first | (intro h;cases h;done) | (cases Nat.beq _ _ <;> intro h <;> cases h)))
  ·rename_i d hne1 hne2 hu
   intro B e
   have hq:=QExec.underlying (h:=h) hu B e
   unfold isAgg
   rw [Sem.run_bind,hq]
   cases d <;> first | rfl | exact(hne1 _ rfl).elim | exact(hne2 _ _ rfl).elim
  ·cases hv
 ·rename_i l hv
  simp only [Option.some.injEq] at hs;subst hs
  unfold vtOf at hv
  have hu:(∃ fs,P.underlying t=some (.struct fs))∨∃ n e,P.underlying t=some (.array n e):=by
   split at hv
   ·exact .inl ⟨_,by assumption⟩
   ·exact .inr ⟨_,_,by assumption⟩
   ·simp at hv
   ·cases hv
  intro B e
  rcases hu with⟨fs,hu⟩| ⟨m,e',hu⟩
  ·have hq:=QExec.underlying (h:=h) hu B e
   unfold isAgg
   rw [Sem.run_bind,hq];rfl
  ·have hq:=QExec.underlying (h:=h) hu B e
   unfold isAgg
   rw [Sem.run_bind,hq];rfl
 ·cases hs
theorem shape_sz {P:Program} {t:TypeId} {n:Nat} (hs:shapeT P t=some (some n)):szOf P t=n∧∃ i,P.info? t=some i:=by
 unfold shapeT at hs
 split at hs
 ·cases hs
 ·rename_i l hv
  simp only [Option.some.injEq] at hs
  subst hs
  unfold vtOf at hv
  have key:∀ x:Option (List Atom),(match x with
    | some l=>bif Nat.beq l.length (szOf P t) then some (VT.agg l) else none
    | none=>none)=some (.agg l)→szOf P t=l.length:=by
   intro x hx
   split at hx
   ·rename_i l'
    cases hb:Nat.beq l'.length (szOf P t) with
    | false=>rw [hb] at hx;cases hx
    | true=>
     rw [hb] at hx
     simp only [cond_true,Option.some.injEq,VT.agg.injEq] at hx
     rw [← hx];exact(Nat.eq_of_beq_eq_true hb).symm
   ·cases hx
  split at hv
  ·exact⟨key _ hv,info_of_underlying (by assumption)⟩
  ·exact⟨key _ hv,info_of_underlying (by assumption)⟩
  ·simp at hv
  ·cases hv
 ·cases hs
theorem partA_sound {P:Program} {ty:TypeId} {l:List AA} {k:Nat} {ag:AG} (hp:partA P ty l k=some ag) {γ:Gh} {us:List Value} (hd:All2 (DenA γ) l us) (h:Heap):∃ v,DenG γ ag v∧QExec P (part ty us.toArray k) h v:=by
 unfold partA at hp
 split at hp
 ·rename_i s hs
  split at hp
  ·rename_i r hr
   obtain⟨rfl,hn⟩:=takeN_some hr
   have h3:=(hd.drop k).take (numT s)
   have hlen:((us.drop k).take (numT s)).length=numT s:=by rw [← h3.length];exact hn
   cases s with
   | none=>
    generalize hq:(us.drop k).take (numT none)=q at *
    match q,hlen,hq with
    | [v],_,hq=>
     generalize hr':(l.drop k).take (numT none)=r' at *
     match r',h3 with
     | [x],h3=>
      simp only [packA,Option.some.injEq] at hp
      subst hp
      refine⟨v,h3.1,fun B d=>?_⟩
      have ha:=isAgg_run hs h B d
      have hv:us[k]?=some v:=by
       have:((us.drop k).take 1)[0]?=some v:=by rw [show(us.drop k).take 1=[v] from hq];rfl
       rw [List.getElem?_take,if_pos (by omega),List.getElem?_drop] at this
       simpa using this
      unfold part
      rw [Sem.run_bind,ha]
      simp [hv]
     | [],h3=>exact h3.elim
     | _::_::_,h3=>exact h3.2.elim
   | some n=>
    simp only [packA,Option.some.injEq] at hp
    subst hp
    refine⟨.agg ((us.drop k).take n).toArray,⟨_,rfl,h3⟩,fun B d=>?_⟩
    have ha:=isAgg_run hs h B d
    obtain⟨hz,i,hi⟩:=shape_sz hs
    have hS:=QExec.sizeOf (h:=h) hi B d
    unfold part
    rw [Sem.run_bind,ha]
    simp only [Option.isSome_some,Result.andThen_ok,if_true]
    rw [Sem.run_bind,hS,hz]
    simp
  ·cases hp
 ·cases hp
end Go.X
end
section
namespace Go.X
open Go
set_option linter.unusedVariables false
variable {h0 : Heap} {W : Nat → Prop} {M0 : Fr}
def rowOf (cs:CS):AA→Option ((t:Ty)×List (El t))
 | .d (.row t) xs=>some ⟨t,xs⟩
 | .dc t xs=>some ⟨t,xs⟩
 | .own c=>match findC cs c with
  | some (.fz t xs)=>some ⟨t,xs⟩
  | _=>none
 | _=>none
theorem rowOf_rd {cs:CS} {γ:Gh} {h:Heap} (I:Inv h0 W M0 cs γ h) {aa:AA} {r:(t:Ty)×List (El t)} (hr:rowOf cs aa=some r) {u:Value} (hd:DenA γ aa u):Rd γ.M (.row r.1) r.2 [u]:=by
 unfold rowOf at hr
 split at hr
 ·simp only [Option.some.injEq] at hr;subst hr;exact hd
 ·simp only [Option.some.injEq] at hr;subst hr;obtain⟨s,_,_,h⟩:=hd;exact h
 ·split at hr
  ·rename_i t xs hc
   simp only [Option.some.injEq] at hr;subst hr
   rw [show u=_ from hd]
   exact I.den _ (findC_mem hc)
  ·cases hr
 ·cases hr
theorem Rd.sub {M:Fr} {t:Ty} {xs:List (El t)} {a:Option Addr} {n c:Nat} (H:Rd M (.row t) xs [.slice a n c]) {l r m:Nat} (h1:l≤r) (h2:r≤xs.length) (h3:r≤m) (h4:m≤c):
  Rd M (.row t) ((xs.take r).drop l) [.slice (resl a (sz t) l m) (r - l) (m - l)]:=by
 obtain⟨v,e,a',c',e2,hn,H⟩:=H
 cases e
 simp only [Value.slice.injEq] at e2
 obtain⟨rfl,rfl,rfl⟩:=e2
 have hlen:((xs.take r).drop l).length=r - l:=by simp;omega
 refine⟨_,rfl,resl a (sz t) l m,m - l,by rw [hlen],⟨by rw [hlen];omega,by rw [hlen];omega⟩,?_⟩
 by_cases hr:r=l
 ·left
  apply List.eq_nil_of_length_eq_zero
  omega
 rcases H with h0' | ⟨b,o,cs,e1,hM,hi⟩
 ·left;subst h0';simp
 ·right
  have hml:¬ (m=l):=by omega
  refine⟨b,o+l*sz t,cs,?_,hM,fun i hi'=>?_⟩
  ·unfold resl;rw [if_neg hml,e1];simp [add_none]
  ·have:=hi (l+i) (by omega)
   have e3:((xs.take r).drop l)[i]=xs[l+i]:=by simp
   rw [e3]
   have e4:o+l*sz t+i*sz t=o+(l+i)*sz t:=by rw [Nat.add_mul];omega
   rw [e4];exact this
def intA:AV→Option Int
 | .g (.a (.v (.int _ n)))=>some n
 | _=>none
theorem intA_den {γ:Gh} {av:AV} {n:Int} (h:intA av=some n) {u:Value} (hd:DenV γ av u):∃ k,u=.int k n:=by
 unfold intA at h
 split at h
 ·simp only [Option.some.injEq] at h;subst h;exact⟨_,hd⟩
 ·cases h
def elOk (P:Program) (t:TypeId):Option TypeId:=match P.underlying t with
 | some (.slice el)=>bif okInfo P el then some el else none
 | _=>none
theorem elOk_some {P:Program} {t el:TypeId} (h:elOk P t=some el):P.underlying t=some (.slice el)∧okInfo P el=true:=by
 unfold elOk at h
 split at h
 ·rename_i e hu
  cases ho:okInfo P e with
  | false=>rw [ho] at h;cases h
  | true=>rw [ho] at h;simp only [cond_true,Option.some.injEq] at h;subst h;exact⟨hu,ho⟩
 ·cases h
def indexA (P:Program) (cs:CS) (t:TypeId) (aa:AA) (n:Int) (g:Option Bool) (K:AV→Prop):Prop:=
 match elOk P t with
 | some el=>match rowOf cs aa with
  | some r=>bif Nat.beq (szOf P el) (sz r.1) then ∃ y:El r.1,req g (0≤n∧r.2[n.toNat]?=some y)∧K (.g (.a (.elt r.1 y 0))) else False
  | none=>match aa with
   | .own c=>match findC cs c with
    | some (.row e ty xs)=>bif Nat.beq (szOf P el) (sz ty) then req g (0≤n∧n.toNat < xs.length)∧K (.g (.a (.oelt c (sz ty) n.toNat 0))) else False
    | _=>False
   | _=>False
 | none=>False
theorem index_run {P:Program} {t el:TypeId} (hu:P.underlying t=some (.slice el)) (ho:okInfo P el=true) {a:Addr} {len cap:Nat} {k:IntKind} {n:Int} (h1:0≤n) (h2:n < (len:Int)) (h:Heap):
  QExec P (Instr.indexAt t (.slice (some a) len cap) (.int k n)) h (.pointer (some (a.add (n.toNat*szOf P el)))):=by
 have:=indexF_sound (P:=P) (t:=t) (x:=.slice (some a) len cap) (i:=.int k n) (g:=none) (K:=fun v=>v=.pointer (some (a.add (n.toNat*szOf P el))))
  (fun el' hel=>by
   rcases hel with hel | ⟨m,hel⟩
   ·rw [hu] at hel;cases hel;exact okInfo_some ho
   ·rw [hu] at hel;cases hel) (by unfold indexF;rw [hu];exact⟨a,⟨rfl,h1,h2⟩,rfl⟩)
 obtain⟨v,rfl,hq⟩:=this
 exact hq trivial h
theorem indexA_sound {P:Program} {cs:CS} {t:TypeId} {aa:AA} {n:Int} {g:Option Bool} {K:AV→Prop} (H:indexA P cs t aa n g K):
  ∃ av,K av∧(gok g→∀ γ h u k,Inv h0 W M0 cs γ h→DenA γ aa u→∃ v,DenV γ av v∧QExec P (Instr.indexAt t u (.int k n)) h v):=by
 unfold indexA at H
 split at H
 ·rename_i el hel
  obtain⟨hu,ho⟩:=elOk_some hel
  split at H
  ·rename_i r hr
   cases hz:Nat.beq (szOf P el) (sz r.1) with
   | false=>rw [hz] at H;exact H.elim
   | true=>
    rw [hz] at H
    obtain⟨y,hy,hK⟩:=H
    refine⟨_,hK,fun hg γ h u k I hd=>?_⟩
    obtain⟨hn0,hy'⟩:=hy.out hg
    have hz':=Nat.eq_of_beq_eq_true hz
    obtain⟨v,e,a,c,e2,hn,H⟩:=rowOf_rd I hr hd
    cases e
    subst e2
    have hi:n.toNat < r.2.length:=(List.getElem?_eq_some_iff.1 hy').1
    have hx:r.2[n.toNat]=y:=(List.getElem?_eq_some_iff.1 hy').2
    rcases H with h0' | ⟨b,o,cc,e1,hM,hi'⟩
    ·rw [h0'] at hi;simp at hi
    ·subst e1
     refine⟨_,?_,index_run hu ho hn0 (by omega) h⟩
     have:=hi' n.toNat hi
     rw [hx] at this
     rw [add_none,hz']
     exact⟨b,o+n.toNat*sz r.1,cc,rfl,hM,this⟩
  ·split at H
   ·rename_i c _
    split at H
    ·rename_i e ty xs hc
     cases hz:Nat.beq (szOf P el) (sz ty) with
     | false=>rw [hz] at H;exact H.elim
     | true=>
      rw [hz] at H
      obtain⟨hy,hK⟩:=H
      refine⟨_,hK,fun hg γ h u k I hd=>?_⟩
      obtain⟨hn0,hi⟩:=hy.out hg
      have hz':=Nat.eq_of_beq_eq_true hz
      obtain⟨cells,hown,hrow,_,hl⟩:=I.den _ (findC_mem hc)
      simp only at hl hown
      rcases hown.2 with⟨hv,h1⟩| ⟨g',cap,cur,hv,_,hg',_,_,_,htake⟩
      ·omega
      ·simp only [Value.slice.injEq] at hv
       have hd':u=slV (γ.σ c):=hd
       subst hd'
       unfold slV
       rw [hv.1]
       refine⟨_,?_,index_run hu ho hn0 (by omega) h⟩
       rw [add_none,hz',Nat.zero_add]
       exact⟨g',hv.1,rfl⟩
    ·exact H.elim
   ·exact H.elim
 ·exact H.elim
def boundA (ρ:Operand→Option AV) (d:Int):Option Operand→Option Int
 | none=>some d
 | some x=>match ρ x with
  | some av=>intA av
  | none=>none
theorem boundA_den {γ:Gh} {ρ:Operand→Option AV} {σ:Operand→Value} (hρ:∀ x av,ρ x=some av→DenV γ av (σ x)) {d n:Int} {x:Option Operand} (h:boundA ρ d x=some n):boundOf (x.map σ) d=some n:=by
 unfold boundA at h
 split at h
 ·exact h
 ·rename_i y
  split at h
  ·rename_i av hav
   obtain⟨k,e⟩:=intA_den h (hρ _ _ hav)
   simp [boundOf,e]
  ·cases h
def sliceA (P:Program) (cs:CS) (ρ:Operand→Option AV) (t:TypeId) (aa:AA) (lo hi mx:Option Operand) (g:Option Bool) (K:AV→Prop):Prop:=
 match elOk P t with
 | some el=>match rowOf cs aa with
  | some r=>bif Nat.beq (szOf P el) (sz r.1) then(match boundA ρ 0 lo,boundA ρ (r.2.length:Int) hi with
   | some l,some h=>match mx with
    | none=>req g (0≤l∧l≤h∧h≤(r.2.length:Int))∧K (.g (.a (.d (.row r.1) ((r.2.take h.toNat).drop l.toNat))))
    | some m=>match boundA ρ 0 (some m),hi with
     | some m,some _=>req g (0≤l∧l≤h∧h≤(r.2.length:Int)∧m=h)∧K (.g (.a (.dc r.1 ((r.2.take h.toNat).drop l.toNat))))
     | _,_=>False
   | _,_=>False) else False
  | none=>False
 | none=>False
theorem slice_run {P:Program} {t el:TypeId} (hu:P.underlying t=some (.slice el)) (ho:okInfo P el=true) {a:Option Addr} {len cap:Nat} {lo hi mx:Option Value} {l r m:Int} (hl:boundOf lo 0=some l) (hr:boundOf hi (len:Int)=some r) (hm:boundOf mx (cap:Int)=some m)
  (h0:mx=none∨∃ v,hi=some v) (h1:0≤l) (h2:l≤r) (h3:r≤m) (h4:m≤(cap:Int)) (h:Heap):
  QExec P (Instr.sliceAt t (.slice a len cap) lo hi mx) h (.slice (resl a (szOf P el) l.toNat m.toNat) (r.toNat - l.toNat) (m.toNat - l.toNat)):=by
 have:=sliceF_sound (P:=P) (t:=t) (x:=.slice a len cap) (lo:=lo) (hi:=hi) (mx:=mx) (g:=none) (K:=fun v=>v=.slice (resl a (szOf P el) l.toNat m.toNat) (r.toNat - l.toNat) (m.toNat - l.toNat))
  (fun el' hel=>by rw [hu] at hel;cases hel;exact okInfo_some ho) (by unfold sliceF;rw [hu];simp only [hl,hr,hm];exact⟨h0,⟨h1,h2,h3,h4⟩,trivial⟩)
 obtain⟨v,rfl,hq⟩:=this
 exact hq trivial h
theorem sliceA_sound {P:Program} {cs:CS} {ρ:Operand→Option AV} {t:TypeId} {aa:AA} {lo hi mx:Option Operand} {g:Option Bool} {K:AV→Prop} (H:sliceA P cs ρ t aa lo hi mx g K):
  ∃ av,K av∧(gok g→∀ γ h u σ,Inv h0 W M0 cs γ h→(∀ x av,ρ x=some av→DenV γ av (σ x))→DenA γ aa u→∃ v,DenV γ av v∧QExec P (Instr.sliceAt t u (lo.map σ) (hi.map σ) (mx.map σ)) h v):=by
 unfold sliceA at H
 split at H
 ·rename_i el hel
  obtain⟨hu,ho⟩:=elOk_some hel
  split at H
  ·rename_i r hr
   cases hz:Nat.beq (szOf P el) (sz r.1) with
   | false=>rw [hz] at H;exact H.elim
   | true=>
    rw [hz] at H
    have hz':=Nat.eq_of_beq_eq_true hz
    simp only [cond_true] at H
    split at H
    ·rename_i l hh hl hhi
     split at H
     ·obtain⟨hy,hK⟩:=H
      refine⟨_,hK,fun hg γ h u σ I hρ hd=>?_⟩
      obtain⟨h1,h2,h3⟩:=hy.out hg
      have hrd:=rowOf_rd I hr hd
      have hrd':=hrd
      obtain⟨v,e,a,c,e2,hn,_⟩:=hrd'
      cases e
      subst e2
      refine⟨_,?_,slice_run hu ho (boundA_den hρ hl) (boundA_den hρ hhi) (m:=(c:Int)) rfl (.inl rfl) h1 h2 (by omega) (Int.le_refl _) h⟩
      rw [hz']
      exact hrd.sub (by omega) (by omega) (by omega) (by omega)
     ·rename_i m
      split at H
      ·rename_i m' hx hm
       obtain⟨hy,hK⟩:=H
       refine⟨_,hK,fun hg γ h u σ I hρ hd=>?_⟩
       obtain⟨h1,h2,h3,h4⟩:=hy.out hg
       subst h4
       have hrd:=rowOf_rd I hr hd
       have hrd':=hrd
       obtain⟨v,e,a,c,e2,hn,_⟩:=hrd'
       cases e
       subst e2
       have hm':=boundA_den hρ hm
       have hmc:boundOf ((some m).map σ) (c:Int)=some m':=by
        unfold boundOf at hm' ⊢
        simp only [Option.map_some] at hm' ⊢
        split at hm' <;> simp_all
       refine⟨_,?_,slice_run hu ho (boundA_den hρ hl) (boundA_den hρ hhi) hmc (.inr ⟨_,rfl⟩) h1 h2 (Int.le_refl _) (by omega) h⟩
       rw [hz']
       refine⟨⟨_,_,_⟩,rfl,rfl,hrd.sub (by omega) (by omega) (by omega) (by omega)⟩
      ·exact H.elim
    ·exact H.elim
  ·exact H.elim
 ·exact H.elim
def lenA (cs:CS):AA→Option Nat
 | .d (.row _) xs=>some xs.length
 | .dc _ xs=>some xs.length
 | .own c=>match findC cs c with
  | some (.fz _ xs)=>some xs.length
  | some (.row _ _ xs)=>some xs.length
  | _=>none
 | _=>none
theorem lenA_den {cs:CS} {γ:Gh} {h:Heap} (I:Inv h0 W M0 cs γ h) {aa:AA} {n:Nat} (hn:lenA cs aa=some n) {u:Value} (hd:DenA γ aa u):∃ a c,u=.slice a n c:=by
 have key:∀ {t:Ty} {xs:List (El t)},Rd γ.M (.row t) xs [u]→∃ a c,u=.slice a xs.length c:=by
  rintro t xs ⟨v,e,a,c,e2,_⟩
  cases e
  exact⟨a,c,e2⟩
 unfold lenA at hn
 split at hn
 ·simp only [Option.some.injEq] at hn;subst hn;exact key hd
 ·simp only [Option.some.injEq] at hn;subst hn;obtain⟨s,_,_,hd⟩:=hd;exact key hd
 ·split at hn
  ·rename_i c t xs hc
   simp only [Option.some.injEq] at hn;subst hn
   rw [show u=_ from hd] at key ⊢
   exact key (I.den _ (findC_mem hc))
  ·rename_i c e t xs hc
   simp only [Option.some.injEq] at hn;subst hn
   obtain⟨cells,_,_,_,hl⟩:=I.den _ (findC_mem hc)
   simp only at hl
   rw [show u=_ from hd]
   exact⟨_,_,by unfold slV;rw [hl]⟩
  ·cases hn
 ·cases hn
def flatA:AA→List AA
 | .v x=>x.cells.toList.map .v
 | x=>[x]
def flatV:AV→Option (List AA)
 | .g (.a x)=>some (flatA x)
 | .g (.agg l)=>some l
 | _=>none
theorem cells1 {u:Value} (h:u.oneCell'=true):u.cells.toList=[u]:=by
 cases u <;> first | rfl | simp [Value.oneCell'] at h
theorem map_v_den (γ:Gh):∀ l:List Value,All2 (DenA γ) (l.map .v) l
 | []=>trivial
 | _::l=>⟨rfl,map_v_den γ l⟩
theorem flatA_den {γ:Gh} {x:AA} {u:Value} (hd:DenA γ x u):All2 (DenA γ) (flatA x) u.cells.toList:=by
 have key:u.oneCell'=true→All2 (DenA γ) [x] u.cells.toList:=fun h=>by rw [cells1 h];exact⟨hd,trivial⟩
 cases x with
 | v y=>rw [show u=y from hd];exact map_v_den γ _
 | d t y=>exact key (Rd.one (show Rd γ.M t y [u] from hd) u (by simp))
 | box c o=>exact key (by rw [show u=_ from hd];rfl)
 | own c=>exact key (by rw [show u=_ from hd];rfl)
 | oelt c z i o=>obtain⟨g,_,e⟩:=hd;exact key (by rw [e];rfl)
 | elt t y o=>obtain⟨b,f,cs,e,_⟩:=hd;exact key (by rw [e];rfl)
 | dc t xs=>obtain⟨s,e,_⟩:=hd;exact key (by rw [e];rfl)
theorem flatV_den {γ:Gh} {av:AV} {l:List AA} (h:flatV av=some l) {u:Value} (hd:DenV γ av u):All2 (DenA γ) l u.cells.toList:=by
 unfold flatV at h
 split at h
 ·simp only [Option.some.injEq] at h;subst h;exact flatA_den hd
 ·simp only [Option.some.injEq] at h;subst h
  obtain⟨us,rfl,h2⟩:=hd
  simpa [Value.cells] using h2
 ·cases h
def fillA (place:Nat→Option (Nat×Nat)) (cells:List AA):List (Nat×AV)→Option (List AA)
 | []=>some cells
 | (i,av)::rest=>match place i,flatV av with
  | some (off,size),some l=>bif Nat.beq l.length size then(bif Nat.ble (off+l.length) cells.length then fillA place (cells.take off++l++cells.drop (off+l.length)) rest else none) else none
  | _,_=>none
theorem set_fold (vs:List Value):∀ (k off:Nat) (cs:Array Value),off+k+vs.length≤cs.size →
  ((vs.zipIdx k).foldl (fun cs (x:Value×Nat)=>cs.setIfInBounds (off+x.2) x.1) cs).toList=cs.toList.take (off+k)++vs++cs.toList.drop (off+k+vs.length):=by
 induction vs with
 | nil=>intro k off cs h;simp
 | cons v vs ih=>
  intro k off cs h
  simp only [List.length_cons] at h
  rw [List.zipIdx_cons,List.foldl_cons]
  refine(ih (k+1) off (cs.setIfInBounds (off+k) v) (by rw [Array.size_setIfInBounds];omega)).trans ?_
  simp only [Array.toList_setIfInBounds,List.length_cons]
  have hi:off+k < cs.toList.length:=by simp;omega
  rw [← Nat.add_assoc,List.drop_set_of_lt (by omega)]
  have e2:(cs.toList.set (off+k) v).take (off+k+1)=cs.toList.take (off+k)++[v]:=by
   rw [List.take_set,List.take_succ_eq_append_getElem hi,List.set_append_right _ _ (by simp;omega)]
   have:off+k - (cs.toList.take (off+k)).length=0:=by simp;omega
   rw [this];rfl
  rw [e2,show off+k+(vs.length+1)=off+k+1+vs.length by omega]
  simp
theorem fillA_sound {place:Nat→Option (Nat×Nat)} {γ:Gh}:∀ {parts:List (Nat×AV)} {cells r:List AA} {us:List Value} {ps:List (Nat×Value)},fillA place cells parts=some r→All2 (DenA γ) cells us→All2 (fun(x:Nat×AV) (y:Nat×Value)=>x.1=y.1∧DenV γ x.2 y.2) parts ps →
  ∃ ws:List Value,Instr.fill place us.toArray ps=some ws.toArray∧All2 (DenA γ) r ws
 | [],cells,r,us,[],h,hc,_=>by
  simp only [fillA,Option.some.injEq] at h
  subst h
  exact⟨us,rfl,hc⟩
 | [],_,_,_,_::_,_,_,hp=>hp.elim
 | _::_,_,_,_,[],_,_,hp=>hp.elim
 | (i,av)::rest,cells,r,us,(j,v)::ps,h,hc,hp=>by
  obtain⟨⟨hij,hv⟩,hp⟩:=hp
  simp only at hij hv
  subst hij
  simp only [fillA] at h
  split at h
  ·rename_i off size l hpl hl
   cases hb:Nat.beq l.length size with
   | false=>rw [hb] at h;cases h
   | true=>
    rw [hb] at h
    simp only [cond_true] at h
    cases hb2:Nat.ble (off+l.length) cells.length with
    | false=>rw [hb2] at h;cases h
    | true=>
     rw [hb2] at h
     simp only [cond_true] at h
     have hld:=flatV_den hl hv
     have hll:=hld.length
     have hcl:=hc.length
     have h1:=Nat.eq_of_beq_eq_true hb
     have h2:=Nat.le_of_ble_eq_true hb2
     have hsz:v.cells.size=size:=by rw [← h1,hll];simp
     have hnew:All2 (DenA γ) (cells.take off++l++cells.drop (off+l.length)) (us.take off++v.cells.toList++us.drop (off+l.length)):=((hc.take off).append hld).append (hc.drop _)
     obtain⟨ws,e1,e2⟩:=fillA_sound h hnew hp
     refine⟨ws,?_,e2⟩
     simp only [Instr.fill,hpl]
     have hno:¬ ((decide (v.cells.size≠size) || decide (off+v.cells.size > us.toArray.size))=true):=by
      rw [hsz];simp;omega
     rw [if_neg hno]
     rw [← e1]
     congr 1
     apply Array.ext'
     have:=set_fold v.cells.toList 0 off us.toArray (by simp;omega)
     rw [← Array.foldl_toList,Array.toList_zipIdx]
     refine this.trans ?_
     simp [← hll]
  ·cases h
def okFields (P:Program):List Field→Bool
 | []=>true
 | f::l=>bif okInfo P f.type then okFields P l else false
theorem places_run {P:Program} {h:Heap}:∀ {l:List Field},okFields P l=true→QExec P (l.mapM fun f=>do pure (f.offset,← Go.sizeOf f.type)) h (l.map fun f=>(f.offset,szOf P f.type))
 | [],_=>fun _ _=>rfl
 | f::l,H=>by
  simp only [okFields] at H
  cases ho:okInfo P f.type with
  | false=>rw [ho] at H;cases H
  | true=>
   rw [ho] at H
   obtain⟨i,hi⟩:=okInfo_some ho
   rw [List.mapM_cons]
   exact QExec.bind (QExec.bind (QExec.sizeOf hi) (QExec.pure _)) (QExec.bind (places_run H) (QExec.pure _))
def placeOf (P:Program) (fs:Array Field) (i:Nat):Option (Nat×Nat):=match fs[i]? with
 | some f=>some (f.offset,szOf P f.type)
 | none=>none
def partsA (ρ:Operand→Option AV):List (Nat×Operand)→Option (List (Nat×AV))
 | []=>some []
 | (i,x)::l=>match ρ x,partsA ρ l with
  | some av,some r=>some ((i,av)::r)
  | _,_=>none
theorem partsA_den {γ:Gh} {ρ:Operand→Option AV} {σ:Operand→Value} (hρ:∀ x av,ρ x=some av→DenV γ av (σ x)):∀ {l:List (Nat×Operand)} {r:List (Nat×AV)},partsA ρ l=some r →
  All2 (fun(x:Nat×AV) (y:Nat×Value)=>x.1=y.1∧DenV γ x.2 y.2) r (l.map fun x=>(x.1,σ x.2))
 | [],r,h=>by simp only [partsA,Option.some.injEq] at h;subst h;trivial
 | (i,x)::l,r,h=>by
  simp only [partsA] at h
  split at h
  ·rename_i av r' h1 h2
   simp only [Option.some.injEq] at h
   subst h
   exact⟨⟨rfl,hρ _ _ h1⟩,partsA_den hρ h2⟩
  ·cases h
def zeroOf (P:Program) (t:TypeId):Option Value:=match P.info? t with
 | some i=>i.zero
 | none=>none
theorem zeroOf_run {P:Program} {t:TypeId} {z:Value} (h:zeroOf P t=some z) (hp:Heap):QExec P (zeroValue t) hp z:=by
 unfold zeroOf at h
 split at h
 ·rename_i i hi
  intro B d
  simp [zeroValue,typeInfo,program,hi,Sem.run,h]
 ·cases h
def buildA (P:Program) (t:TypeId) (parts:List (Nat×AV)):Option (List AA):=match P.underlying t,zeroOf P t with
 | some (.struct fs),some z=>bif okFields P fs.toList then fillA (placeOf P fs) (z.cells.toList.map .v) parts else none
 | _,_=>none
theorem buildA_sound {P:Program} {t:TypeId} {parts:List (Nat×AV)} {r:List AA} (h:buildA P t parts=some r) {γ:Gh} {ps:List (Nat×Value)} (hp:All2 (fun(x:Nat×AV) (y:Nat×Value)=>x.1=y.1∧DenV γ x.2 y.2) parts ps) (hh:Heap):
  ∃ ws:List Value,QExec P (Instr.build t ps.toArray) hh (.agg ws.toArray)∧All2 (DenA γ) r ws:=by
 unfold buildA at h
 split at h
 ·rename_i fs z hu hz
  cases hof:okFields P fs.toList with
  | false=>rw [hof] at h;cases h
  | true=>
   rw [hof] at h
   simp only [cond_true] at h
   obtain⟨ws,e1,e2⟩:=fillA_sound h (map_v_den γ _) hp
   refine⟨ws,?_,e2⟩
   intro B d
   have hq:=QExec.underlying (h:=hh) hu B d
   have hzr:=zeroOf_run hz hh B d
   have hpl:=places_run (P:=P) (h:=hh) hof B d
   unfold Instr.build
   rw [Sem.run_bind,hzr]
   simp only [Result.andThen_ok]
   rw [Sem.run_bind,hq]
   simp only [Result.andThen_ok]
   rw [Sem.run_bind,Array.mapM_eq_mapM_toList,Sem.run_map,hpl]
   simp only [Result.andThen_ok]
   have e3:(fun i=>((fs.toList.map fun f=>(f.offset,szOf P f.type)).toArray)[i]?)=placeOf P fs:=by
    funext i
    unfold placeOf
    cases hi:fs[i]? <;> simp [hi]
   rw [e3]
   have e4:z.cells.toList.toArray=z.cells:=by simp
   rw [e4] at e1
   simp only [e1]
   rfl
 ·cases h
def scalEq (P:Program) (t:TypeId) (a b:Value):Option Bool:=match P.underlying t,a,b with
 | some (.int _),.int k x,.int k' y=>if k=k' then some (x==y) else none
 | some .string,.string x,.string y=>some (x.toList==y.toList)
 | some .bool,.bool x,.bool y=>some (x==y)
 | _,_,_=>none
def eqFs (P:Program) (xs ys:List AA):List Field→Option Bool
 | []=>some true
 | f :: fs => if f.name = "_" then none else match partA P f.type xs f.offset, partA P f.type ys f.offset with
  | some (.a (.v a)),some (.a (.v b))=>match scalEq P f.type a b,eqFs P xs ys fs with
   | some p,some q=>some (p && q)
   | _,_=>none
  | _,_=>none
def eqA (P:Program) (o:Oper) (ρ:Operand→Option AV):Option Bool:=match o.op with
 | .binOp .eql t x y _=>match ρ x,ρ y with
  | some (.g (.agg xs)),some (.g (.agg ys))=>match P.underlying t with
   | some (.struct _)=>bif P.stoodInHeld t then none else bif P.eqGuardType P.depth t then none else eqFs P xs ys (P.fieldsOf t).toList
   | _=>none
  | _,_=>none
 | .binOp .neq t x y _=>match ρ x,ρ y with
  | some (.g (.agg xs)),some (.g (.agg ys))=>match P.underlying t with
   | some (.struct _)=>bif P.stoodInHeld t then none else bif P.eqGuardType P.depth t then none else(match eqFs P xs ys (P.fieldsOf t).toList with
    | some b=>some (!b)
    | none=>none)
   | _=>none
  | _,_=>none
 | _=>none
theorem scalEq_sound {P:Program} {t:TypeId} {a b:Value} {r:Bool} (h:scalEq P t a b=some r) (d:Nat) (w:World):(Op.equalIn (d+1) t a b).run P w=.ok r w:=by
 unfold scalEq at h
 split at h
 ·rename_i k0 k x k' y hu
  split at h
  ·rename_i hk
   simp only [Option.some.injEq] at h
   subst hk;subst h
   exact run_equalIn_int w d t k k0 x y hu
  ·cases h
 ·rename_i x y hu
  simp only [Option.some.injEq] at h
  subst h
  exact run_equalIn_string w d t x y hu
 ·rename_i x y hu
  simp only [Option.some.injEq] at h
  subst h
  exact run_equalIn_bool' w d t x y hu
 ·cases h
theorem eqFs_sound {P:Program} {γ:Gh} {xs ys:List AA} {us vs:List Value} (hx:All2 (DenA γ) xs us) (hy:All2 (DenA γ) ys vs) (d:Nat) (h:Heap):∀ (fs:List Field) (b:Bool),eqFs P xs ys fs=some b→QExec P (Op.eqFields (d+1) us.toArray vs.toArray fs) h b
 | [],b,hb=>by
  simp only [eqFs,Option.some.injEq] at hb
  subst hb
  exact QExec.pure _
 | f::fs,b,hb=>by
  unfold eqFs at hb
  split at hb
  ·cases hb
  ·rename_i hn
   split at hb
   ·rename_i a b' hpa hpb
    split at hb
    ·rename_i p q hp hq
     simp only [Option.some.injEq] at hb
     subst hb
     obtain⟨v1,e1,r1⟩:=partA_sound hpa hx h
     obtain⟨v2,e2,r2⟩:=partA_sound hpb hy h
     have e1':v1=a:=e1
     have e2':v2=b':=e2
     subst e1';subst e2'
     intro B dd
     unfold Op.eqFields
     rw [if_pos (by exact hn)]
     rw [Sem.run_bind,r1 B dd]
     simp only [Result.andThen_ok]
     rw [Sem.run_bind,r2 B dd]
     simp only [Result.andThen_ok]
     rw [Sem.run_bind,scalEq_sound hp d]
     simp only [Result.andThen_ok]
     cases p with
     | false=>rfl
     | true=>simpa using eqFs_sound hx hy d h fs q hq B dd
    ·cases hb
   ·cases hb
theorem eqA_sound {P:Program} {o:Oper} {ρ:Operand→Option AV} {b:Bool} (H:eqA P o ρ=some b) {γ:Gh} {σ:Operand→Value} (hρ:∀ x av,ρ x=some av→DenV γ av (σ x)) (h:Heap):QExec P (execOp σ o) h (.value (.bool b)):=by
 have key:∀ {t:TypeId} {xs ys:List AA} {us vs:List Value} {fs:Array Field} {b:Bool},P.underlying t=some (.struct fs)→P.stoodInHeld t=false→All2 (DenA γ) xs us→All2 (DenA γ) ys vs→eqFs P xs ys (P.fieldsOf t).toList=some b→QExec P (Op.equalIn 10000 t (.agg us.toArray) (.agg vs.toArray)) h b:=by
  intro t xs ys us vs fs b hu hs hx hy hb B d
  have hf:P.underlying t=some (.struct (P.fieldsOf t)):=by rw [hu];simp [Program.fieldsOf,hu]
  rw [run_equalIn_struct _ 9999 t us.toArray vs.toArray hf hs]
  exact eqFs_sound hx hy 9998 h _ b hb B d
 unfold eqA at H
 split at H
 ·rename_i t x y yt ho
  split at H
  ·rename_i xs ys hx hy
   split at H
   ·rename_i fs hu
    cases hs:P.stoodInHeld t with
    | true=>rw [hs] at H;cases H
    | false=>
     cases hg:P.eqGuardType P.depth t with
     | true=>rw [hs,hg] at H;cases H
     | false=>
      rw [hs,hg] at H
      obtain⟨us,e1,d1⟩:=hρ _ _ hx
      obtain⟨vs,e2,d2⟩:=hρ _ _ hy
      have hk:=key hu hs d1 d2 H
      simp only [execOp,ho,e1,e2]
      refine QExec.val fun B d=>?_
      rw [Sem.run_bind,run_eqGuard_agg _ _ _ _ _ _ _ hg]
      simp only [Result.andThen_ok]
      rw [run_eql_struct,hk B d]
      rfl
   ·cases H
  ·cases H
 ·rename_i t x y yt ho
  split at H
  ·rename_i xs ys hx hy
   split at H
   ·rename_i fs hu
    cases hs:P.stoodInHeld t with
    | true=>rw [hs] at H;cases H
    | false=>
     cases hg:P.eqGuardType P.depth t with
     | true=>rw [hs,hg] at H;cases H
     | false=>
      rw [hs,hg] at H
      simp only [cond_false] at H
      split at H
      ·rename_i b' hb'
       simp only [Option.some.injEq] at H
       subst H
       obtain⟨us,e1,d1⟩:=hρ _ _ hx
       obtain⟨vs,e2,d2⟩:=hρ _ _ hy
       have hk:=key hu hs d1 d2 hb'
       simp only [execOp,ho,e1,e2]
       refine QExec.val fun B d=>?_
       rw [Sem.run_bind,run_eqGuard_agg _ _ _ _ _ _ _ hg]
       simp only [Result.andThen_ok]
       rw [run_neq_struct,hk B d]
       rfl
      ·cases H
   ·cases H
  ·cases H
 ·cases H
def qA0 (P:Program) (o:Oper) (ρ:Operand→Option AV) (g:Option Bool) (cs:CS) (K:AV→Prop):Prop:=
 bif (bif famOk o then(bif isQ P o then(bif noSel o.op then knownX ρ o.op.operands.toList else false) else false) else false) then stepQ P o (rhoX ρ) g #[] (fun v=>K (ofVal v)) else
 match o.op with
 | .move x=>match ρ x with
  | some av=>K av
  | none=>False
 | .assign x=>match ρ x with
  | some av=>K av
  | none=>False
 | .extract x i=>match ρ x with
  | some (.tup l)=>match l[i]? with
   | some ag=>K (.g ag)
   | none=>False
  | some (.nx b p c)=>match i with
   | 0=>K (.g (.a (.v (.bool b))))
   | 1=>req g (b=true)∧K (.g (.a (.v (.int .i64 p))))
   | 2=>req g (b=true)∧K (.g (.a (.v (.int .i32 c))))
   | _=>False
  | _=>False
 | .field t x f=>match ρ x,fldOf P t f with
  | some (.g (.agg l)),some (k,ty)=>match partA P ty l k with
   | some ag=>K (.g ag)
   | none=>False
  | _,_=>False
 | .fieldAddr t x f=>match ρ x,fldOf P t f with
  | some (.g (.a aa)),some (k,_)=>match addA k aa with
   | some aa'=>K (.g (.a aa'))
   | none=>False
  | _,_=>False
 | .load t x=>match ρ x with
  | some (.g (.a aa))=>loadA P cs t aa g K
  | _=>False
 | .indexAddr t x i=>match ρ x,ρ i with
  | some (.g (.a aa)),some iv=>match intA iv with
   | some n=>indexA P cs t aa n g K
   | none=>False
  | _,_=>False
 | .slice t x lo hi mx=>match ρ x with
  | some (.g (.a aa))=>sliceA P cs ρ t aa lo hi mx g K
  | _=>False
 | .nilCheck x=>match ρ x with
  | some (.g (.a aa))=>match addA 0 aa with
   | some _=>K (.g (.a aa))
   | none=>False
  | _=>False
 | .build t parts=>match partsA ρ parts.toList with
  | some ps=>match buildA P t ps with
   | some r=>K (.g (.agg r))
   | none=>False
  | none=>False
 | .call c=>match c.callee with
  | .builtin .len=>match c.args.toList,c.argTypes.toList with
   | [x],[t]=>match ρ x,P.underlying t with
    | some (.g (.a (.v (.string s)))),some .string=>K (.g (.a (.v (.int .i64 (s.size:Int)))))
    | some (.g (.a (.v (.slice _ n _)))),some (.slice _)=>K (.g (.a (.v (.int .i64 (n:Int)))))
    | some (.g (.a aa)),some (.slice _)=>match lenA cs aa with
     | some n=>K (.g (.a (.v (.int .i64 (n:Int)))))
     | none=>False
    | _,_=>False
   | _,_=>False
  | _=>False
 | _=>False
theorem qA0_sound {P:Program} {o:Oper} {ρ:Operand→Option AV} {g:Option Bool} {cs:CS} {K:AV→Prop} (H:qA0 P o ρ g cs K):
  ∃ av,K av∧(gok g→∀ γ h σ,Inv h0 W M0 cs γ h→(∀ x av,ρ x=some av→DenV γ av (σ x))→∃ v,DenV γ av v∧QExec P (execOp σ o) h (.value v)):=by
 unfold qA0 at H
 cases hb:(bif famOk o then(bif isQ P o then(bif noSel o.op then knownX ρ o.op.operands.toList else false) else false) else false) with
 | true=>
  rw [hb] at H
  cases hfam:famOk o with
  | false=>rw [hfam] at hb;cases hb
  | true=>
   cases hq:isQ P o with
   | false=>rw [hfam,hq] at hb;cases hb
   | true=>
    cases hns:noSel o.op with
    | false=>rw [hfam,hq,hns] at hb;cases hb
    | true=>
     rw [hfam,hq,hns] at hb
     simp only [cond_true] at hb H
     obtain⟨v,h1,h2⟩:=stepQ_keep hfam H
     refine⟨_,h1,fun hg γ h σ I hρ=>⟨v,ofVal_den γ v,?_⟩⟩
     rw [exec_rhoX hρ hns hb]
     exact h2 hg h ⟨by simp,fun i hi=>absurd hi (by simp)⟩
 | false=>
  rw [hb] at H
  simp only [cond_false] at H
  have val:∀ {s:Sem Value} {h:Heap} {v:Value},QExec P s h v→QExec P (s >>= fun x=>(Pure.pure (Next.value x):Sem Next)) h (.value v):=fun hq=>QExec.val hq
  split at H
  ·rename_i x ho
   split at H
   ·rename_i av hav
    exact⟨av,H,fun _ γ h σ I hρ=>⟨_,hρ _ _ hav,by simp only [execOp,ho];exact QExec.pure _⟩⟩
   ·exact H.elim
  ·rename_i x ho
   split at H
   ·rename_i av hav
    exact⟨av,H,fun _ γ h σ I hρ=>⟨_,hρ _ _ hav,by simp only [execOp,ho];exact QExec.pure _⟩⟩
   ·exact H.elim
  ·rename_i x i ho
   split at H
   ·rename_i l hav
    split at H
    ·rename_i ag hag
     refine⟨_,H,fun _ γ h σ I hρ=>?_⟩
     obtain⟨us,e,h2⟩:=hρ _ _ hav
     obtain⟨u,hu,hd⟩:=h2.get hag
     refine⟨u,hd,?_⟩
     simp only [execOp,ho,e]
     refine val fun B d=>?_
     unfold Instr.extract
     simp [hu]
    ·exact H.elim
   ·rename_i b p c hav
    split at H
    ·refine⟨_,H,fun _ γ h σ I hρ=>⟨_,rfl,?_⟩⟩
     obtain⟨e1,e2⟩:=hρ _ _ hav
     simp only [execOp,ho]
     refine val fun B d=>?_
     cases b with
     | true=>rw [e1 rfl];rfl
     | false=>rw [e2 rfl];rfl
    ·refine⟨_,H.2,fun hg γ h σ I hρ=>⟨_,rfl,?_⟩⟩
     obtain⟨e1,_⟩:=hρ _ _ hav
     simp only [execOp,ho,e1 (H.1.out hg)]
     exact val fun B d=>rfl
    ·refine⟨_,H.2,fun hg γ h σ I hρ=>⟨_,rfl,?_⟩⟩
     obtain⟨e1,_⟩:=hρ _ _ hav
     simp only [execOp,ho,e1 (H.1.out hg)]
     exact val fun B d=>rfl
    ·exact H.elim
   ·exact H.elim
  ·rename_i t x f ho
   split at H
   ·rename_i l k ty hav hf
    split at H
    ·rename_i ag hag
     refine⟨_,H,fun _ γ h σ I hρ=>?_⟩
     obtain⟨us,e,h2⟩:=hρ _ _ hav
     obtain⟨v,hd,hq⟩:=partA_sound hag h2 h
     refine⟨v,hd,?_⟩
     simp only [execOp,ho,e]
     refine val fun B d=>?_
     unfold fldOf at hf
     split at hf
     ·rename_i fs hu
      split at hf
      ·rename_i fl hfl
       split at hf
       ·rename_i i hi
        cases hz:Nat.beq i.size 0 with
        | true=>rw [hz] at hf;cases hf
        | false=>
         rw [hz] at hf
         simp only [cond_false,Option.some.injEq,Prod.mk.injEq] at hf
         obtain⟨rfl,rfl⟩:=hf
         have hqu:=QExec.underlying (h:=h) hu B d
         unfold Instr.field
         rw [Sem.run_bind,hqu]
         simp only [Result.andThen_ok,hfl,asAgg,Sem.run_bind,Sem.run_pure]
         exact hq B d
       ·cases hf
      ·cases hf
     ·cases hf
    ·exact H.elim
   ·exact H.elim
  ·rename_i t x f ho
   split at H
   ·rename_i aa k ty hav hf
    split at H
    ·rename_i aa' haa
     refine⟨_,H,fun _ γ h σ I hρ=>?_⟩
     obtain⟨b,o',e,hd⟩:=addA_den haa (hρ _ _ hav)
     refine⟨_,hd,?_⟩
     simp only [execOp,ho]
     rw [e]
     exact val (fldOf_run hf b o')
    ·exact H.elim
   ·exact H.elim
  ·rename_i t x ho
   split at H
   ·rename_i aa hav
    obtain⟨av,h1,h2⟩:=loadA_sound (h0:=h0) (W:=W) (M0:=M0) H
    refine⟨av,h1,fun hg γ h σ I hρ=>?_⟩
    obtain⟨v,hd,hq⟩:=h2 hg γ h _ I (hρ _ _ hav)
    refine⟨v,hd,?_⟩
    simp only [execOp,ho]
    exact val hq
   ·exact H.elim
  ·rename_i t x i ho
   split at H
   ·rename_i aa iv hav hiv
    split at H
    ·rename_i n hn
     obtain⟨av,h1,h2⟩:=indexA_sound (h0:=h0) (W:=W) (M0:=M0) H
     refine⟨av,h1,fun hg γ h σ I hρ=>?_⟩
     obtain⟨k,e⟩:=intA_den hn (hρ _ _ hiv)
     obtain⟨v,hd,hq⟩:=h2 hg γ h _ k I (hρ _ _ hav)
     refine⟨v,hd,?_⟩
     simp only [execOp,ho]
     rw [e]
     exact val hq
    ·exact H.elim
   ·exact H.elim
  ·rename_i t x lo hi mx ho
   split at H
   ·rename_i aa hav
    obtain⟨av,h1,h2⟩:=sliceA_sound (h0:=h0) (W:=W) (M0:=M0) H
    refine⟨av,h1,fun hg γ h σ I hρ=>?_⟩
    obtain⟨v,hd,hq⟩:=h2 hg γ h _ σ I hρ (hρ _ _ hav)
    refine⟨v,hd,?_⟩
    simp only [execOp,ho]
    exact val hq
   ·exact H.elim
  ·rename_i x ho
   split at H
   ·rename_i aa hav
    split at H
    ·rename_i aa' haa
     refine⟨_,H,fun _ γ h σ I hρ=>?_⟩
     obtain⟨b,o',e,hd⟩:=addA_den haa (hρ _ _ hav)
     have hd0:=hρ _ _ hav
     refine⟨σ x,hd0,?_⟩
     simp only [execOp,ho]
     rw [e]
     exact QExec.pure _
    ·exact H.elim
   ·exact H.elim
  ·rename_i t parts ho
   split at H
   ·rename_i ps hps
    split at H
    ·rename_i r hr
     refine⟨_,H,fun _ γ h σ I hρ=>?_⟩
     obtain⟨ws,hq,hd⟩:=buildA_sound hr (partsA_den hρ hps) h
     refine⟨.agg ws.toArray,⟨ws,rfl,hd⟩,?_⟩
     simp only [execOp,ho]
     have e:(parts.map fun x=>(x.1,σ x.2))=(parts.toList.map fun x=>(x.1,σ x.2)).toArray:=by rw [← Array.toList_map]
     have:=val hq
     rw [← e] at this
     exact this
    ·exact H.elim
   ·exact H.elim
  ·rename_i c ho
   split at H
   ·rename_i hc
    split at H
    ·rename_i x t hargs htys
     have hargs':c.args=#[x]:=by
      have:=congrArg List.toArray hargs;simp at this;exact this
     have htys':c.argTypes=#[t]:=by
      have:=congrArg List.toArray htys;simp at this;exact this
     have key:∀ (σ:Operand→Value) (h:Heap) (n:Int),(QExec P (Builtin.len_ #[t] o.type #[σ x]) h (.int .i64 n))→QExec P (execOp σ o) h (.value (.int .i64 n)):=by
      intro σ h n hq
      have e:execOp σ o=(Builtin.len_ c.argTypes o.type (c.args.map σ) >>= fun x=>(Pure.pure (Next.value x):Sem Next)):=by
       simp only [execOp,ho,resolve,hc]
       rfl
      rw [e,hargs',htys']
      refine val ?_
      simpa using hq
     split at H
     ·rename_i s hav hu
      refine⟨_,H,fun _ γ h σ I hρ=>⟨_,rfl,key σ h _ fun B d=>?_⟩⟩
      have hq:=QExec.underlying (h:=h) hu B d
      have e:σ x=.string s:=hρ _ _ hav
      unfold Builtin.len_
      simp only [List.getElem?_toArray,List.getElem?_cons_zero,e,Sem.run_bind,hq,Result.andThen_ok,Sem.run_pure]
      rfl
     ·rename_i a n cp el hav hu
      refine⟨_,H,fun _ γ h σ I hρ=>⟨_,rfl,key σ h _ fun B d=>?_⟩⟩
      have hq:=QExec.underlying (h:=h) hu B d
      have e:σ x=.slice a n cp:=hρ _ _ hav
      unfold Builtin.len_
      simp only [List.getElem?_toArray,List.getElem?_cons_zero,e,Sem.run_bind,hq,Result.andThen_ok,Sem.run_pure]
      rfl
     ·rename_i aa el _ _ hav hu
      split at H
      ·rename_i n hn
       refine⟨_,H,fun _ γ h σ I hρ=>⟨_,rfl,key σ h _ fun B d=>?_⟩⟩
       have hq:=QExec.underlying (h:=h) hu B d
       obtain⟨a,cp,e⟩:=lenA_den I hn (hρ _ _ hav)
       unfold Builtin.len_
       simp only [List.getElem?_toArray,List.getElem?_cons_zero,e,Sem.run_bind,hq,Result.andThen_ok,Sem.run_pure]
       rfl
      ·exact H.elim
     ·exact H.elim
    ·exact H.elim
   ·exact H.elim
  ·exact H.elim
def errA (P:Program) (o:Oper) (ρ:Operand→Option AV):Option Bool:=match o.op with
 | .binOp op t x (.const .nilIface) _=>match ρ x,ρ (.const .nilIface),P.underlying t with
  | some (.g (.a (.d .err b))),some (.g (.a (.v .nilIface))),some (.interface _)=>match op with
   | .eql=>some b
   | .neq=>some (!b)
   | _=>none
  | _,_,_=>none
 | _=>none
theorem errA_sound {P:Program} {o:Oper} {ρ:Operand→Option AV} {b:Bool} (H:errA P o ρ=some b) {γ:Gh} {σ:Operand→Value} (hρ:∀ x av,ρ x=some av→DenV γ av (σ x)) (h:Heap):QExec P (execOp σ o) h (.value (.bool b)):=by
 have key:∀ {t:TypeId} {ms:Array (String×TypeId)} {b:Bool} {u:Value},P.underlying t=some (.interface ms)→((b=true∧u=.nilIface)∨(b=false∧∃ t u',u=.iface t u'))→QExec P (Op.equal t u .nilIface) h b:=by
  intro t ms b u hu hb B d
  have hq:=QExec.underlying (h:=h) hu B d
  unfold Op.equal Op.maxDepth
  rcases hb with⟨rfl,rfl⟩| ⟨rfl,t',u',rfl⟩
  ·unfold Op.equalIn;rw [Sem.run_bind,hq];rfl
  ·unfold Op.equalIn;rw [Sem.run_bind,hq];rfl
 unfold errA at H
 split at H
 ·rename_i op t x yt ho
  split at H
  ·rename_i b0 ms hx hy hu
   have hσ:σ (.const .nilIface)=.nilIface:=hρ _ _ hy
   obtain⟨u,e,hb⟩:=(show Rd γ.M .err b0 [σ x] from hρ _ _ hx)
   have eu:u=σ x:=by simpa using e.symm
   subst eu
   have hk:=key hu hb
   have hg:∀ op,QExec P (eqGuard op t x (.const .nilIface) (σ x) .nilIface) h ():=by
    intro op B d
    unfold eqGuard
    rcases hb with⟨_,e2⟩| ⟨_,t',u',e2⟩
    ·rw [e2];cases op <;> simp
    ·rw [e2];cases op <;> simp
   have hbin:∀ op,(binOp op t (σ x) .nilIface=match op with | .eql=>(do pure (.bool (← Op.equal t (σ x) .nilIface))) | .neq=>(do pure (.bool (!(← Op.equal t (σ x) .nilIface)))) | _=>binOp op t (σ x) .nilIface):=by
    intro op
    rcases hb with⟨_,e2⟩| ⟨_,t',u',e2⟩
    ·rw [e2];cases op <;> rfl
    ·rw [e2];cases op <;> rfl
   simp only [execOp,ho,hσ]
   refine QExec.val ((hg op).bind ?_)
   split at H
   ·simp only [Option.some.injEq] at H;subst H
    rw [hbin]
    exact hk.bind (QExec.pure _)
   ·simp only [Option.some.injEq] at H;subst H
    rw [hbin]
    exact hk.bind (QExec.pure _)
   ·cases H
  ·cases H
 ·cases H
def globP (o:Oper) (ρ:Operand→Option AV):Option (TypeId×Nat×Nat):=match o.op with
 | .load t x=>match ρ x with
  | some (.g (.a (.v (.pointer (some ⟨b,off,none⟩)))))=>some (t,b,off)
  | _=>none
 | _=>none
def cellG (gl:Fr) (b off:Nat) (v:Value):Prop:=∃ cs,gl b=some cs∧cs[off]?=some v
def cellsG (gl:Fr) (b:Nat) (g:Option Bool):List Atom→Nat→(List AA→Prop)→Prop
 | [],_,K=>K []
 | .int k::l,o,K=>∃ x:Int,req g (cellG gl b o (.int k x))∧cellsG gl b g l (o+1) fun r=>K (.v (.int k x)::r)
 | .str::l,o,K=>∃ x:ByteArray,req g (cellG gl b o (.string x))∧cellsG gl b g l (o+1) fun r=>K (.v (.string x)::r)
 | .bool::l,o,K=>∃ x:Bool,req g (cellG gl b o (.bool x))∧cellsG gl b g l (o+1) fun r=>K (.v (.bool x)::r)
 | _::_,_,_=>False
theorem cellsG_sound {gl:Fr} {b:Nat} {g:Option Bool}:∀ {l:List Atom} {o:Nat} {K:List AA→Prop},cellsG gl b g l o K→∃ vs:List Value,vs.length=l.length∧K (vs.map .v)∧(gok g→∀ (j:Nat) (v:Value),vs[j]?=some v→cellG gl b (o+j) v)
 | [],o,K,H=>⟨[],rfl,H,fun _ j v h=>by simp at h⟩
 | .int k::l,o,K,⟨x,h1,h2⟩=>by
  obtain⟨vs,e1,e2,e3⟩:=cellsG_sound h2
  refine⟨.int k x::vs,by simp [e1],e2,fun hg j v hv=>?_⟩
  cases j with
  | zero=>simp at hv;subst hv;exact h1.out hg
  | succ j=>have:=e3 hg j v (by simpa using hv);rwa [show o+1+j=o+(j+1) by omega] at this
 | .str::l,o,K,⟨x,h1,h2⟩=>by
  obtain⟨vs,e1,e2,e3⟩:=cellsG_sound h2
  refine⟨.string x::vs,by simp [e1],e2,fun hg j v hv=>?_⟩
  cases j with
  | zero=>simp at hv;subst hv;exact h1.out hg
  | succ j=>have:=e3 hg j v (by simpa using hv);rwa [show o+1+j=o+(j+1) by omega] at this
 | .bool::l,o,K,⟨x,h1,h2⟩=>by
  obtain⟨vs,e1,e2,e3⟩:=cellsG_sound h2
  refine⟨.bool x::vs,by simp [e1],e2,fun hg j v hv=>?_⟩
  cases j with
  | zero=>simp at hv;subst hv;exact h1.out hg
  | succ j=>have:=e3 hg j v (by simpa using hv);rwa [show o+1+j=o+(j+1) by omega] at this
 | .sl::_,_,_,H=>H.elim
 | .mp::_,_,_,H=>H.elim
 | .ptr::_,_,_,H=>H.elim
 | .raw::_,_,_,H=>H.elim
def loadG (P:Program) (gl:Fr) (t:TypeId) (b off:Nat) (g:Option Bool) (K:AV→Prop):Prop:=match vtOf P t with
 | some (.one a)=>cellsG gl b g [a] off fun r=>match r with
  | [x]=>K (.g (.a x))
  | _=>False
 | some (.agg l)=>cellsG gl b g l off fun r=>K (.g (.agg r))
 | none=>False
def globI (P:Program) (o:Oper) (ρ:Operand→Option AV):Option (Nat×Nat×Int×Nat×Nat):=match o.op with
 | .indexAddr t x i=>match ρ x,ρ i,P.underlying t with
  | some (.g (.a (.v (.pointer (some ⟨b,off,none⟩))))),some (.g (.a (.v (.int _ n)))),some (.array len el)=>bif okInfo P el then some (b,off,n,len,szOf P el) else none
  | _,_,_=>none
 | _=>none
def qA (P:Program) (gl:Fr) (o:Oper) (ρ:Operand→Option AV) (g:Option Bool) (cs:CS) (K:AV→Prop):Prop:=match eqA P o ρ with
 | some b=>K (.g (.a (.v (.bool b))))
 | none=>match errA P o ρ with
  | some b=>K (.g (.a (.v (.bool b))))
  | none=>match globP o ρ with
   | some (t,b,off)=>loadG P gl t b off g K
   | none=>match globI P o ρ with
    | some (b,off,n,len,z)=>req g (0≤n∧n < (len:Int))∧K (.g (.a (.v (.pointer (some ⟨b,off+n.toNat*z,none⟩)))))
    | none=>qA0 P o ρ g cs K
theorem qA_sound {P:Program} {gl:Fr} (hgl:Fr.le gl M0) {o:Oper} {ρ:Operand→Option AV} {g:Option Bool} {cs:CS} {K:AV→Prop} (H:qA P gl o ρ g cs K):
  ∃ av,K av∧(gok g→∀ γ h σ,Inv h0 W M0 cs γ h→(∀ x av,ρ x=some av→DenV γ av (σ x))→∃ v,DenV γ av v∧QExec P (execOp σ o) h (.value v)):=by
 unfold qA at H
 split at H
 ·rename_i b hb
  exact⟨_,H,fun _ γ h σ _ hρ=>⟨_,rfl,eqA_sound hb hρ h⟩⟩
 ·split at H
  ·rename_i b hb
   exact⟨_,H,fun _ γ h σ _ hρ=>⟨_,rfl,errA_sound hb hρ h⟩⟩
  ·split at H
   ·rename_i t b off hg
    unfold globP at hg
    split at hg
    ·rename_i t' x ho
     split at hg
     ·rename_i b' off' hx
      simp only [Option.some.injEq,Prod.mk.injEq] at hg
      obtain⟨rfl,rfl,rfl⟩:=hg
      have key:∀ {s:Option Nat} {vs:List Value} {ag:AG},shapeT P t'=some s→vs.length=numT s→packA s (vs.map .v)=some ag→(gok g→∀ (j:Nat) (v:Value),vs[j]?=some v→cellG gl b' (off'+j) v)→gok g→∀ γ h σ,Inv h0 W M0 cs γ h→(∀ x av,ρ x=some av→DenV γ av (σ x))→∃ u,DenV γ (.g ag) u∧QExec P (execOp σ o) h (.value u):=by
       intro s vs ag hs hn hp hc hg γ h σ I hρ
       have hu:σ x=.pointer (some ⟨b',off',none⟩):=hρ _ _ hx
       obtain⟨u,hd,hq⟩:=load_shape (γ:=γ) hs (u:=σ x) (us:=vs) ⟨_,_,hu,fun j w hw=>by
        obtain⟨cc,e1,e2⟩:=hc hg j w hw
        exact I.ag.cell (I.le _ _ (hgl _ _ e1)) e2⟩ hn (map_v_den γ vs) hp
       exact⟨u,hd,by simp only [execOp,ho];exact QExec.val hq⟩
      unfold loadG at H
      split at H
      ·rename_i a hv
       obtain⟨vs,e1,e2,e3⟩:=cellsG_sound H
       match vs,e1,e2,e3 with
       | [v],e1,e2,e3=>exact⟨_,e2,key (s:=none) (by unfold shapeT;rw [hv]) rfl rfl e3⟩
      ·rename_i l hv
       obtain⟨vs,e1,e2,e3⟩:=cellsG_sound H
       exact⟨_,e2,key (s:=some l.length) (by unfold shapeT;rw [hv]) e1 rfl e3⟩
      ·exact H.elim
     ·cases hg
    ·cases hg
   ·split at H
    ·rename_i b off n len z hg
     unfold globI at hg
     split at hg
     ·rename_i t x i ho
      split at hg
      ·rename_i b' off' k n' len' el hx hi hu
       cases hok:okInfo P el with
       | false=>rw [hok] at hg;cases hg
       | true=>
        rw [hok] at hg
        simp only [cond_true,Option.some.injEq,Prod.mk.injEq] at hg
        obtain⟨rfl,rfl,rfl,rfl,rfl⟩:=hg
        refine⟨_,H.2,fun hgk γ h σ I hρ=>⟨_,rfl,?_⟩⟩
        have hux:σ x=.pointer (some ⟨b',off',none⟩):=hρ _ _ hx
        have hui:σ i=.int k n':=hρ _ _ hi
        obtain⟨h1,h2⟩:=H.1.out hgk
        obtain⟨v,rfl,hq⟩:=indexF_sound (P:=P) (t:=t) (x:=.pointer (some ⟨b',off',none⟩)) (i:=.int k n') (g:=none) (K:=fun v=>v=.pointer (some (Addr.add ⟨b',off',none⟩ (n'.toNat*szOf P el))))
         (fun el' hel=>by
          rcases hel with hel | ⟨m,hel⟩
          ·rw [hu] at hel;cases hel
          ·rw [hu] at hel;cases hel;exact okInfo_some hok) (by unfold indexF;rw [hu];exact⟨_,⟨rfl,h1,h2⟩,rfl⟩)
        have:=hq trivial h
        rw [add_none] at this
        simp only [execOp,ho,hux,hui]
        exact QExec.val this
      ·cases hg
     ·cases hg
    ·exact qA0_sound H
end Go.X
end
section
namespace Go.X
open Go
set_option linter.unusedVariables false
variable {h0 : Heap} {W : Nat → Prop} {M0 : Fr}
def aggT:Ty→Bool
 | .tree=>true
 | .unit=>true
 | .pair _ _=>true
 | _=>false
def RdV (M:Fr) (t:Ty) (x:El t) (u:Value):Prop:=if aggT t=true then ∃ cs:List Value,u=.agg cs.toArray∧Rd M t x cs else Rd M t x [u]
theorem RdV.mono {M M':Fr} (hM:Fr.le M M') {t:Ty} {x:El t} {u:Value} (h:RdV M t x u):RdV M' t x u:=by
 unfold RdV at *
 by_cases ha:aggT t=true
 ·rw [if_pos ha] at *
  obtain⟨cs,e,h⟩:=h;exact⟨cs,e,Rd.mono hM h⟩
 ·rw [if_neg ha] at *
  exact Rd.mono hM h
structure Arg where
 t:Ty
 x:El t
def ArgsOK (M:Fr) (l:List Arg) (vs:List Value):Prop:=All2 (fun(a:Arg) u=>RdV M a.t a.x u) l vs
@[reducible] def Els:List Ty→Type
 | []=>Unit
 | [t]=>El t
 | t::t'::l=>El t×Els (t'::l)
def dfltS:(l:List Ty)→Els l
 | []=>()
 | [t]=>dflt t
 | t::t'::l=>(dflt t,dfltS (t'::l))
def RdL (M:Fr):(l:List Ty)→Els l→List Value→Prop
 | [],_,us=>us=[]
 | [t],x,us=>∃ u,us=[u]∧RdV M t x u
 | t::t'::l,x,us=>∃ u us',us=u::us'∧RdV M t x.1 u∧RdL M (t'::l) x.2 us'
def RetV (M:Fr) (l:List Ty) (x:Els l) (v:Value):Prop:=∃ us,RdL M l x us∧v=packV us
theorem RdL.length {M:Fr}:∀ {l:List Ty} {x:Els l} {us:List Value},RdL M l x us→us.length=l.length
 | [],_,_,h=>by rw [h];rfl
 | [_],_,_,⟨u,e,_⟩=>by rw [e];rfl
 | _::t'::l,x,_,⟨u,us,e,_,h⟩=>by rw [e,List.length_cons,RdL.length h];rfl
def PC (P:Program) (gl:Fr) (f:FuncId) (args:List Arg) (rt:List Ty) (R:Els rt→Prop):Prop:=
 ∀ (h:Heap) (M:Fr) (vs:List Value),Fr.le gl M→AgM M h→ArgsOK M args vs→XC P f vs.toArray h fun v h'=>
  Keep h.size h h'∧∃ M' r,Fr.le M M'∧(∀ b,b < h.size→M' b=M b)∧AgM M' h'∧RetV M' rt r v∧R r
theorem PC.mono {P:Program} {gl:Fr} {f:FuncId} {args:List Arg} {rt:List Ty} {R R':Els rt→Prop} (H:PC P gl f args rt R) (hR:∀ r,R r→R' r):PC P gl f args rt R':=
 fun h M vs h1 h2 h3=>(H h M vs h1 h2 h3).mono fun v h' ⟨k,M',r,e1,e2,e3,e4,e5⟩=>⟨k,M',r,e1,e2,e3,e4,hR r e5⟩
def BdL:(l:List Ty)→Els l→Prop
 | [],_=>True
 | [t],x=>Bd t x
 | t::t'::l,x=>Bd t x.1∧BdL (t'::l) x.2
theorem RdV.bd {M:Fr} {t:Ty} {x:El t} {u:Value} (h:RdV M t x u):Bd t x:=by
 unfold RdV at h
 split at h
 ·obtain⟨cs,_,h⟩:=h;exact h.bd
 ·exact h.bd
theorem RdL.bd {M:Fr}:∀ {l:List Ty} {x:Els l} {us:List Value},RdL M l x us→BdL l x
 | [],_,_,_=>trivial
 | [_],_,_,⟨u,_,h⟩=>h.bd
 | _::_::_,_,_,⟨_,_,_,h,h'⟩=>⟨h.bd,RdL.bd h'⟩
theorem PC.bd {P:Program} {gl:Fr} {f:FuncId} {args:List Arg} {rt:List Ty} {R:Els rt→Prop} (H:(∀ a∈args,Bd a.t a.x)→PC P gl f args rt R):PC P gl f args rt R:=by
 intro h M vs h1 h2 h3
 refine H ?_ h M vs h1 h2 h3
 clear H h1 h2
 induction args generalizing vs with
 | nil=>intro a ha;cases ha
 | cons a args ih=>
  cases vs with
  | nil=>exact h3.elim
  | cons u us=>
   intro b hb
   rcases List.mem_cons.1 hb with rfl | hb
   ·exact RdV.bd h3.1
   ·exact ih us h3.2 b hb
def gOf (t:Ty) (x:El t):AG:=bif aggT t then .agg (expand t x) else(match expand t x with
 | [y]=>.a y
 | l=>.agg l)
theorem gOf_den {γ:Gh} {t:Ty} {x:El t} {u:Value} (h:RdV γ.M t x u):DenG γ (gOf t x) u:=by
 unfold RdV at h
 unfold gOf
 split at h
 ·rename_i ha
  rw [ha]
  obtain⟨cs,e,h⟩:=h
  exact⟨cs,e,expand_den h⟩
 ·rename_i ha
  have ha':aggT t=false:=by simpa using ha
  rw [ha']
  simp only [cond_false]
  have hd:=expand_den (γ:=γ) h
  match hx:expand t x,hd with
  | [y],hd=>exact hd.1
  | [],hd=>exact hd.elim
  | _::_::_,hd=>exact hd.2.elim
def gsOf:(l:List Ty)→Els l→List AG
 | [],_=>[]
 | [t],x=>[gOf t x]
 | t::t'::l,x=>gOf t x.1::gsOf (t'::l) x.2
theorem gsOf_den {γ:Gh}:∀ {l:List Ty} {x:Els l} {us:List Value},RdL γ.M l x us→All2 (DenG γ) (gsOf l x) us
 | [],_,_,h=>by rw [h];trivial
 | [_],_,_,⟨u,e,h⟩=>by rw [e];exact⟨gOf_den h,trivial⟩
 | _::_::_,_,_,⟨u,us,e,h,h'⟩=>by rw [e];exact⟨gOf_den h,gsOf_den h'⟩
def retA (l:List Ty) (x:Els l):AV:=match gsOf l x with
 | [g]=>.g g
 | gs=>.tup gs
theorem retA_den {γ:Gh} {l:List Ty} {x:Els l} {v:Value} (h:RetV γ.M l x v):DenV γ (retA l x) v:=by
 obtain⟨us,h,rfl⟩:=h
 have hd:=gsOf_den (γ:=γ) h
 unfold retA
 generalize gsOf l x=gs at *
 match gs,us,hd with
 | [],[],_=>exact⟨[],rfl,trivial⟩
 | [g],[u],hd=>exact hd.1
 | g::g'::gs,u::u'::us,hd=>exact⟨_,rfl,hd⟩
 | [],_::_,hd=>exact hd.elim
 | _::_,[],hd=>exact hd.elim
 | [_],_::_::_,hd=>exact hd.2.elim
 | _::_::_,[_],hd=>exact hd.2.elim
def tyOf (P:Program) (tr:TypeId):Nat→TypeId→Option Ty
 | 0,_=>none
 | n+1,t=>bif Nat.beq t tr then some .tree else match P.underlying t with
  | some (.int k)=>some (.int k)
  | some .bool=>some .bool
  | some .string=>some .str
  | some (.slice e)=>match tyOf P tr n e with
   | some x=>some (.row x)
   | none=>none
  | some (.struct fs)=>tysOf P (fun t=>tyOf P tr n t) fs.toList
  | some (.interface _)=>some .err
  | _=>none
where tysOf (P:Program) (f:TypeId→Option Ty):List Field→Option Ty
 | []=>some .unit
 | [x]=>f x.type
 | x::y::l=>match f x.type,tysOf P f (y::l) with
  | some a,some b=>some (.pair a b)
  | _,_=>none
def tyL (P:Program) (tr:TypeId):List TypeId→Option (List Ty)
 | []=>some []
 | t::l=>match tyOf P tr 8 t,tyL P tr l with
  | some a,some b=>some (a::b)
  | _,_=>none
def ownsA:AA→List Nat
 | .own c=>[c]
 | _=>[]
def ownsL:List AA→List Nat
 | []=>[]
 | x::l=>ownsA x++ownsL l
def ownsV:AV→List Nat
 | .g (.a x)=>ownsA x
 | .g (.agg l)=>ownsL l
 | _=>[]
def ownsVs:List AV→List Nat
 | []=>[]
 | v::l=>ownsV v++ownsVs l
def frzL:List Nat→CS→CS
 | [],C=>C
 | c::l,C=>frzL l (frzC c C)
theorem Inv.frzL {C R:CS} {γ:Gh} {h:Heap}:∀ (l:List Nat) {C:CS} {γ:Gh},Inv h0 W M0 (C++R) γ h→∃ γ',Inv h0 W M0 (frzL l C++R) γ' h∧Gx none γ γ'
 | [],C,γ,I=>⟨γ,I,Gx.refl _ _⟩
 | c::l,C,γ,I=>by
  obtain⟨γ1,I1,g1⟩:=Inv.freeze c C [] I
  obtain⟨γ2,I2,g2⟩:=Inv.frzL (C:=C) (γ:=γ) l I1
  exact⟨γ2,I2,g1.1.trans g2.1,fun i hi=>⟨(g2.2 i hi).1.trans (g1.2 i hi).1,(g2.2 i hi).2.trans (g1.2 i hi).2⟩⟩
def collectV (cs:CS) (t:Ty):AV→Option (El t)
 | .g (.agg l)=>bif aggT t then(match collect cs t l with
  | some (y,[])=>some y
  | _=>none) else none
 | .g (.a x)=>bif aggT t then none else cellD cs t x
 | _=>none
theorem collectV_rd {γ:Gh} {cs:CS} (hf:FzOk γ cs) {t:Ty} {av:AV} {y:El t} (h:collectV cs t av=some y) {u:Value} (hd:DenV γ av u):RdV γ.M t y u:=by
 unfold collectV at h
 unfold RdV
 split at h
 ·rename_i l
  cases ha:aggT t with
  | false=>rw [ha] at h;cases h
  | true=>
   rw [ha] at h
   simp only [cond_true] at h
   split at h
   ·rename_i y' hc
    simp only [Option.some.injEq] at h
    subst h
    obtain⟨us,e,h2⟩:=hd
    obtain⟨c1,c2,rfl,r1,r2⟩:=collect_rd hf hc h2
    cases c2 with
    | nil=>simp only [if_true];exact⟨c1,by rw [e,List.append_nil],r1⟩
    | cons _ _=>exact r2.elim
   ·cases h
 ·rename_i x
  cases ha:aggT t with
  | true=>rw [ha] at h;cases h
  | false=>
   rw [ha] at h
   simp only [Bool.false_eq_true,if_false]
   exact cellD_rd hf h hd
 ·cases h
def collectArgs (cs:CS):List Ty→List AV→Option (List Arg)
 | [],[]=>some []
 | t::ts,v::vs=>match collectV cs t v,collectArgs cs ts vs with
  | some x,some l=>some (⟨t,x⟩::l)
  | _,_=>none
 | _,_=>none
theorem collectArgs_rd {γ:Gh} {cs:CS} (hf:FzOk γ cs):∀ {ts:List Ty} {vs:List AV} {l:List Arg},collectArgs cs ts vs=some l→∀ {us:List Value},All2 (DenV γ) vs us→ArgsOK γ.M l us
 | [],[],l,h,[],_=>by simp only [collectArgs,Option.some.injEq] at h;subst h;trivial
 | [],[],_,_,_::_,hd=>hd.elim
 | t::ts,v::vs,l,h,[],hd=>hd.elim
 | t::ts,v::vs,l,h,u::us,hd=>by
  simp only [collectArgs] at h
  split at h
  ·rename_i x l' h1 h2
   simp only [Option.some.injEq] at h
   subst h
   exact⟨collectV_rd hf h1 hd.1,collectArgs_rd hf h2 hd.2⟩
  ·cases h
 | [],_::_,_,h,_,_=>by simp [collectArgs] at h
 | _::_,[],_,h,_,_=>by simp [collectArgs] at h
def argsA (ρ:Operand→Option AV):List Operand→Option (List AV)
 | []=>some []
 | x::l=>match ρ x,argsA ρ l with
  | some v,some vs=>some (v::vs)
  | _,_=>none
theorem argsA_den {γ:Gh} {ρ:Operand→Option AV} {σ:Operand→Value} (hρ:∀ x av,ρ x=some av→DenV γ av (σ x)):∀ {l:List Operand} {vs:List AV},argsA ρ l=some vs→All2 (DenV γ) vs (l.map σ)
 | [],vs,h=>by simp only [argsA,Option.some.injEq] at h;subst h;trivial
 | x::l,vs,h=>by
  simp only [argsA] at h
  split at h
  ·rename_i v vs' h1 h2
   simp only [Option.some.injEq] at h
   subst h
   exact⟨hρ _ _ h1,argsA_den hρ h2⟩
  ·cases h
def ExA (P:Program) (s:Sem Next) (h:Heap) (Post:Value→Heap→Prop):Prop:=∀ B d,
 (∃ v d' h',s.run P (mk B d h)=.ok (.value v) (mk B d' h')∧Post v h') ∨
 (∃ d' h',s.run P (mk B d h)=.ok .skip (mk B d' h')∧Post undef h') ∨
 (∃ f args,s.run P (mk B d h)=.ok (.enter f args) (mk B d h)∧XC P f args h Post)
theorem ExA.upon {P:Program} {o:Oper} {σ:Operand→Value} {h:Heap} {Post:Value→Heap→Prop} (H:ExA P (execOp σ o) h Post) (B:World) (d:Nat) {a:Act} {next:Act→World→Prop} {Q:Exit→Act→World→Prop}
  (hn:∀ v d' h',Post v h'→next (a.put o.dst v) (mk B d' h')):o.upon P a next Q ((execOp σ o).run P (mk B d h)):=by
 rcases H B d with⟨v,d',h',e,hp⟩| ⟨d',h',e,hp⟩| ⟨f,args,e,hx⟩
 ·exact upon_value e (hn _ _ _ hp)
 ·exact upon_skip e (hn _ _ _ hp)
 ·rw [e]
  refine(hx B d).mono ?_
  rintro e' w' ⟨v,d',h'',rfl,rfl,h3⟩
  exact hn _ _ _ h3
theorem ExA.mono {P:Program} {s:Sem Next} {h:Heap} {Post Post':Value→Heap→Prop} (H:ExA P s h Post) (hp:∀ v h',Post v h'→Post' v h'):ExA P s h Post':=fun B d=>by
 rcases H B d with⟨v,d',h',e,q⟩| ⟨d',h',e,q⟩| ⟨f,args,e,hx⟩
 ·exact .inl ⟨v,d',h',e,hp _ _ q⟩
 ·exact .inr (.inl ⟨d',h',e,hp _ _ q⟩)
 ·exact .inr (.inr ⟨f,args,e,hx.mono hp⟩)
def PostA (h0:Heap) (W:Nat→Prop) (M0:Fr) (R:CS) (γ:Gh) (K:AV→CS→Option Nat→Prop) (v:Value) (h':Heap):Prop:=
 ∃ av C' c γ',K av C' c∧DenV γ' av v∧Inv h0 W M0 (C'++R) γ' h'∧Gx c γ γ'
theorem qA_ex {P:Program} {gl:Fr} (hgl:Fr.le gl M0) {o:Oper} {ρ:Operand→Option AV} {C R:CS} {K:AV→CS→Option Nat→Prop} (H:qA P gl o ρ none (C++R) fun av=>K av C none) {γ:Gh} {h:Heap} {σ:Operand→Value} (I:Inv h0 W M0 (C++R) γ h)
  (hρ:∀ x av,ρ x=some av→DenV γ av (σ x)):ExA P (execOp σ o) h (PostA h0 W M0 R γ K):=by
 obtain⟨av,h1,h2⟩:=qA_sound (h0:=h0) (W:=W) (M0:=M0) hgl H
 obtain⟨v,hd,hq⟩:=h2 trivial γ h σ I hρ
 exact fun B d=>.inl ⟨v,d,h,hq B d,av,C,none,γ,h1,hd,I,Gx.refl _ _⟩
def fnOf:Operand→Option FuncId
 | .func f=>some f
 | _=>none
def sigOf (P:Program) (tr:TypeId) (f:FuncId):Option (List Ty×List Ty):=match P.funcs[f]? with
 | some fn=>match tyL P tr fn.params.toList,tyL P tr fn.resultTypes.toList with
  | some a,some b=>some (a,b)
  | _,_=>none
 | none=>none
def callA (P:Program) (gl:Fr) (tr:TypeId) (o:Oper) (ρ:Operand→Option AV) (C R:CS) (K:AV→CS→Prop):Prop:=
 match o.op with
 | .call c=>match c.callee with
  | .value x=>match fnOf x with
   | some f=>bif callable P f then(match sigOf P tr f,argsA ρ c.args.toList with
    | some (ts,rt),some vs=>match collectArgs (frzL (ownsVs vs) C++R) ts vs with
     | some args=>PC P gl f args rt fun r=>K (retA rt r) (frzL (ownsVs vs) C)
     | none=>False
    | _,_=>False) else False
   | none=>False
  | _=>False
 | _=>False
def callG (P:Program) (gl:Fr) (tr:TypeId) (o:Oper) (ρ:Operand→Option AV) (b:Bool) (cs:CS) (K:AV→Prop):Prop:=
 match o.op with
 | .call c=>match c.callee with
  | .value x=>match fnOf x with
   | some f=>bif callable P f then(match sigOf P tr f,argsA ρ c.args.toList with
    | some (ts,rt),some vs=>match collectArgs cs ts vs with
     | some args=>∃ J:Els rt→Prop,(b=true→PC P gl f args rt J)∧∀ r,(b=true→J r)→K (retA rt r)
     | none=>False
    | _,_=>False) else False
   | none=>False
  | _=>False
 | _=>False
theorem fnOf_eq {x:Operand} {f:FuncId} (h:fnOf x=some f):x=.func f:=by
 unfold fnOf at h
 split at h
 ·simp only [Option.some.injEq] at h;rw [h]
 ·cases h
theorem enter_run {P:Program} {o:Oper} {c:Call} (ho:o.op=.call c) {f:FuncId} (hc:c.callee=.value (.func f)) (hf:callable P f=true) {σ:Operand→Value} (hσ:σ (.func f)=.func (.func f) #[] #[]) (w:World):
  (execOp σ o).run P w=.ok (.enter f (c.args.map σ)) w:=by
 simp only [execOp,ho,resolve,hc,hσ,Deferred.ofValue,Sem.run_bind,Sem.run_pure,Result.andThen_ok,invoke]
 rw [callFunc_run hf]
 simp
theorem call_ex {P:Program} {gl:Fr} (hgl:Fr.le gl M0) {f:FuncId} {args:List Arg} {rt:List Ty} {Rr:Els rt→Prop} (H:PC P gl f args rt Rr) {cs:CS} {γ:Gh} {h:Heap} (I:Inv h0 W M0 cs γ h) {us:List Value} (ha:ArgsOK γ.M args us):
  XC P f us.toArray h fun v h'=>∃ r γ',Rr r∧DenV γ' (retA rt r) v∧Inv h0 W M0 cs γ' h'∧Gx none γ γ'∧Keep h.size h h':=
 (H h γ.M us (hgl.trans I.le) I.ag ha).mono fun v h' ⟨k,M',r,e1,e2,e3,e4,e5⟩=>
  ⟨r,{ γ with M:=M' },e5,retA_den (γ:={ γ with M:=M' }) e4,I.call k e1 e2 e3,⟨e1,fun _ _=>⟨rfl,rfl⟩⟩,k⟩
theorem callA_ex {P:Program} {gl:Fr} (hgl:Fr.le gl M0) {tr:TypeId} {o:Oper} {ρ:Operand→Option AV} {C R:CS} {K:AV→CS→Option Nat→Prop} (H:callA P gl tr o ρ C R fun av C'=>K av C' none) {γ:Gh} {h:Heap} {σ:Operand→Value} (I:Inv h0 W M0 (C++R) γ h)
  (hσ:∀ f,σ (.func f)=.func (.func f) #[] #[]) (hρ:∀ x av,ρ x=some av→DenV γ av (σ x)):ExA P (execOp σ o) h (PostA h0 W M0 R γ K):=by
 unfold callA at H
 split at H
 ·rename_i c ho
  split at H
  ·rename_i x hx
   split at H
   ·rename_i f hf
    cases hcal:callable P f with
    | false=>rw [hcal] at H;exact H.elim
    | true=>
     rw [hcal] at H
     simp only [cond_true] at H
     split at H
     ·rename_i ts rt vs hs hvs
      split at H
      ·rename_i args hargs
       intro B d
       have e:=fnOf_eq hf
       subst e
       obtain⟨γ1,I1,g1⟩:=Inv.frzL (C:=C) (γ:=γ) (ownsVs vs) I
       have ha:=collectArgs_rd I1.fz hargs ((argsA_den hρ hvs).imp fun v _ u hu=>hu.gx g1 rfl)
       refine .inr (.inr ⟨f,c.args.map σ,enter_run ho hx hcal (hσ f) _,?_⟩)
       have e2:c.args.map σ=(c.args.toList.map σ).toArray:=by rw [← Array.toList_map]
       rw [e2]
       refine(call_ex hgl H I1 ha).mono ?_
       rintro v h' ⟨r,γ',h1,h2,h3,h4,_⟩
       exact⟨_,_,none,γ',h1,h2,h3,g1.1.trans h4.1,fun i hi=>⟨(h4.2 i hi).1.trans (g1.2 i hi).1,(h4.2 i hi).2.trans (g1.2 i hi).2⟩⟩
      ·exact H.elim
     ·exact H.elim
   ·exact H.elim
  ·exact H.elim
 ·exact H.elim
theorem callG_sound {P:Program} {gl:Fr} {tr:TypeId} {o:Oper} {ρ:Operand→Option AV} {b:Bool} {cs:CS} {K:AV→Prop} (H:callG P gl tr o ρ b cs K):(b=false→∃ av,K av) ∧
  (b=true→Fr.le gl M0→∀ γ h σ,Inv h0 W M0 cs γ h→(∀ f,σ (.func f)=.func (.func f) #[] #[])→(∀ x av,ρ x=some av→DenV γ av (σ x))→∃ f args,(∀ w,(execOp σ o).run P w=.ok (.enter f args) w) ∧
   XC P f args h fun v h'=>∃ av γ',K av∧DenV γ' av v∧Inv h0 W M0 cs γ' h'∧Gx none γ γ'∧Keep h.size h h'):=by
 unfold callG at H
 split at H
 ·rename_i c ho
  split at H
  ·rename_i x hx
   split at H
   ·rename_i f hf
    cases hcal:callable P f with
    | false=>rw [hcal] at H;exact H.elim
    | true=>
     rw [hcal] at H
     simp only [cond_true] at H
     split at H
     ·rename_i ts rt vs hs hvs
      split at H
      ·rename_i args hargs
       obtain⟨J,h1,h2⟩:=H
       refine⟨fun hb=>⟨_,h2 (dfltS rt) (fun h=>by rw [hb] at h;cases h)⟩,fun hb hgl γ h σ I hσ hρ=>?_⟩
       have e:=fnOf_eq hf
       subst e
       refine⟨f,c.args.map σ,fun w=>enter_run ho hx hcal (hσ f) w,?_⟩
       have e2:c.args.map σ=(c.args.toList.map σ).toArray:=by rw [← Array.toList_map]
       rw [e2]
       refine(call_ex hgl (h1 hb) I (collectArgs_rd I.fz hargs (argsA_den hρ hvs))).mono ?_
       rintro v h' ⟨r,γ',g1,g2,g3,g4,g5⟩
       exact⟨_,γ',h2 r (fun _=>g1),g2,g3,g4,g5⟩
      ·exact H.elim
     ·exact H.elim
   ·exact H.elim
  ·exact H.elim
 ·exact H.elim
end Go.X
end
section
namespace Go.X
open Go
set_option linter.unusedVariables false
variable {h0 : Heap} {W : Nat → Prop} {M0 : Fr}
def allocA (P:Program) (t:TypeId) (d:Nat) (C R:CS) (K:AV→CS→Option Nat→Prop):Prop:=match zeroOf P t with
 | some z=>bif noneC d R then(bif itB (z.cells.toList.map .v) then False else K (.g (.a (.box d 0))) ((d,.box (z.cells.toList.map .v))::purgeC d C) (some d)) else False
 | none=>False
theorem menL_map_v (c:Nat):∀ l:List Value,menL c (l.map .v)=false
 | []=>rfl
 | _::l=>by simp only [List.map_cons,menL,menA,cond_false,menL_map_v c l]
theorem newVar_run {P:Program} (t:TypeId) (v:Value) (B:World) (d:Nat) (h:Heap):(newVar t v).run P (mk B d h)=.ok ⟨h.size,0,none⟩ (mk B d (h.push (.cells v.cells t))):=rfl
theorem allocA_ex {P:Program} {t:TypeId} {o:Oper} (ho:o.op=.alloc t) {d:Nat} {C R:CS} {K:AV→CS→Option Nat→Prop} (H:allocA P t d C R K) {γ:Gh} {h:Heap} {σ:Operand→Value} (I:Inv h0 W M0 (C++R) γ h):ExA P (execOp σ o) h (PostA h0 W M0 R γ K):=by
 unfold allocA at H
 split at H
 ·rename_i z hz
  cases hR:noneC d R with
  | false=>rw [hR] at H;exact H.elim
  | true=>
   rw [hR] at H
   cases hit:itB (z.cells.toList.map .v) with
   | true=>rw [hit] at H;exact H.elim
   | false=>
   rw [hit] at H
   intro B e
   refine .inl ⟨.pointer (some ⟨h.size,0,none⟩),e,h.push (.cells z.cells t),?_,_,_,_,setβ γ d h.size,H,?_,?_,setβ_gx _ _ _⟩
   ·have hzr:=zeroOf_run hz h B e
    simp only [execOp,ho]
    refine run_v ?_
    unfold Instr.alloc
    rw [Sem.run_bind,hzr]
    simp only [Result.andThen_ok]
    rw [Sem.run_bind,newVar_run]
    rfl
   ·simp only [DenV,DenG,DenA,setβ_same]
   ·have:=I.newBox (c:=d) hR (map_v_den γ z.cells.toList) (menL_map_v d _) hit t
    simpa using this
 ·exact H.elim
def boxA (t:TypeId) (d:Nat) (l:List AA) (C R:CS) (K:AV→CS→Option Nat→Prop):Prop:=
 bif noneC d R then(bif menL d l then False else(bif itB l then False else K (.g (.a (.box d 0))) ((d,.box l)::purgeC d C) (some d))) else False
theorem boxA_ex {P:Program} {t:TypeId} {x:Operand} {o:Oper} (ho:o.op=.box t x) {d:Nat} {l:List AA} {C R:CS} {K:AV→CS→Option Nat→Prop} (H:boxA t d l C R K) {γ:Gh} {h:Heap} {σ:Operand→Value} (I:Inv h0 W M0 (C++R) γ h)
  (hl:All2 (DenA γ) l (σ x).cells.toList):ExA P (execOp σ o) h (PostA h0 W M0 R γ K):=by
 unfold boxA at H
 cases hR:noneC d R with
 | false=>rw [hR] at H;exact H.elim
 | true=>
  rw [hR] at H
  cases hm:menL d l with
  | true=>rw [hm] at H;exact H.elim
  | false=>
   rw [hm] at H
   cases hit:itB l with
   | true=>rw [hit] at H;exact H.elim
   | false=>
   rw [hit] at H
   intro B e
   refine .inl ⟨.pointer (some ⟨h.size,0,none⟩),e,h.push (.cells (σ x).cells t),?_,_,_,_,setβ γ d h.size,H,?_,?_,setβ_gx _ _ _⟩
   ·simp only [execOp,ho]
    refine run_v ?_
    unfold Instr.box
    rw [Sem.run_bind,newVar_run]
    rfl
   ·simp only [DenV,DenG,DenA,setβ_same]
   ·have:=I.newBox (c:=d) hR hl hm hit t
    simpa using this
def okCell:AA→Bool
 | .v x=>x.oneCell'
 | _=>true
def okCells:List AA→Bool
 | []=>true
 | x::l=>bif okCell x then okCells l else false
theorem okCell_den {γ:Gh} {x:AA} {u:Value} (h:okCell x=true) (hd:DenA γ x u):u.oneCell'=true:=by
 cases x with
 | v y=>rw [show u=y from hd];exact h
 | d t y=>exact Rd.one (show Rd γ.M t y [u] from hd) u (by simp)
 | box c o=>rw [show u=_ from hd];rfl
 | own c=>rw [show u=_ from hd];rfl
 | oelt c z i o=>obtain⟨g,_,e⟩:=hd;rw [e];rfl
 | elt t y o=>obtain⟨b,f,cs,e,_⟩:=hd;rw [e];rfl
 | dc t xs=>obtain⟨s,e,_⟩:=hd;rw [e];rfl
theorem okCells_den {γ:Gh}:∀ {l:List AA} {us:List Value},okCells l=true→All2 (DenA γ) l us→∀ u∈us,u.oneCell'=true
 | [],[],_,_,u,hu=>by cases hu
 | [],_::_,_,h,_,_=>h.elim
 | _::_,[],_,h,_,_=>h.elim
 | x::l,v::us,h,hd,u,hu=>by
  simp only [okCells] at h
  cases hx:okCell x with
  | false=>rw [hx] at h;cases h
  | true=>
   rw [hx] at h
   rcases List.mem_cons.1 hu with rfl | hu
   ·exact okCell_den hx hd.1
   ·exact okCells_den h hd.2 u hu
def noId (c:Nat):CS→Bool
 | []=>true
 | (j,_)::l=>bif Nat.beq j c then false else noId c l
theorem noId_mem {c:Nat}:∀ {l:CS},noId c l=true→∀ x∈l,x.1≠c
 | [],_,x,hx=>by cases hx
 | (j,k)::l,h,x,hx=>by
  simp only [noId] at h
  cases hb:Nat.beq j c with
  | true=>rw [hb] at h;cases h
  | false=>
   rw [hb] at h
   rcases List.mem_cons.1 hx with rfl | hx
   ·intro e;simp only at e;subst e;simp at hb
   ·exact noId_mem h x hx
theorem store_shift {P:Program} {g o:Nat}:∀ (vs:List Value) (i:Nat) (w:World),(storeCells ⟨g,o,none⟩ vs i).run P w=(storeCells ⟨g,0,none⟩ vs (o+i)).run P w
 | [],i,w=>rfl
 | v::vs,i,w=>by
  unfold storeCells
  rw [Sem.run_bind,Sem.run_bind,add_none,add_none,Nat.zero_add]
  congr 1
  funext a w'
  exact store_shift vs (i+1) w'
theorem storeAt_run {P:Program} {t:TypeId} {n:Nat} (hi:okInfo P t=true) (hs:szOf P t=n) {h:Heap} {b o:Nat} {cs:Array Value} {T:TypeId} (e:h[b]?=some (.cells cs T (0,0))) {v:Value} (hv:v.cells.size=n) (hl:o+n≤cs.size) (h1:∀ u∈v.cells.toList,u.oneCell'=true) (B:World) (d:Nat):
  ∃ h',(Instr.storeAt t (.pointer (some ⟨b,o,none⟩)) v).run P (mk B d h)=.ok () (mk B d h')∧h'[b]?=some (.cells (cs.toList.take o++v.cells.toList++cs.toList.drop (o+n)).toArray T (0,0))∧h'.size=h.size∧∀ j,j≠b→h'[j]?=h[j]?:=by
 obtain⟨h',r1,r2,r3,r4⟩:=storeCells_run (P:=P) B d v.cells.toList (o+0) h cs e (by simp;omega) h1
 refine⟨h',?_,by rw [r2];simp [hv],r3,r4⟩
 have hz:=QExec.sizeOf (P:=P) (h:=h) (okInfo_some hi).choose_spec B d
 unfold Instr.storeAt Instr.sureAddr
 simp only [Sem.run_bind,Sem.run_pure,Result.andThen_ok]
 unfold storeVar
 rw [Sem.run_bind,hz]
 simp only [Result.andThen_ok]
 rw [hs,hv]
 simp only [ne_eq,not_true_eq_false,if_false]
 rw [store_shift]
 exact r1
theorem splice_get {α:Type} {L vs:List α} {p:Nat} (h:p+vs.length≤L.length) (q:Nat):(L.take p++vs++L.drop (p+vs.length))[q]?=if q < p then L[q]? else if q < p+vs.length then vs[q - p]? else L[q]?:=by
 have h1:(L.take p).length=p:=by simp;omega
 by_cases h2:q < p
 ·rw [if_pos h2,List.append_assoc,List.getElem?_append_left (by omega),List.getElem?_take,if_pos h2]
 ·rw [if_neg h2]
  by_cases h3:q < p+vs.length
  ·rw [if_pos h3,List.getElem?_append_left (by rw [List.length_append,h1];omega),List.getElem?_append_right (by omega),h1]
  ·rw [if_neg h3,List.getElem?_append_right (by rw [List.length_append,h1];omega),List.getElem?_drop,List.length_append,h1]
   congr 1;omega
theorem RowC.set {M:Fr} {t:Ty} {xs:List (El t)} {cells:List Value} (H:RowC M t xs cells) {i:Nat} (hi:i < xs.length) {y:El t} {o:Nat} {vs:List Value} (hl:o+vs.length≤sz t)
  (hy:Rd M t y ((((cells.drop (i*sz t)).take (sz t)).take o)++vs++(((cells.drop (i*sz t)).take (sz t)).drop (o+vs.length)))):
  RowC M t (xs.set i y) (cells.take (i*sz t+o)++vs++cells.drop (i*sz t+o+vs.length)):=by
 have hle:(i+1)*sz t≤cells.length:=by rw [H.1];exact Nat.mul_le_mul_right _ hi
 rw [Nat.add_mul,Nat.one_mul] at hle
 have hE:((cells.drop (i*sz t)).take (sz t)).length=sz t:=by rw [List.length_take,List.length_drop];omega
 refine⟨?_,fun j hj=>?_⟩
 ·rw [List.length_set,← H.1]
  simp only [List.length_append,List.length_take,List.length_drop];omega
 ·rw [List.length_set] at hj
  by_cases hji:i=j
  ·subst hji
   rw [List.getElem_set_self]
   have e:(((cells.take (i*sz t+o)++vs++cells.drop (i*sz t+o+vs.length)).drop (i*sz t)).take (sz t))=(((cells.drop (i*sz t)).take (sz t)).take o)++vs++(((cells.drop (i*sz t)).take (sz t)).drop (o+vs.length)):=by
    apply List.ext_getElem?
    intro k
    rw [splice_get (by rw [hE];exact hl),List.getElem?_take,List.getElem?_take,List.getElem?_drop,List.getElem?_drop,splice_get (by omega)]
    by_cases hk:k < sz t
    ·simp only [hk,if_true]
     by_cases h1:k < o
     ·rw [if_pos (by omega),if_pos h1]
     ·rw [if_neg (by omega),if_neg h1]
      by_cases h2:k < o+vs.length
      ·rw [if_pos (by omega),if_pos h2];congr 1;omega
      ·rw [if_neg (by omega),if_neg h2]
    ·simp only [hk,if_false]
     rw [if_neg (by omega),if_neg (by omega)]
   rw [e];exact hy
  ·rw [List.getElem_set_ne hji]
   have e:(((cells.take (i*sz t+o)++vs++cells.drop (i*sz t+o+vs.length)).drop (j*sz t)).take (sz t))=(cells.drop (j*sz t)).take (sz t):=by
    apply List.ext_getElem?
    intro k
    rw [List.getElem?_take,List.getElem?_take,List.getElem?_drop,List.getElem?_drop,splice_get (by omega)]
    by_cases hk:k < sz t
    ·simp only [hk,if_true]
     rcases Nat.lt_or_ge j i with h1 | h1
     ·have:(j+1)*sz t≤i*sz t:=Nat.mul_le_mul_right _ h1
      rw [Nat.add_mul,Nat.one_mul] at this
      rw [if_pos (by omega)]
     ·have h2:i+1≤j:=by omega
      have:(i+1)*sz t≤j*sz t:=Nat.mul_le_mul_right _ h2
      rw [Nat.add_mul,Nat.one_mul] at this
      rw [if_neg (by omega),if_neg (by omega)]
    ·simp only [hk,if_false]
   rw [e];exact H.2 j hj
theorem Inv.setRow {C R:CS} {γ:Gh} {h h':Heap} (I:Inv h0 W M0 (C++R) γ h) {c:Nat} {e:TypeId} {t:Ty} {xs xs':List (El t)} (hc:(c,Ch.row e t xs)∈C) {g:Nat} (hg:(γ.σ c).a.map (·.block)=some g)
  (ho:∀ i,i≠g→h'[i]?=h[i]?) (hs:h'.size=h.size) (hd:DenC h0.size γ h' c (.row e t xs')) (hR:∀ x∈R,x.1≠c):Inv h0 W M0 ((c,.row e t xs')::delC c C++R) γ h':=by
 have hsep:=I.sep _ (List.mem_append_left R hc) g hg
 have hap:∀ x∈delC c C++R,blk γ x.1 x.2≠some g:=by
  intro x hx
  have hne:x≠(c,Ch.row e t xs):=by
   rintro rfl
   rcases List.mem_append.1 hx with hx | hx
   ·exact(delC_mem hx).2 rfl
   ·exact hR _ hx rfl
  have hx':x∈C++R:=((delC_sub c C).append_right R).subset hx
  have hp:=@pair_mem _ (fun(x y:Nat×Ch)=>∀ b,blk γ x.1 x.2=some b→blk γ y.1 y.2≠some b) (fun x y h b hb hb'=>h b hb' hb) _ I.apart
  intro hb
  exact hp (List.mem_append_left R hc) hx' (fun e=>hne e.symm) _ hg hb
 have hI:Inv h0 W M0 (delC c C++R) γ h':=by
  refine I.rest ((delC_sub c C).append_right R) (c:=none) (Gx.refl _ _) (fun x _=>⟨by simp,rfl⟩) (fun x hx b hb=>?_) (fun b cc eM=>?_) (fun i hi hw=>?_) (by omega) (fun b hb=>rfl)
  ·exact⟨ho b fun e'=>hap x hx (e' ▸ hb),(I.sep x (((delC_sub c C).append_right R).subset hx) b hb).2⟩
  ·obtain⟨T',m,e'⟩:=I.ag b cc eM
   exact⟨T',m,by rw [ho b fun e2=>by rw [e2,hsep.2] at eM;cases eM];exact e'⟩
  ·refine ho i fun e'=>?_
   have h2:=hsep.1
   rcases h2 with h1 | h1
   ·omega
   ·rw [e'] at hw;exact hw h1
 refine hI.cons hd (fun b hb=>?_) (fun b hb x hx=>?_)
 ·simp only [blk,hg,Option.some.injEq] at hb;subst hb;exact hsep
 ·simp only [blk,hg,Option.some.injEq] at hb;subst hb;exact hap x hx
def storeA (P:Program) (t:TypeId) (aa:AA) (l2:List AA) (C R:CS) (K:AV→CS→Option Nat→Prop):Prop:=
 bif okInfo P t then(bif Nat.beq l2.length (szOf P t) then(bif okCells l2 then(match aa with
 | .box c o=>match findC C c with
  | some (.box l)=>bif noId c R then(bif (bif itB l then true else itB (l.take o++l2++l.drop (o+l2.length))) then False else(bif Nat.ble (o+l2.length) l.length then K (ofVal undef) ((c,.box (l.take o++l2++l.drop (o+l2.length)))::delC c C) none else False)) else False
  | _=>False
 | .oelt c z i o=>match findC (frzL (ownsL l2) C) c with
  | some (.row e ty xs)=>bif noId c R then(bif Nat.beq z (sz ty) then(bif Nat.ble (o+l2.length) (sz ty) then ∃ y:El ty,xs[i]?=some y∧(match collect (frzL (ownsL l2) C++R) ty ((expand ty y).take o++l2++(expand ty y).drop (o+l2.length)) with
   | some (y',[])=>K (ofVal undef) ((c,.row e ty (xs.set i y'))::delC c (frzL (ownsL l2) C)) none
   | _=>False) else False) else False) else False
  | _=>False
 | _=>False) else False) else False) else False
theorem storeA_ex {P:Program} {t:TypeId} {a x:Operand} {o:Oper} (ho:o.op=.store t a x) {aa:AA} {l2:List AA} {C R:CS} {K:AV→CS→Option Nat→Prop} (H:storeA P t aa l2 C R K) {γ:Gh} {h:Heap} {σ:Operand→Value} (I:Inv h0 W M0 (C++R) γ h)
  (hl:All2 (DenA γ) l2 (σ x).cells.toList) (ha:DenA γ aa (σ a)):ExA P (execOp σ o) h (PostA h0 W M0 R γ K):=by
 unfold storeA at H
 cases hi:okInfo P t with
 | false=>rw [hi] at H;exact H.elim
 | true=>
  rw [hi] at H
  cases hn:Nat.beq l2.length (szOf P t) with
  | false=>rw [hn] at H;exact H.elim
  | true=>
   rw [hn] at H
   cases hok:okCells l2 with
   | false=>rw [hok] at H;exact H.elim
   | true=>
    rw [hok] at H
    have hn':l2.length=szOf P t:=Nat.eq_of_beq_eq_true hn
    have hsz:(σ x).cells.size=szOf P t:=by rw [← hn',hl.length];simp
    have h1:=okCells_den hok hl
    simp only [cond_true] at H
    split at H
    ·rename_i c off
     split at H
     ·rename_i l hc
      cases hR:noId c R with
      | false=>rw [hR] at H;exact H.elim
      | true=>
       rw [hR] at H
       cases hit:itB l with
       | true=>rw [hit] at H;exact H.elim
       | false=>
       rw [hit] at H
       cases hit2:itB (l.take off++l2++l.drop (off+l2.length)) with
       | true=>rw [hit2] at H;exact H.elim
       | false=>
       rw [hit2] at H
       simp only [cond_true,cond_false] at H
       cases hble:Nat.ble (off+l2.length) l.length with
       | false=>rw [hble] at H;exact H.elim
       | true=>
        rw [hble] at H
        have hle:=Nat.le_of_ble_eq_true hble
        obtain⟨us,e,h2⟩:=I.den _ (List.mem_append_left R (findC_mem hc))
        rcases e with⟨⟨T,e⟩,_⟩| ⟨s,p,e,_⟩
        case inr=>exact absurd e (itB_no hit h2 s p)
        have hul:=h2.length
        intro B d
        obtain⟨h',r1,r2,r3,r4⟩:=storeAt_run (P:=P) hi rfl e (o:=off) hsz (by simp;omega) h1 B d
        refine .inr (.inl ⟨d,h',?_,_,_,_,γ,H,ofVal_den _ _,?_,Gx.refl _ _⟩)
        ·simp only [execOp,ho]
         rw [show σ a=_ from ha]
         exact run_u r1
        ·refine I.setBox (findC_mem hc) (us:=us.take off++(σ x).cells.toList++us.drop (off+l2.length)) (.inl ⟨⟨T,?_⟩,fun s p=>itB_no hit2 (((h2.take off).append hl).append (h2.drop _)) s p⟩) r4 r3 ?_ (noId_mem hR)
         ·rw [r2,hn']
         ·exact((h2.take off).append hl).append (h2.drop _)
     ·exact H.elim
    ·rename_i c z i off
     split at H
     ·rename_i e ty xs hc
      cases hR:noId c R with
      | false=>rw [hR] at H;exact H.elim
      | true=>
       rw [hR] at H
       cases hz:Nat.beq z (sz ty) with
       | false=>rw [hz] at H;exact H.elim
       | true=>
        rw [hz] at H
        cases hble:Nat.ble (off+l2.length) (sz ty) with
        | false=>rw [hble] at H;exact H.elim
        | true=>
         rw [hble] at H
         simp only [cond_true] at H
         obtain⟨y,hy,H⟩:=H
         split at H
         ·rename_i y' hcol
          have hle:=Nat.le_of_ble_eq_true hble
          obtain⟨γ1,I1,g1⟩:=Inv.frzL (C:=C) (γ:=γ) (ownsL l2) I
          have ha1:=ha.gx g1 rfl
          have hl1:=DenL.gx (c:=none) g1 rfl hl
          rw [Nat.eq_of_beq_eq_true hz] at ha1
          obtain⟨g,hg,hpt⟩:=ha1
          have hmem:=findC_mem hc
          obtain⟨cells,hown,hrow,hbound,hlen⟩:=I1.den _ (List.mem_append_left R hmem)
          simp only at hown hrow hbound hlen
          have hil:i < xs.length:=(List.getElem?_eq_some_iff.1 hy).1
          have hyx:xs[i]=y:=(List.getElem?_eq_some_iff.1 hy).2
          rcases hown.2 with⟨hv,hz0⟩| ⟨g',cap,cur,hv,hbg,hg',hnc,hcap,hcs,htake⟩
          ·omega
          simp only [Value.slice.injEq] at hv
          have hgg:g'=g:=by
           have:=hv.1;rw [hg] at this;simp only [Option.some.injEq,Addr.mk.injEq] at this;exact this.1.symm
          subst hgg
          have hrowlen:cells.length=xs.length*sz ty:=hrow.1
          have hile:(i+1)*sz ty≤xs.length*sz ty:=Nat.mul_le_mul_right _ hil
          rw [Nat.add_mul,Nat.one_mul] at hile
          have hcapsz:xs.length*sz ty≤cap*sz ty:=Nat.mul_le_mul_right _ (by omega)
          have hvl:(σ x).cells.toList.length=l2.length:=hl.length.symm
          intro B d
          obtain⟨h',r1,r2,r3,r4⟩:=storeAt_run (P:=P) hi rfl hg' (o:=i*sz ty+off) hsz (by rw [hcs];omega) h1 B d
          refine .inr (.inl ⟨d,h',?_,_,_,_,γ1,H,ofVal_den _ _,?_,g1⟩)
          ·simp only [execOp,ho]
           rw [hpt]
           exact run_u r1
          ·refine I1.setRow hmem (g:=g') (by rw [hg];rfl) r4 r3 ?_ (noId_mem hR)
           have hE:=hrow.2 i hil
           rw [hyx] at hE
           have hEx:=expand_den (γ:=γ1) hE
           have hnew:=((hEx.take off).append hl1).append (hEx.drop (off+l2.length))
           obtain⟨c1,c2,e1,r5,r6⟩:=collect_rd I1.fz hcol hnew
           cases c2 with
           | cons _ _=>exact r6.elim
           | nil=>
            rw [List.append_nil] at e1
            rw [← e1] at r5
            have hset:=hrow.set hil (o:=off) (vs:=(σ x).cells.toList) (by rw [hvl];exact hle) (by rw [hvl];exact r5)
            refine⟨_,⟨?_,.inr ⟨g',cap,_,by simp [hv],hbg,r2,hnc,hcap,?_,?_⟩⟩,hset,by simpa using hbound,by simpa using hlen⟩
            ·rw [hset.1,hlen,List.length_set]
            ·simp only [List.size_toArray,List.length_append,List.length_take,List.length_drop,Array.length_toList]
             have:(σ x).cells.toList.length=szOf P t:=by simpa using hsz
             simp only [Array.length_toList] at this
             rw [this,hcs];omega
            ·apply List.ext_getElem?
             intro k
             have hszl:(σ x).cells.toList.length=szOf P t:=by simpa using hsz
             rw [List.getElem?_take,← hszl]
             simp only
             rw [splice_get (L:=cells) (by rw [hrowlen];omega)]
             have hcl:cells=cur.toList.take (xs.length*sz ty):=by rw [← htake,hlen]
             rw [splice_get (L:=cur.toList) (by simp only [Array.length_toList];rw [hcs];simp only [Array.length_toList] at hvl;omega),hcl,hlen]
             by_cases hk:k < xs.length*sz ty
             ·rw [if_pos hk,List.getElem?_take,if_pos hk]
             ·rw [if_neg hk,List.getElem?_take,if_neg hk]
              rw [if_neg (by omega),if_neg (by omega)]
         ·exact H.elim
     ·exact H.elim
    ·exact H.elim
def nxB (s:ByteArray) (p:Nat):Bool:=Nat.blt p s.size
def nxP (s:ByteArray) (p:Nat):Nat:=bif Nat.blt p s.size then p+(Utf8.decode s p).2 else p
def nxR (s:ByteArray) (p:Nat):Int:=((Utf8.decode s p).1:Int)
def rangeA (P:Program) (t:TypeId) (av:AV) (d:Nat) (C R:CS) (K:AV→CS→Option Nat→Prop):Prop:=match av,P.underlying t with
 | .g (.a (.v (.string s))),some .string=>bif noneC d R then K (.g (.a (.box d 0))) ((d,.box [.d .iter (s,0)])::purgeC d C) (some d) else False
 | _,_=>False
theorem rangeA_ex {P:Program} {t:TypeId} {x:Operand} {o:Oper} (ho:o.op=.range t x) {av:AV} {d:Nat} {C R:CS} {K:AV→CS→Option Nat→Prop} (H:rangeA P t av d C R K) {γ:Gh} {h:Heap} {σ:Operand→Value} (I:Inv h0 W M0 (C++R) γ h)
  (hd:DenV γ av (σ x)):ExA P (execOp σ o) h (PostA h0 W M0 R γ K):=by
 unfold rangeA at H
 split at H
 ·rename_i s hu
  cases hR:noneC d R with
  | false=>rw [hR] at H;exact H.elim
  | true=>
   rw [hR] at H
   intro B e
   refine .inl ⟨.pointer (some ⟨h.size,0,none⟩),e,h.push (.stringIter s 0),?_,_,_,_,setβ γ d h.size,H,?_,?_,setβ_gx _ _ _⟩
   ·simp only [execOp,ho,show σ x=.string s from hd]
    refine run_v ?_
    have hq:=QExec.underlying (h:=h) hu B e
    unfold Instr.range
    rw [Sem.run_bind,hq]
    rfl
   ·simp only [DenV,DenG,DenA,setβ_same]
   ·exact Inv.newBoxO (c:=d) I hR (l:=[.d .iter (s,0)]) (us:=[iterV s 0]) ⟨rfl,trivial⟩ rfl (.inr ⟨s,0,rfl,rfl⟩)
 ·exact H.elim
def nextA (av:AV) (C R:CS) (K:AV→CS→Option Nat→Prop):Prop:=match av with
 | .g (.a (.box c 0))=>match findC C c with
  | some (.box [.d .iter x])=>bif noId c R then K (.nx (nxB x.1 x.2) (x.2:Int) (nxR x.1 x.2)) ((c,.box [.d .iter (x.1,nxP x.1 x.2)])::delC c C) none else False
  | _=>False
 | _=>False
theorem nextA_ex {P:Program} {x:Operand} {o:Oper} (ho:o.op=.next x true) {av:AV} {C R:CS} {K:AV→CS→Option Nat→Prop} (H:nextA av C R K) {γ:Gh} {h:Heap} {σ:Operand→Value} (I:Inv h0 W M0 (C++R) γ h)
  (hd:DenV γ av (σ x)):ExA P (execOp σ o) h (PostA h0 W M0 R γ K):=by
 unfold nextA at H
 split at H
 ·rename_i c
  split at H
  ·rename_i y hc
   cases hR:noId c R with
   | false=>rw [hR] at H;exact H.elim
   | true=>
    rw [hR] at H
    simp only [cond_true] at H
    obtain⟨us,ob,h2⟩:=I.den _ (List.mem_append_left R (findC_mem hc))
    have hus:us=[iterV y.1 y.2]:=by
     match us,h2 with
     | [u],h2=>
      have h3:Rd γ.M .iter y [u]:=h2.1
      simpa [Rd] using h3
    subst hus
    have hob:h[γ.β c]?=some (.stringIter y.1 y.2):=by
     rcases ob with⟨_,e⟩| ⟨s,p,e1,e2⟩
     ·exact absurd rfl (e _ _)
     ·have e3:y.1=s∧y.2=p:=by
       simp only [iterV,List.cons.injEq,Value.iface.injEq,Value.agg.injEq,Array.mk.injEq,Value.string.injEq,Value.int.injEq,and_true,true_and] at e1
       exact⟨e1.1,by omega⟩
      rw [e2,e3.1,e3.2]
    have hlt:γ.β c < h.size:=(Array.getElem?_eq_some_iff.1 hob).1
    intro B d
    have hg:∀ (w:World),w.heap[γ.β c]?=some (.stringIter y.1 y.2)→(getObj (γ.β c)).run P w=.ok (.stringIter y.1 y.2) w:=fun w e=>by simp [getObj,Sem.run,e]
    have hs:∀ (w:World) (o':Obj),w.heap[γ.β c]?=some (.stringIter y.1 y.2)→(setObj (γ.β c) o').run P w=.ok () { w with heap:=w.heap.setIfInBounds (γ.β c) o' }:=fun w o' e=>by simp [setObj,Sem.run,e]
    have hx:σ x=.pointer (some ⟨γ.β c,0,none⟩):=hd
    by_cases hb:y.2 < y.1.size
    ·have eb:nxB y.1 y.2=true:=by simpa [nxB,Nat.blt_eq] using hb
     have ep:nxP y.1 y.2=y.2+(Utf8.decode y.1 y.2).2:=by unfold nxP;rw [show Nat.blt y.2 y.1.size=true from eb];rfl
     refine .inl ⟨.tuple #[.bool true,.int .i64 y.2,.int .i32 (nxR y.1 y.2)],d,h.setIfInBounds (γ.β c) (.stringIter y.1 (nxP y.1 y.2)),?_,_,_,_,γ,H,⟨fun _=>rfl,fun hc=>by rw [eb] at hc;cases hc⟩,?_,Gx.refl _ _⟩
     ·simp only [execOp,ho,hx]
      refine run_v ?_
      unfold Instr.next
      simp only
      rw [Sem.run_bind,hg _ hob]
      simp only [Result.andThen_ok,hb,if_true]
      rw [Sem.run_bind,hs _ _ hob,ep]
      rfl
     ·refine I.setBox (findC_mem hc) (us:=[iterV y.1 (nxP y.1 y.2)]) (.inr ⟨_,_,rfl,by simp [hlt]⟩) (fun i hi=>by simp [Array.getElem?_setIfInBounds_ne (Ne.symm hi)]) (by simp) ⟨rfl,trivial⟩ (noId_mem hR)
    ·have eb:nxB y.1 y.2=false:=by
      cases h:nxB y.1 y.2 with
      | false=>rfl
      | true=>exact absurd (by simpa [nxB,Nat.blt_eq] using h) hb
     have ep:nxP y.1 y.2=y.2:=by unfold nxP;rw [show Nat.blt y.2 y.1.size=false from eb];rfl
     refine .inl ⟨.tuple #[.bool false],d,h,?_,_,_,_,γ,H,⟨fun hc=>(by rw [eb] at hc;cases hc),fun _=>rfl⟩,?_,Gx.refl _ _⟩
     ·simp only [execOp,ho,hx]
      refine run_v ?_
      unfold Instr.next
      simp only
      rw [Sem.run_bind,hg _ hob]
      simp only [Result.andThen_ok,hb,if_false]
      rfl
     ·refine I.setBox (findC_mem hc) (us:=[iterV y.1 (nxP y.1 y.2)]) (.inr ⟨_,_,rfl,by rw [ep];exact hob⟩) (fun i hi=>rfl) rfl ⟨rfl,trivial⟩ (noId_mem hR)
  ·exact H.elim
 ·exact H.elim
end Go.X
end
section
namespace Go.X
open Go
set_option linter.unusedVariables false
variable {h0 : Heap} {W : Nat → Prop} {M0 : Fr}
def collectN (cs:CS) (t:Ty):Nat→List AA→Option (List (El t)×List AA)
 | 0,l=>some ([],l)
 | n+1,l=>match collect cs t l with
  | some (y,l')=>match collectN cs t n l' with
   | some (ys,l'')=>some (y::ys,l'')
   | none=>none
  | none=>none
theorem collectN_rd {γ:Gh} {cs:CS} (hf:FzOk γ cs) {t:Ty}:∀ {n:Nat} {l l':List AA} {ys:List (El t)},collectN cs t n l=some (ys,l')→∀ {us:List Value},All2 (DenA γ) l us→∃ c1 c2,us=c1++c2∧RowC γ.M t ys c1∧ys.length=n∧All2 (DenA γ) l' c2
 | 0,l,l',ys,h,us,hu=>by
  simp only [collectN,Option.some.injEq,Prod.mk.injEq] at h
  obtain⟨rfl,rfl⟩:=h
  exact⟨[],us,rfl,RowC.nil _ _,rfl,hu⟩
 | n+1,l,l',ys,h,us,hu=>by
  simp only [collectN] at h
  split at h
  ·rename_i y l1 h1
   split at h
   ·rename_i ys' l2 h2
    simp only [Option.some.injEq,Prod.mk.injEq] at h
    obtain⟨rfl,rfl⟩:=h
    obtain⟨c1,c2,rfl,r1,r2⟩:=collect_rd hf h1 hu
    obtain⟨c3,c4,rfl,r3,r4,r5⟩:=collectN_rd hf h2 r2
    exact⟨c1++c3,c4,by simp,by simpa using (RowC.single r1).append r3,by simp [r4],r5⟩
   ·cases h
  ·cases h
def zerosOf (P:Program) (el:TypeId) (k:Nat):Option (List Value):=bif Nat.beq k 0 then some [] else(match zeroOf P el with
 | some z=>some ((Array.range k).map (z.cells[· % z.cells.size]!)).toList
 | none=>none)
def sndL:List (Nat×AV)→List AV
 | []=>[]
 | (_,v)::l=>v::sndL l
def buildSliceA (P:Program) (tr:TypeId) (t:TypeId) (n:Nat) (ps:List (Nat×AV)) (d:Nat) (C R:CS) (K:AV→CS→Option Nat→Prop):Prop:=
 match elOk P t with
 | some el=>match tyOf P tr 8 el,zerosOf P el (n*szOf P el) with
  | some ty,some zs=>bif Nat.beq (szOf P el) (sz ty) then(bif Nat.ble (n*szOf P el) 16777216 then(bif Nat.blt 0 (szOf P el) then(bif noneC d R then(match fillA (fun i=>some (i*szOf P el,szOf P el)) (zs.map .v) ps with
   | some r=>match collectN (frzL (ownsVs (sndL ps)) C++R) ty n r with
    | some (ys,[])=>K (.g (.a (.own d))) ((d,.row el ty ys)::purgeC d (frzL (ownsVs (sndL ps)) C)) (some d)
    | _=>False
   | none=>False) else False) else False) else False) else False
  | _,_=>False
 | none=>False
theorem buildSliceA_ex {P:Program} {tr t:TypeId} {n:Nat} {parts:Array (Nat×Operand)} {o:Oper} (ho:o.op=.buildSlice t n parts) {ps:List (Nat×AV)} {ρ:Operand→Option AV} (hps:partsA ρ parts.toList=some ps) {d:Nat} {C R:CS} {K:AV→CS→Option Nat→Prop}
  (H:buildSliceA P tr t n ps d C R K) {γ:Gh} {h:Heap} {σ:Operand→Value} (I:Inv h0 W M0 (C++R) γ h) (hρ:∀ x av,ρ x=some av→DenV γ av (σ x)):ExA P (execOp σ o) h (PostA h0 W M0 R γ K):=by
 unfold buildSliceA at H
 split at H
 ·rename_i el hel
  obtain⟨hu,hok⟩:=elOk_some hel
  split at H
  ·rename_i ty zs hty hzs
   cases hz:Nat.beq (szOf P el) (sz ty) with
   | false=>rw [hz] at H;exact H.elim
   | true=>
   rw [hz] at H
   cases hb1:Nat.ble (n*szOf P el) 16777216 with
   | false=>rw [hb1] at H;exact H.elim
   | true=>
   rw [hb1] at H
   cases hb2:Nat.blt 0 (szOf P el) with
   | false=>rw [hb2] at H;exact H.elim
   | true=>
   rw [hb2] at H
   cases hR:noneC d R with
   | false=>rw [hR] at H;exact H.elim
   | true=>
   rw [hR] at H
   simp only [cond_true] at H
   split at H
   ·rename_i r hr
    split at H
    ·rename_i ys hys
     obtain⟨γ1,I1,g1⟩:=Inv.frzL (C:=C) (γ:=γ) (ownsVs (sndL ps)) I
     have hρ1:∀ x av,ρ x=some av→DenV γ1 av (σ x):=fun x av hx=>(hρ x av hx).gx g1 rfl
     obtain⟨ws,e1,e2⟩:=fillA_sound hr (map_v_den γ1 zs) (partsA_den hρ1 hps)
     obtain⟨c1,c2,rfl,r3,r4,r5⟩:=collectN_rd I1.fz hys e2
     cases c2 with
     | cons _ _=>exact r5.elim
     | nil=>
     rw [List.append_nil] at *
     have hsz:=Nat.eq_of_beq_eq_true hz
     have hpos:0 < szOf P el:=by simpa [Nat.blt_eq] using hb2
     have hbn:n*szOf P el≤16777216:=Nat.le_of_ble_eq_true hb1
     have hn:n≤n*szOf P el:=Nat.le_mul_of_pos_right _ hpos
     have hcl:c1.length=n*szOf P el:=by rw [r3.1,r4,hsz]
     intro B e
     refine .inl ⟨.slice (some ⟨h.size,0,none⟩) n n,e,h.push (.cells c1.toArray el),?_,_,_,_,setσ γ1 d ⟨some ⟨h.size,0,none⟩,n,n⟩,H,?_,?_,?_⟩
     ·have hq:=QExec.underlying (h:=h) hu B e
      have hs:=QExec.sizeOf (P:=P) (h:=h) (okInfo_some hok).choose_spec B e
      have e5:(parts.map fun x=>(x.1,σ x.2)).toList=parts.toList.map fun x=>(x.1,σ x.2):=by rw [Array.toList_map]
      have e6:Instr.fill (fun i=>some (i*szOf P el,szOf P el)) zs.toArray (parts.map fun x=>(x.1,σ x.2)).toList=some c1.toArray:=by rw [e5];exact e1
      simp only [execOp,ho]
      refine run_v ?_
      unfold Instr.buildSlice
      rw [Sem.run_bind,hq]
      simp only [Result.andThen_ok]
      rw [Sem.run_bind,hs]
      simp only [Result.andThen_ok]
      rw [if_neg (by omega)]
      unfold zerosOf at hzs
      by_cases h0':n*szOf P el=0
      ·rw [if_pos h0']
       rw [h0'] at hzs ⊢
       simp at hzs
       subst hzs
       simp only [Sem.run_bind,Sem.run_pure,Result.andThen_ok]
       have e7:Array.map (fun x=>(#[]:Array Value)[x % (#[]:Array Value).size]!) (Array.range 0)=([]:List Value).toArray:=by simp
       rw [e7,e6]
       rfl
      ·rw [if_neg h0']
       have hb:Nat.beq (n*szOf P el) 0=false:=by
        cases hh:Nat.beq (n*szOf P el) 0 with
        | false=>rfl
        | true=>exact absurd (Nat.eq_of_beq_eq_true hh) h0'
       rw [hb] at hzs
       simp only [cond_false] at hzs
       split at hzs
       ·rename_i z hz'
        have hzr:=zeroOf_run hz' h B e
        simp only [Option.some.injEq] at hzs
        rw [Sem.run_bind,hzr]
        simp only [Result.andThen_ok,Sem.run_bind,Sem.run_pure]
        have e7:Array.map (fun x=>z.cells[x % z.cells.size]!) (Array.range (n*szOf P el))=zs.toArray:=by
         rw [← hzs]
        rw [e7,e6]
        rfl
       ·cases hzs
     ·simp only [DenV,DenG,DenA,setσ_same];rfl
     ·refine I1.newRow hR (by simp) (p:=none) (fun i hi _=>by rw [Array.getElem?_push,if_neg (by omega)]) (fun b hb=>by cases hb) (cells:=c1) ⟨by rw [hcl,← hsz],.inr ⟨h.size,n,c1.toArray,rfl,I.size,get_push _ _,Nat.le_refl _,by unfold maxLen;omega,by rw [← hsz];simpa using hcl,?_⟩⟩ (fun q hq=>.inr (by cases hq;rfl)) r3 (by omega) r4.symm
      rw [List.take_of_length_le]
      rw [← hsz];simp;omega
     ·exact⟨g1.1,fun i hi=>⟨((setσ_gx γ1 d _).2 i hi).1.trans (g1.2 i (by simp)).1,((setσ_gx γ1 d _).2 i hi).2.trans (g1.2 i (by simp)).2⟩⟩
    ·exact H.elim
   ·exact H.elim
  ·exact H.elim
 ·exact H.elim
theorem first_run {P:Program} {h:Heap} {n sz:Nat} {s:Sl} {cells:List Value} (ha:Arr n h s.a cells) (hl:cells.length=s.len*sz) (hpos:0 < sz) (B:World) (d:Nat):
  (Builtin.firstCells sz s.len (.slice s.a s.len s.cap)).run P (mk B d h)=.ok cells.toArray (mk B d h):=by
 rcases ha with rfl | ⟨b,o,e,_,hc⟩
 ·have h0:s.len=0:=by
   rcases Nat.eq_zero_or_pos s.len with h0 | h0
   ·exact h0
   ·have:=Nat.mul_pos h0 hpos;simp at hl;omega
  rw [h0]
  cases s.a with
  | none=>simp [Builtin.firstCells]
  | some p=>simp [Builtin.firstCells,loadCells,loadCellsFrom]
 ·rw [e]
  exact run_firstCells_some (mk B d h) sz s.len ⟨b,o,none⟩ s.len s.cap cells hl fun j u hu=>by rw [add_none];exact hc j u hu
theorem src_slice {P:Program} {h:Heap} {n sz:Nat} {s:Sl} {cells:List Value} (ha:Arr n h s.a cells) (hl:cells.length=s.len*sz) (hpos:0 < sz) (h1:∀ u∈cells,u.oneCell'=true) {tx e':TypeId} (hk:P.underlying tx=some (.slice e')) (B:World) (d:Nat):
  Src P sz tx (slV s) s.len cells (mk B d h):=
 ⟨.inl ⟨e',hk⟩,fun _=>rfl,first_run ha hl hpos B d,first_run ha hl hpos B (d+1),hl,h1⟩
theorem store_run {P:Program} {h:Heap} {g o:Nat} {cur:Array Value} {T:TypeId} (hg:h[g]?=some (.cells cur T (0,0))) {vs:List Value} (hl:o+vs.length≤cur.size) (h1:∀ u∈vs,u.oneCell'=true) (B:World) (d:Nat):
  ∃ h',(storeCells ⟨g,o,none⟩ vs 0).run P (mk B d h)=.ok () (mk B d h')∧h'[g]?=some (.cells (cur.toList.take o++vs++cur.toList.drop (o+vs.length)).toArray T (0,0))∧h'.size=h.size∧∀ j,j≠g→h'[j]?=h[j]?:=by
 obtain⟨h',r1,r2,r3,r4⟩:=storeCells_run (P:=P) B d vs (o+0) h cur hg (by omega) h1
 exact⟨h',by rw [store_shift];exact r1,r2,r3,r4⟩
theorem append_grow {P:Program} {t e:TypeId} {z:Value} {sz bytes:Nat} (T:ElemT P t e z sz bytes) {tx ty:TypeId} {h:Heap} {base:Nat} {s:Sl} {xs:List Value} (hxs:xs.length=s.len*sz) (hold:∀ B d,(Builtin.firstCells sz s.len (slV s)).run P (mk B d h)=.ok xs.toArray (mk B d h))
  {x:Value} {m:Nat} {news:List Value} (hs:∀ B d,Src P sz tx x m news (mk B d h)) (hbytes:(s.len+m)*bytes≤140737488355328) (hmax:s.len+m≤140737488355328) (hbase:base≤h.size) (hg:s.cap < s.len+m) (B:World) (d:Nat):
  ∃ c blk,(Builtin.append_ #[t,tx] ty #[slV s,x]).run P (mk B d h)=.ok (.slice (some ⟨h.size,0,none⟩) (s.len+m) c) (mk B (d+1) (h.push (.cells blk e)))∧s.len+m≤c∧c≤maxLen∧blk.size=c*sz∧blk.toList.take ((s.len+m)*sz)=xs++news:=by
 obtain⟨i,hi,hz,hsz,hby⟩:=T.info
 subst hsz
 subst hby
 have hS:=hs B d
 have hnl:=hS.newsLen
 have hr:=run_append_grow_src (P:=P) (mk B d h) t tx ty e i z T.slice hi hz s.a s.len s.cap xs (hold B (d+1)) x m news hS hg (by omega) (growslice_fits (by omega) hbytes)
 have hge:=grownCap_ge (mk B d h) (s.len+m) s.cap e
 have hcm:=grownCap_le_maxLen (mk B d h) (s.len+m) s.cap e (by unfold maxLen;omega)
 generalize grownCap (mk B d h) (s.len+m) s.cap e=c at *
 refine⟨c,_,hr,hge,hcm,?_,?_⟩
 ·simp only [Array.size_append,List.size_toArray,size_zeroCells,List.length_append,T.zero,hxs,hnl,← Nat.add_mul]
  congr 1
  omega
 ·simp only [Array.toList_append]
  have:(xs++news).length=(s.len+m)*i.size:=by rw [List.length_append,hxs,hnl,Nat.add_mul]
  rw [← this]
  exact List.take_left
theorem append_room {P:Program} {t e:TypeId} {z:Value} {sz bytes:Nat} (T:ElemT P t e z sz bytes) {tx ty:TypeId} {h h':Heap} {s:Sl} {x:Value} {m:Nat} {news:List Value} {B:World} {d:Nat} (hS:Src P sz tx x m news (mk B d h)) (hroom:s.len+m≤s.cap)
  (hst:∀ p,s.a=some p→(storeCells (p.add (s.len*sz)) news 0).run P (mk B d h)=.ok () (mk B d h')) (hno:s.a=none→h'=h):(Builtin.append_ #[t,tx] ty #[slV s,x]).run P (mk B d h)=.ok (.slice s.a (s.len+m) s.cap) (mk B d h'):=by
 obtain⟨i,hi,hz,hsz,hby⟩:=T.info
 subst hsz
 have ht:=T.slice
 unfold slV
 rcases hS.kind with⟨e',hk⟩| hk
 ·cases ha:s.a with
  | none=>rw [hno ha];simp [Builtin.append_,run_underlying ht,run_underlying hk,sizeOf,typeInfo,hi,hS.len,hroom,hS.cells]
  | some p=>simp [Builtin.append_,run_underlying ht,run_underlying hk,sizeOf,typeInfo,hi,hS.len,hroom,hS.cells,hst p ha]
 ·cases ha:s.a with
  | none=>rw [hno ha];simp [Builtin.append_,run_underlying ht,run_underlying hk,sizeOf,typeInfo,hi,hS.len,hroom,hS.cells]
  | some p=>simp [Builtin.append_,run_underlying ht,run_underlying hk,sizeOf,typeInfo,hi,hS.len,hroom,hS.cells,hst p ha]
theorem append_gen {P:Program} {t e:TypeId} {z:Value} {sz bytes:Nat} (T:ElemT P t e z sz bytes) {tx ty:TypeId} {h:Heap} {base:Nat} {s:Sl} {xs:List Value} (H:Owns h base e sz s xs) {x:Value} {m:Nat} {news:List Value} (hs:∀ B d,Src P sz tx x m news (mk B d h))
  (hbytes:(s.len+m)*bytes≤140737488355328) (hmax:s.len+m≤140737488355328) (hbase:base≤h.size) {K:Value→Heap→Prop}
  (hK:∀ (s':Sl) (h':Heap),s'.len=s.len+m→Owns h' base e sz s' (xs++news)→(∀ i,i < h.size→(∀ p,s.a=some p→i≠p.block)→h'[i]?=h[i]?)→h.size≤h'.size→(∀ p',s'.a=some p'→(∃ p,s.a=some p∧p'.block=p.block)∨p'.block=h.size)→K (slV s') h'):
  XRun P (Builtin.append_ #[t,tx] ty #[slV s,x]) h K:=by
 intro B d
 have hS:=hs B d
 have hnl:=hS.newsLen
 have hxl:=H.1
 have harr:=H.arr
 by_cases hroom:s.len+m≤s.cap
 ·rcases H.2 with⟨hv,hz0⟩| ⟨g,cap,cur,hv,hbg,hg,hnc,hcm,hcs,htake⟩
  ·simp only [Value.slice.injEq] at hv
   obtain⟨e1,e2,e3⟩:=hv
   have hm:m=0:=by omega
   subst hm
   have hn:news=[]:=List.eq_nil_of_length_eq_zero (by simpa using hnl)
   subst hn
   have hr:=append_room (P:=P) (ty:=ty) T (s:=s) (h':=h) hS hroom (fun p hp=>by rw [e1] at hp;cases hp) (fun _=>rfl)
   refine⟨_,d,h,hr,hK ⟨s.a,s.len+0,s.cap⟩ h rfl ?_ (fun _ _ _=>rfl) (Nat.le_refl _) (fun p' hp'=>by rw [show s.a=none from e1] at hp';cases hp')⟩
   rw [List.append_nil]
   exact H
  ·simp only [Value.slice.injEq] at hv
   obtain⟨e1,_,e3⟩:=hv
   have hg':h[g]?=some (.cells cur e (0,0)):=hg
   have hle:(s.len+m)*sz≤cap*sz:=Nat.mul_le_mul_right _ (by omega)
   rw [Nat.add_mul] at hle
   obtain⟨h',r1,r2,r3,r4⟩:=store_run (P:=P) hg' (o:=s.len*sz) (vs:=news) (by rw [hcs];omega) hS.one B d
   have hr:=append_room (P:=P) (ty:=ty) T (s:=s) (h':=h') hS hroom (fun p hp=>by
    rw [e1] at hp;cases hp;rw [add_none,Nat.zero_add];exact r1) (fun hn=>by rw [e1] at hn;cases hn)
   refine⟨_,d,h',hr,hK ⟨s.a,s.len+m,s.cap⟩ h' rfl ⟨?_,.inr ⟨g,cap,_,?_,hbg,r2,(by show s.len+m≤cap;omega),hcm,?_,?_⟩⟩ (fun i hi hne=>r4 i fun e'=>hne _ e1 e') (by omega) (fun p' hp'=>.inl ⟨p',hp',rfl⟩)⟩
   ·rw [List.length_append,hxl,hnl,Nat.add_mul]
   ·simp [e1,e3]
   ·simp only [List.size_toArray,List.length_append,List.length_take,List.length_drop,Array.length_toList]
    rw [hnl,hcs] at *;omega
   ·simp only
    rw [htake]
    have:(xs++news).length=(s.len+m)*sz:=by rw [List.length_append,hxl,hnl,Nat.add_mul]
    rw [← this]
    exact List.take_left
 ·obtain⟨c,blk,hr,hc1,hc2,hc3,hc4⟩:=append_grow (P:=P) (ty:=ty) (base:=base) T hxl (fun B d=>first_run harr hxl T.pos B d) hs hbytes hmax hbase (by omega) B d
  refine⟨_,d+1,_,hr,hK ⟨some ⟨h.size,0,none⟩,s.len+m,c⟩ _ rfl ⟨?_,.inr ⟨h.size,c,blk,rfl,hbase,get_push _ _,hc1,hc2,hc3,hc4⟩⟩ (fun i hi _=>by rw [Array.getElem?_push,if_neg (by omega)]) (by simp) (fun p' hp'=>.inr (by cases hp';rfl))⟩
  rw [List.length_append,hxl,hnl,Nat.add_mul]
def bytesI (s:ByteArray):List Int:=s.data.toList.map fun b=>(b.toNat:Int)
def bytesT:(ty:Ty)→ByteArray→Option (List (El ty))
 | .int .u8,s=>some (bytesI s)
 | _,_=>none
def srcA (P:Program) (cs:CS) (tx:TypeId) (ty:Ty):AV→Option (List (El ty))
 | .g (.a (.v (.string s)))=>match P.underlying tx with
  | some .string=>bytesT ty s
  | _=>none
 | .g (.a (.v (.slice none 0 0)))=>match P.underlying tx with
  | some (.slice _)=>some []
  | _=>none
 | .g (.a aa)=>match P.underlying tx with
  | some (.slice _)=>match rowOf cs aa with
   | some r=>castE (.row r.1) (.row ty) r.2
   | none=>match aa with
    | .own c=>match findC cs c with
     | some (.row _ t xs)=>castE (.row t) (.row ty) xs
     | _=>none
    | _=>none
  | _=>none
 | _=>none
theorem RowC.bytes (M:Fr) (s:ByteArray):RowC M (.int .u8) (bytesI s) (byteCells s):=by
 have hl:(byteCells s).length=(bytesI s).length:=by unfold byteCells bytesI;simp
 refine⟨by rw [hl];simp [sz],fun i hi=>?_⟩
 have hi':i < (byteCells s).length:=by rw [hl];exact hi
 have e:(byteCells s)[i]=.int .u8 (bytesI s)[i]:=by simp only [byteCells,bytesI,List.getElem_map]
 have e2:((byteCells s).drop (i*1)).take 1=[(byteCells s)[i]]:=by
  rw [Nat.mul_one,List.drop_eq_getElem_cons hi'];rfl
 show((byteCells s).drop (i*1)).take 1=[.int .u8 (bytesI s)[i]]
 rw [e2,e]
theorem castE_row {t t':Ty} {xs:List (El t)} {ys:List (El t')} (h:castE (.row t) (.row t') xs=some ys):∃ e:t=t',ys=e ▸ xs:=by
 unfold castE at h
 split at h
 ·rename_i e
  have e':t=t':=by injection e
  subst e'
  simp only [Option.some.injEq] at h
  exact⟨rfl,h.symm⟩
 ·cases h
theorem srcA_den {P:Program} {cs:CS} {γ:Gh} {h:Heap} (I:Inv h0 W M0 cs γ h) {tx:TypeId} {ty:Ty} {av:AV} {ys:List (El ty)} (hs:srcA P cs tx ty av=some ys) (hpos:0 < sz ty) {u:Value} (hd:DenV γ av u):
  ∃ news,RowC γ.M ty ys news∧∀ B d,Src P (sz ty) tx u ys.length news (mk B d h):=by
 have row:∀ {t:Ty} {xs:List (El t)} {n:Nat} {s:Sl} {cells:List Value} {e':TypeId},castE (.row t) (.row ty) xs=some ys→P.underlying tx=some (.slice e')→u=slV s→s.len=xs.length→RowC γ.M t xs cells→Arr n h s.a cells →
   ∃ news,RowC γ.M ty ys news∧∀ B d,Src P (sz ty) tx u ys.length news (mk B d h):=by
  intro t xs n s cells e' hc hu e hl hr ha
  obtain⟨e1,e2⟩:=castE_row hc
  subst e1
  simp only at e2
  subst e2
  refine⟨cells,hr,fun B d=>?_⟩
  rw [e,← hl]
  exact src_slice ha (by rw [hl];exact hr.1) hpos hr.one hu B d
 unfold srcA at hs
 split at hs
 ·rename_i s
  split at hs
  ·rename_i hu
   unfold bytesT at hs
   split at hs
   case h_2=>cases hs
   simp only [Option.some.injEq] at hs
   subst hs
   refine⟨byteCells s,RowC.bytes _ s,fun B d=>?_⟩
   rw [show u=.string s from hd]
   have:=Src.ofString (P:=P) (mk B d h) hu s
   have e:(bytesI s).length=s.size:=by unfold bytesI;rw [List.length_map,Array.length_toList];rfl
   rw [e];exact this
  ·cases hs
 ·split at hs
  ·rename_i e' hu
   simp only [Option.some.injEq] at hs
   subst hs
   refine⟨[],RowC.nil _ _,fun B d=>?_⟩
   rw [show u=.slice none 0 0 from hd]
   exact Src.ofNil (mk B d h) hu 0
  ·cases hs
 ·rename_i aa _ _
  split at hs
  ·rename_i e' hu
   split at hs
   ·rename_i r hr
    obtain⟨s,e,hl,hn,cells,hrow,harr⟩:=(rowOf_rd I hr hd).rowC I.ag
    exact row hs hu e hl hrow harr
   ·split at hs
    ·rename_i c _ _ _
     split at hs
     ·rename_i e t xs hc
      obtain⟨cells,hown,hrow,hn,hl⟩:=I.den _ (findC_mem hc)
      exact row hs hu (show u=slV _ from hd) hl hrow hown.arr
     ·cases hs
    ·cases hs
  ·cases hs
 ·cases hs
def elemInfo (P:Program) (el:TypeId) (ty:Ty):Option Nat:=match P.info? el with
 | some i=>match i.zero with
  | some z=>bif (bif Nat.beq i.size (sz ty) then(bif Nat.beq z.cells.size i.size then(bif Nat.blt 0 i.size then Nat.blt 0 i.bytes else false) else false) else false) then some i.bytes else none
  | none=>none
 | none=>none
theorem elemInfo_T {P:Program} {t el:TypeId} {ty:Ty} {b:Nat} (hu:P.underlying t=some (.slice el)) (h:elemInfo P el ty=some b):(∃ z,ElemT P t el z (sz ty) b)∧0 < b:=by
 unfold elemInfo at h
 split at h
 ·rename_i i hi
  split at h
  ·rename_i z hz
   cases h1:Nat.beq i.size (sz ty) with
   | false=>rw [h1] at h;cases h
   | true=>
   cases h2:Nat.beq z.cells.size i.size with
   | false=>rw [h1,h2] at h;cases h
   | true=>
   cases h3:Nat.blt 0 i.size with
   | false=>rw [h1,h2,h3] at h;cases h
   | true=>
   cases h4:Nat.blt 0 i.bytes with
   | false=>rw [h1,h2,h3,h4] at h;cases h
   | true=>
   rw [h1,h2,h3,h4] at h
   simp only [cond_true,Option.some.injEq] at h
   have e1:=Nat.eq_of_beq_eq_true h1
   have e2:=Nat.eq_of_beq_eq_true h2
   have e3:0 < i.size:=by simpa [Nat.blt_eq] using h3
   have e4:0 < i.bytes:=by simpa [Nat.blt_eq] using h4
   exact⟨⟨z,hu,⟨i,hi,hz,e1,h⟩,by rw [e2,e1],by rw [← e1];exact e3⟩,by rw [← h];exact e4⟩
  ·cases h
 ·cases h
def appendA (P:Program) (tr:TypeId) (t tx:TypeId) (bv sv:AV) (d:Nat) (C R:CS) (K:AV→CS→Option Nat→Prop):Prop:=
 match elOk P t with
 | some el=>match tyOf P tr 8 el with
  | some ty=>match elemInfo P el ty,srcA P (C++R) tx ty sv with
   | some b,some ys=>match bv with
    | .g (.a (.v (.slice none 0 0)))=>bif noneC d R then(ys.length*b≤140737488355328∧K (.g (.a (.own d))) ((d,.row el ty ys)::purgeC d C) (some d)) else False
    | .g (.a (.own c))=>match findC C c with
     | some (.row e t' xs)=>match castE (.row t') (.row ty) xs with
      | some xs=>bif Nat.beq e el then(bif noneC d R then((xs.length+ys.length)*b≤140737488355328∧K (.g (.a (.own d))) ((d,.row el ty (xs++ys))::purgeC d (delC c C)) (some d)) else False) else False
      | none=>False
     | _=>False
    | .g (.a (.dc t' xs))=>match castE (.row t') (.row ty) xs with
     | some xs=>(xs.length+ys.length)*b≤140737488355328∧K (.g (.a (.d (.row ty) (xs++ys)))) C none
     | none=>False
    | _=>False
   | _,_=>False
  | none=>False
 | none=>False
theorem le_of_mul {n b k:Nat} (hb:0 < b) (h:n*b≤k):n≤k:=Nat.le_trans (Nat.le_mul_of_pos_right _ hb) h
theorem appendA_ex {P:Program} {tr t tx ty':TypeId} {bv sv:AV} {d:Nat} {C R:CS} {K:AV→CS→Option Nat→Prop} (H:appendA P tr t tx bv sv d C R K) {γ:Gh} {h:Heap} (I:Inv h0 W M0 (C++R) γ h)
  {u v:Value} (hu':DenV γ bv u) (hv':DenV γ sv v):XRun P (Builtin.append_ #[t,tx] ty' #[u,v]) h (PostA h0 W M0 R γ K):=by
 unfold appendA at H
 split at H
 ·rename_i el hel
  obtain⟨hu,hok⟩:=elOk_some hel
  split at H
  ·rename_i ty hty
   split at H
   ·rename_i b ys hb hys
    obtain⟨⟨z,T⟩,hpos⟩:=elemInfo_T hu hb
    obtain⟨news,hrow,hsrc⟩:=srcA_den I hys T.pos hv'
    split at H
    ·cases hR:noneC d R with
     | false=>rw [hR] at H;exact H.elim
     | true=>
     rw [hR] at H
     obtain⟨hbd,hK⟩:=H
     rw [show u=slV ⟨none,0,0⟩ from hu']
     have hle:=le_of_mul hpos hbd
     refine append_gen T (Owns.nil h h0.size el (sz ty)) hsrc (by simpa using hbd) (by simpa using hle) I.size fun s' h' hl hown hk hs hp=>?_
     rw [List.nil_append] at hown
     simp only [Nat.zero_add] at hl
     refine⟨_,_,_,setσ γ d s',hK,?_,I.newRow hR hs (p:=none) (fun i hi _=>hk i hi (by simp)) (fun b hb=>by cases hb) hown (fun q hq=>?_) hrow hle hl,setσ_gx _ _ _⟩
     ·simp only [DenV,DenG,DenA,setσ_same]
     ·rcases hp q hq with⟨p,hp,_⟩| hp
      ·simp at hp
      ·exact .inr hp
    ·rename_i c
     split at H
     ·rename_i e t' xs0 hc
      split at H
      ·rename_i xs hcast
       cases hee:Nat.beq e el with
       | false=>rw [hee] at H;exact H.elim
       | true=>
       rw [hee] at H
       cases hR:noneC d R with
       | false=>rw [hR] at H;exact H.elim
       | true=>
       rw [hR] at H
       obtain⟨hbd,hK⟩:=H
       have hle:=le_of_mul hpos hbd
       have hmem:=findC_mem hc
       obtain⟨e1,e2⟩:=castE_row hcast
       subst e1
       simp only at e2
       subst e2
       have e3:=Nat.eq_of_beq_eq_true hee
       subst e3
       have hden:=I.den _ (List.mem_append_left R hmem)
       obtain⟨cells,hown0,hrow0,hn0,hl0⟩:=hden
       simp only at hown0 hrow0 hl0
       rw [show u=slV (γ.σ c) from hu']
       refine append_gen T hown0 hsrc (by rw [hl0];exact hbd) (by rw [hl0];exact hle) I.size fun s' h' hl hown hk hs hp=>?_
       have hsep:=I.sep _ (List.mem_append_left R hmem)
       have hnr:=noneC_mem hR
       have hI':Inv h0 W M0 (delC c C++R) γ h:=I.sub ((delC_sub c C).append_right R)
       refine⟨_,_,_,setσ γ d s',hK,?_,hI'.newRow hR hs (p:=(γ.σ c).a.map (·.block)) (fun i hi hne=>hk i hi fun p hp e=>hne (by rw [hp,e];rfl)) (fun b hb=>?_) hown (fun q hq=>?_) (hrow0.append hrow) (by rw [List.length_append];exact hle) (by rw [hl,hl0,List.length_append]),setσ_gx _ _ _⟩
       ·simp only [DenV,DenG,DenA,setσ_same]
       ·obtain⟨h1,h2⟩:=hsep b hb
        refine⟨?_,h2,fun x hx hbx=>?_⟩
        ·simp only [Option.map_eq_some_iff] at hb
         obtain⟨p,hp,rfl⟩:=hb
         exact(hown0.base_le p hp).1
        ·have hx':x∈C++R:=((delC_sub c C).append_right R).subset hx
         have hne:x≠(c,Ch.row e t' xs):=by
          rintro rfl
          rcases List.mem_append.1 hx with hx | hx
          ·exact(delC_mem hx).2 rfl
          ·have hd1:=I.apart
           rw [List.pairwise_append] at hd1
           exact hd1.2.2 _ hmem _ hx b hb hb
         have hp:=@pair_mem _ (fun(x y:Nat×Ch)=>∀ b,blk γ x.1 x.2=some b→blk γ y.1 y.2≠some b) (fun x y h b hb hb'=>h b hb' hb) _ I.apart
         exact hp hx' (List.mem_append_left R hmem) hne b hbx hb
       ·rcases hp q hq with⟨p,hp,hpe⟩| hp
        ·exact .inl (by rw [hp,hpe];rfl)
        ·exact .inr hp
      ·exact H.elim
     ·exact H.elim
    ·rename_i t' xs0
     split at H
     ·rename_i xs hcast
      obtain⟨hbd,hK⟩:=H
      have hle:=le_of_mul hpos hbd
      obtain⟨e1,e2⟩:=castE_row hcast
      subst e1
      simp only at e2
      subst e2
      obtain⟨s,e,hcl,hrd⟩:=(show ∃ s:Sl,u=slV s∧s.cap=s.len∧Rd γ.M (.row t') xs [u] from hu')
      subst e
      obtain⟨s2,e,hl0,hn0,cells,hrow0,harr⟩:=hrd.rowC I.ag
      have e':s=s2:=by cases s;cases s2;simp only [slV,Value.slice.injEq] at e;simp [e]
      subst e'
      have hcl0:cells.length=s.len*sz t':=by rw [hl0];exact hrow0.1
      intro B dr
      by_cases hm:ys.length=0
      ·have hy0:ys=[]:=List.eq_nil_of_length_eq_zero hm
       subst hy0
       have hn2:news=[]:=List.eq_nil_of_length_eq_zero (by rw [hrow.1];simp)
       subst hn2
       have hr:=append_room (P:=P) (ty:=ty') T (s:=s) (h':=h) (hsrc B dr) (by simp;omega) (fun p hp=>by simp [storeCells]) (fun _=>rfl)
       refine⟨_,dr,h,hr,_,C,none,γ,hK,?_,I,Gx.refl _ _⟩
       rw [List.append_nil]
       exact hrd
      ·obtain⟨c,blk',hr,hc1,hc2,hc3,hc4⟩:=append_grow (P:=P) (ty:=ty') (base:=0) T hcl0 (fun B d=>first_run harr hcl0 T.pos B d) hsrc (by rw [hl0];exact hbd) (by rw [hl0];exact hle) (Nat.zero_le _) (by omega) B dr
       have hMn:γ.M h.size=none:=I.ag.none (Nat.le_refl _)
       have hM:Fr.le γ.M (setM γ h.size blk').M:=by
        intro b cc eM
        have:Nat.beq b h.size=false:=by
         cases hb:Nat.beq b h.size with
         | false=>rfl
         | true=>rw [Nat.eq_of_beq_eq_true hb,hMn] at eM;cases eM
        simp [setM,this,eM]
       have hag:AgM (setM γ h.size blk').M (h.push (.cells blk' el)):=by
        intro b cc eM
        by_cases hb:b=h.size
        ·subst hb
         have:cc=blk':=by simp [setM] at eM;exact eM.symm
         subst this
         exact⟨_,_,get_push _ _⟩
        ·have:Nat.beq b h.size=false:=by
          cases hb':Nat.beq b h.size with
          | false=>rfl
          | true=>exact absurd (Nat.eq_of_beq_eq_true hb') hb
         simp only [setM,this,cond_false] at eM
         obtain⟨T',m,e'⟩:=I.ag b cc eM
         exact⟨T',m,by rw [Array.getElem?_push,if_neg hb];exact e'⟩
       refine⟨_,dr+1,_,hr,_,C,none,setM γ h.size blk',hK,?_,I.call (Keep.push h _ (Nat.le_refl _)) hM (fun b hb=>?_) hag,⟨hM,fun _ _=>⟨rfl,rfl⟩⟩⟩
       ·have hrr:=((hrow0.append hrow).mono hM).rd (b:=h.size) (o:=0) (c:=c) (cs:=blk') (by simp [setM]) (by rw [List.drop_zero,List.length_append,← hl0];exact hc4) (by rw [List.length_append,← hl0];exact⟨by rw [hl0];exact hle,hc1⟩)
        rw [List.length_append,← hl0] at hrr
        exact hrr
       ·have:Nat.beq b h.size=false:=by
         cases hb':Nat.beq b h.size with
         | false=>rfl
         | true=>have:=Nat.eq_of_beq_eq_true hb';omega
        simp [this]
     ·exact H.elim
    ·exact H.elim
   ·exact H.elim
  ·exact H.elim
 ·exact H.elim
end Go.X
end
section
namespace Go.X
open Go
set_option linter.unusedVariables false
variable {h0 : Heap} {W : Nat → Prop} {M0 : Fr}
def baOf (ns:List Int):ByteArray:=ns.foldl (fun r n=>r.push (UInt8.ofNat n.toNat)) ByteArray.empty
def u8Row (t:Ty) (xs:List (El t)):Option (List Int):=castE (.row t) (.row (.int .u8)) xs
def rowAny (cs:CS):AA→Option ((t:Ty)×List (El t))
 | .own c=>match findC cs c with
  | some (.row _ t xs)=>some ⟨t,xs⟩
  | some (.fz t xs)=>some ⟨t,xs⟩
  | _=>none
 | aa=>rowOf cs aa
theorem rowAny_den {cs:CS} {γ:Gh} {h:Heap} (I:Inv h0 W M0 cs γ h) {aa:AA} {r:(t:Ty)×List (El t)} (hr:rowAny cs aa=some r) {u:Value} (hd:DenA γ aa u):
  ∃ s:Sl,u=slV s∧s.len=r.2.length∧∃ cells,RowC γ.M r.1 r.2 cells∧Arr h.size h s.a cells:=by
 unfold rowAny at hr
 split at hr
 ·split at hr
  ·rename_i c e t xs hc
   simp only [Option.some.injEq] at hr
   subst hr
   obtain⟨cells,hown,hrow,hn,hl⟩:=I.den _ (findC_mem hc)
   exact⟨_,hd,hl,cells,hrow,hown.arr⟩
  ·rename_i c t xs hc
   simp only [Option.some.injEq] at hr
   subst hr
   have:Rd γ.M (.row t) xs [u]:=by rw [show u=_ from hd];exact I.den _ (findC_mem hc)
   obtain⟨s,e,hl,hn,cells,h1,h2⟩:=this.rowC I.ag
   exact⟨s,e,hl,cells,h1,h2⟩
  ·cases hr
 ·obtain⟨s,e,hl,hn,cells,h1,h2⟩:=(rowOf_rd I hr hd).rowC I.ag
  exact⟨s,e,hl,cells,h1,h2⟩
def convertA (P:Program) (s t:TypeId) (av:AV) (cs:CS) (K:AV→Prop):Prop:=
 match P.underlying s,P.underlying t with
 | some (.slice e),some .string=>match P.underlying e,av with
  | some (.int .u8),.g (.a aa)=>match rowAny cs aa with
   | some r=>match u8Row r.1 r.2 with
    | some ns=>K (.g (.a (.v (.string (baOf ns)))))
    | none=>False
   | none=>False
  | _,_=>False
 | some (.int _),some .string=>match av with
  | .g (.a (.v (.int _ n)))=>K (.g (.a (.v (.string (Utf8.encode n)))))
  | _=>False
 | _,_=>False
theorem rowC_ints {M:Fr} {k:IntKind}:∀ {ns:List Int} {cells:List Value},RowC M (.int k) ns cells→cells=ns.map (Value.int k)
 | ns,cells,H=>by
  apply List.ext_getElem?
  intro i
  have hl:cells.length=ns.length:=by rw [H.1];simp [sz]
  rw [List.getElem?_map]
  by_cases hi:i < ns.length
  ·have:((cells.drop (i*1)).take 1)=[.int k ns[i]]:=H.2 i hi
   have e:cells[i]?=some (.int k ns[i]):=by
    have h2:((cells.drop (i*1)).take 1)[0]?=some (.int k ns[i]):=by rw [this];rfl
    rw [List.getElem?_take,if_pos (by omega),List.getElem?_drop] at h2
    simpa using h2
   rw [e,List.getElem?_eq_getElem hi];rfl
  ·rw [List.getElem?_eq_none (by omega),List.getElem?_eq_none (by omega)];rfl
theorem convertA_ex {P:Program} {s t:TypeId} {x:Operand} {o:Oper} (ho:o.op=.convert s t x) {av:AV} {cs:CS} {K:AV→Prop} (H:convertA P s t av cs K) {γ:Gh} {h:Heap} {σ:Operand→Value} (I:Inv h0 W M0 cs γ h) (hd:DenV γ av (σ x)):
  ∃ av' v,K av'∧DenV γ av' v∧QExec P (execOp σ o) h (.value v):=by
 have val:∀ {v:Value},QExec P (convert s t (σ x)) h v→QExec P (execOp σ o) h (.value v):=fun hq=>by
  simp only [execOp,ho];exact QExec.val hq
 unfold convertA at H
 split at H
 ·rename_i e hs ht
  split at H
  ·rename_i aa he
   split at H
   ·rename_i r hr
    split at H
    ·rename_i ns hns
     refine⟨_,.string (baOf ns),H,rfl,val fun B d=>?_⟩
     obtain⟨sl,e1,hl,cells,hrow,harr⟩:=rowAny_den I hr hd
     obtain⟨tt,xs⟩:=r
     obtain⟨e2,e3⟩:=castE_row hns
     simp only at e2
     subst e2
     simp only at e3 hl hrow
     subst e3
     have hc:=rowC_ints hrow
     subst hc
     have h1:=QExec.underlying (h:=h) hs B d
     have h2:=QExec.underlying (h:=h) ht B d
     have h3:=QExec.underlying (h:=h) he B d
     have hconv:(Conv.bytesToString (σ x)).run P (mk B d h)=.ok (.string (baOf ns)) (mk B d h):=by
      rw [e1]
      unfold slV
      rcases harr with h0' | ⟨b,o',e4,_,hcc⟩
      ·have hn0:ns=[]:=by simpa using h0'
       subst hn0
       simp only [List.length_nil] at hl
       cases ha:sl.a with
       | none=>simp [Conv.bytesToString,baOf]
       | some p=>
        have:=run_bytesToString (P:=P) (mk B d h) p sl.len sl.cap [] (by rw [hl];simp [loadCells,loadCellsFrom])
        exact this
      ·rw [e4]
       refine run_bytesToString (mk B d h) ⟨b,o',none⟩ sl.len sl.cap ns ?_
       have:=first_run (P:=P) (h:=h) (n:=b+1) (sz:=1) (s:=sl) (cells:=ns.map (Value.int .u8)) (.inr ⟨b,o',e4,by omega,hcc⟩) (by rw [hl];simp) (by omega) B d
       rw [e4] at this
       simpa [Builtin.firstCells] using this
     unfold convert
     rw [Sem.run_bind,h1]
     simp only [Result.andThen_ok]
     rw [Sem.run_bind,h2]
     simp only [Result.andThen_ok]
     rw [e1] at hconv ⊢
     unfold slV at hconv ⊢
     simp only [Sem.run_bind,h3,Result.andThen_ok]
     exact hconv
    ·exact H.elim
   ·exact H.elim
  ·exact H.elim
 ·rename_i k hs ht
  split at H
  ·rename_i k' n
   refine⟨_,.string (Utf8.encode n),H,rfl,val fun B d=>?_⟩
   have h1:=QExec.underlying (h:=h) hs B d
   have h2:=QExec.underlying (h:=h) ht B d
   have e:σ x=.int k' n:=hd
   unfold convert
   rw [Sem.run_bind,h1]
   simp only [Result.andThen_ok]
   rw [Sem.run_bind,h2,e]
   rfl
  ·exact H.elim
 ·exact H.elim
def nilOp:BinOp→Option Bool
 | .eql=>some true
 | .neq=>some false
 | _=>none
def nilA (P:Program) (o:Oper) (ρ:Operand→Option AV) (cs:CS):Option (Bool×Nat):=match o.op with
 | .binOp op t x y _=>match nilOp op,ρ x,ρ y with
  | some pol,some (.g (.a aa)),some (.g (.a (.v (.slice none 0 0))))=>match rowAny cs aa,P.underlying t with
   | some ⟨ty,xs⟩,some (.slice _)=>bif Nat.blt 0 (sz ty) then some (pol,xs.length) else none
   | _,_=>none
  | _,_,_=>none
 | _=>none
theorem eqGuard_slice {P:Program} (op:BinOp) (t:TypeId) (x y:Operand) (a b:Option Addr) (l c l' c':Nat) (w:World):(eqGuard op t x y (.slice a l c) (.slice b l' c')).run P w=.ok () w:=by
 unfold eqGuard;cases op <;> rfl
theorem nilA_ex {P:Program} {o:Oper} {ρ:Operand→Option AV} {C R:CS} {pol:Bool} {n:Nat} (hn:nilA P o ρ (C++R)=some (pol,n)) {K:AV→CS→Option Nat→Prop} (H:∀ b:Bool,(b=true→n=0)→K (.g (.a (.v (.bool (bif pol then b else !b))))) C none) {γ:Gh} {h:Heap} {σ:Operand→Value}
  (I:Inv h0 W M0 (C++R) γ h) (hρ:∀ x av,ρ x=some av→DenV γ av (σ x)):ExA P (execOp σ o) h (PostA h0 W M0 R γ K):=by
 unfold nilA at hn
 split at hn
 ·rename_i op t x y yt ho
  split at hn
  ·rename_i pol' aa hop hx hy
   split at hn
   ·rename_i ty xs e hr hu
    cases hz:Nat.blt 0 (sz ty) with
    | false=>rw [hz] at hn;cases hn
    | true=>
     rw [hz] at hn
     simp only [cond_true,Option.some.injEq,Prod.mk.injEq] at hn
     obtain⟨rfl,rfl⟩:=hn
     have hz':0 < sz ty:=by simpa [Nat.blt_eq] using hz
     obtain⟨s,e1,hl,cells,hrow,harr⟩:=rowAny_den I hr (hρ _ _ hx)
     have e2:σ y=.slice none 0 0:=hρ _ _ hy
     have hnil:s.a.isNone=true→xs.length=0:=by
      intro hs
      have hc:cells=[]:=by
       rcases harr with hc | ⟨b,o,ha,_⟩
       ·exact hc
       ·rw [ha] at hs;cases hs
      have:=hrow.1
      rw [hc] at this
      simp only [List.length_nil] at this
      rcases Nat.mul_eq_zero.1 this.symm with h1 | h1
      ·exact h1
      ·omega
     have hK:=H s.a.isNone hnil
     intro B d
     refine .inl ⟨_,d,h,?_,_,C,none,γ,hK,rfl,I,Gx.refl _ _⟩
     simp only [execOp,ho]
     refine run_v ?_
     rw [e1,e2]
     simp only [slV]
     rw [Sem.run_bind,eqGuard_slice]
     simp only [Result.andThen_ok]
     cases op <;> simp only [nilOp,Option.some.injEq] at hop <;> (try (cases hop;done)) <;> subst hop
     ·simp only [binOp,Sem.run_bind,run_equal_slice_nil _ t _ _ _ _ hu];rfl
     ·simp only [binOp,Sem.run_bind,run_equal_slice_nil _ t _ _ _ _ hu];rfl
   ·cases hn
  ·cases hn
 ·cases hn
def hA0 (P:Program) (gl:Fr) (tr:TypeId) (o:Oper) (ρ:Operand→Option AV) (C R:CS) (K:AV→CS→Option Nat→Prop):Prop:=
 match o.op with
 | .alloc t=>match o.dst with
  | some d=>allocA P t d C R K
  | none=>False
 | .box t x=>match o.dst,ρ x with
  | some d,some av=>match flatV av with
   | some l=>boxA t d l C R K
   | none=>False
  | _,_=>False
 | .store t a x=>match ρ a,ρ x with
  | some (.g (.a aa)),some xv=>match flatV xv with
   | some l2=>storeA P t aa l2 C R K
   | none=>False
  | _,_=>False
 | .buildSlice t n parts=>match o.dst,partsA ρ parts.toList with
  | some d,some ps=>buildSliceA P tr t n ps d C R K
  | _,_=>False
 | .convert s t x=>bif isQ P o then qA P gl o ρ none (C++R) (fun av=>K av C none) else(match ρ x with
  | some av=>convertA P s t av (C++R) fun av'=>K av' C none
  | none=>False)
 | .call c=>match c.callee with
  | .builtin .append=>match c.args.toList,c.argTypes.toList,o.dst with
   | [s,x],[t,tx],some d=>match ρ s,ρ x with
    | some bv,some sv=>appendA P tr t tx bv sv d C R K
    | _,_=>False
   | _,_,_=>False
  | .builtin _=>qA P gl o ρ none (C++R) fun av=>K av C none
  | _=>callA P gl tr o ρ C R fun av C'=>K av C' none
 | .range t x=>match o.dst,ρ x with
  | some d,some av=>rangeA P t av d C R K
  | _,_=>False
 | .next x true=>match ρ x with
  | some av=>nextA av C R K
  | none=>False
 | _=>qA P gl o ρ none (C++R) fun av=>K av C none
theorem toList_eq {α:Type} {x:Array α} {l:List α} (h:x.toList=l):x=l.toArray:=by
 have:=congrArg List.toArray h;simpa using this
theorem hA0_ex {P:Program} {gl:Fr} (hgl:Fr.le gl M0) {tr:TypeId} {o:Oper} {ρ:Operand→Option AV} {C R:CS} {K:AV→CS→Option Nat→Prop} (H:hA0 P gl tr o ρ C R K) {γ:Gh} {h:Heap} {σ:Operand→Value} (I:Inv h0 W M0 (C++R) γ h)
  (hσ:∀ f,σ (.func f)=.func (.func f) #[] #[]) (hρ:∀ x av,ρ x=some av→DenV γ av (σ x)):ExA P (execOp σ o) h (PostA h0 W M0 R γ K):=by
 unfold hA0 at H
 split at H
 ·rename_i t ho
  split at H
  ·exact allocA_ex ho H I
  ·exact H.elim
 ·rename_i t x ho
  split at H
  ·rename_i d av hd hav
   split at H
   ·rename_i l hl
    exact boxA_ex ho H I (flatV_den hl (hρ _ _ hav))
   ·exact H.elim
  ·exact H.elim
 ·rename_i t a x ho
  split at H
  ·rename_i aa xv ha hx
   split at H
   ·rename_i l hl
    exact storeA_ex ho H I (flatV_den hl (hρ _ _ hx)) (hρ _ _ ha)
   ·exact H.elim
  ·exact H.elim
 ·rename_i t n parts ho
  split at H
  ·rename_i d ps hd hps
   exact buildSliceA_ex ho hps H I hρ
  ·exact H.elim
 ·rename_i s t x ho
  cases hq:isQ P o with
  | true=>rw [hq] at H;exact qA_ex hgl H I hρ
  | false=>
   rw [hq] at H
   simp only [cond_false] at H
   split at H
   ·rename_i av hav
    obtain⟨av',v,h1,h2,h3⟩:=convertA_ex ho H I (hρ _ _ hav)
    exact fun B d=>.inl ⟨v,d,h,h3 B d,av',C,none,γ,h1,h2,I,Gx.refl _ _⟩
   ·exact H.elim
 ·rename_i c ho
  split at H
  ·rename_i hc
   split at H
   ·rename_i s x t tx d hargs htys hd
    split at H
    ·rename_i bv sv hs hx
     have hx':=appendA_ex (ty':=o.type) H I (hρ _ _ hs) (hρ _ _ hx)
     intro B e
     obtain⟨v,d',h',r,hp⟩:=hx' B e
     refine .inl ⟨v,d',h',?_,hp⟩
     have ee:execOp σ o=(Builtin.append_ c.argTypes o.type (c.args.map σ) >>= fun x=>(Pure.pure (Next.value x):Sem Next)):=by
      simp only [execOp,ho,resolve,hc]
      rfl
     rw [ee,toList_eq hargs,toList_eq htys]
     refine run_v ?_
     simpa using r
    ·exact H.elim
   ·exact H.elim
  ·exact qA_ex hgl H I hρ
  ·exact callA_ex hgl H I hσ hρ
 ·rename_i t x ho
  split at H
  ·rename_i d av hd hav
   exact rangeA_ex ho H I (hρ _ _ hav)
  ·exact H.elim
 ·rename_i x ho
  split at H
  ·rename_i av hav
   exact nextA_ex ho H I (hρ _ _ hav)
  ·exact H.elim
 ·exact qA_ex hgl H I hρ
def hA (P:Program) (gl:Fr) (tr:TypeId) (o:Oper) (ρ:Operand→Option AV) (C R:CS) (K:AV→CS→Option Nat→Prop):Prop:=match nilA P o ρ (C++R) with
 | some (pol,n)=>∀ b:Bool,(b=true→n=0)→K (.g (.a (.v (.bool (bif pol then b else !b))))) C none
 | none=>hA0 P gl tr o ρ C R K
theorem hA_ex {P:Program} {gl:Fr} (hgl:Fr.le gl M0) {tr:TypeId} {o:Oper} {ρ:Operand→Option AV} {C R:CS} {K:AV→CS→Option Nat→Prop} (H:hA P gl tr o ρ C R K) {γ:Gh} {h:Heap} {σ:Operand→Value} (I:Inv h0 W M0 (C++R) γ h)
  (hσ:∀ f,σ (.func f)=.func (.func f) #[] #[]) (hρ:∀ x av,ρ x=some av→DenV γ av (σ x)):ExA P (execOp σ o) h (PostA h0 W M0 R γ K):=by
 unfold hA at H
 split at H
 ·rename_i pol n hn
  exact nilA_ex hn H I hρ
 ·exact hA0_ex hgl H I hσ hρ
def orA:Option AV→Option AV→Option AV
 | some v,_=>some v
 | none,w=>w
def mixA (b:Bool) (x y:AV):Option AV:=match exV x,exV y with
 | some u,some v=>some (ofVal (pickV b u v))
 | _,_=>match x,y with
  | .g (.a (.d t xs)),.g (.a (.d t' ys))=>match castE t' t ys with
   | some ys=>some (.g (.a (.d t (bif b then xs else ys))))
   | none=>none
  | _,_=>none
theorem mixA_den {γ:Gh} {b:Bool} {x y z:AV} (h:mixA b x y=some z) {u v:Value} (hx:b=true→DenV γ x u) (hy:b=false→DenV γ y v):DenV γ z (if b=true then u else v):=by
 unfold mixA at h
 split at h
 ·rename_i p q hp hq
  simp only [Option.some.injEq] at h
  subst h
  have e:(if b=true then u else v)=pickV b p q:=by
   rw [pickV_eq]
   cases b with
   | true=>simp only [if_true];exact exV_den hp (hx rfl)
   | false=>simp only [Bool.false_eq_true,if_false];exact exV_den hq (hy rfl)
  rw [e];exact ofVal_den γ _
 ·split at h
  ·rename_i t xs t' ys _
   split at h
   ·rename_i ys' hc
    simp only [Option.some.injEq] at h
    subst h
    cases b with
    | true=>exact hx rfl
    | false=>exact castE_rd hc (hy rfl)
   ·cases h
  ·cases h
def pickA (e:EnvA) (c:Chain) (x a b:Operand) (K:AV→Prop):Prop:=
 match x with
 | .tmp s=>match lookA e s with
  | some (cs,v)=>match boolA v with
   | some t=>bif suf cs c then(match orA (opdA e c a) (opdA e ((s,true)::cs) a),orA (opdA e c b) (opdA e ((s,false)::cs) b) with
    | some va,some vb=>match mixA t va vb with
     | some z=>K z
     | none=>False
    | _,_=>False) else False
   | none=>False
  | none=>False
 | _=>False
theorem pickA_sound {e:EnvA} {c:Chain} {x a b:Operand} {K:AV→Prop} (H:pickA e c x a b K):
  ∃ z,K z∧∀ (n:Nat) (γ:Gh) (act:Act),SatA n e γ act→valid (vals act) c→∃ t,act.eval x=.bool t∧DenV γ z (if t=true then act.eval a else act.eval b):=by
 unfold pickA at H
 split at H
 ·rename_i s
  split at H
  ·rename_i cs v hl
   split at H
   ·rename_i t ht
    cases hsf:suf cs c with
    | false=>rw [hsf] at H;exact H.elim
    | true=>
     rw [hsf] at H
     simp only [cond_true] at H
     split at H
     ·rename_i va vb ha hb
      split at H
      ·rename_i z hz
       refine⟨z,H,fun n γ act hs hv=>?_⟩
       have hcs:=suf_valid hsf hv
       have hx:vals act s=.bool t:=boolA_den ht ((hs.all _ (lookA_mem hl)).1 hcs)
       refine⟨t,hx,mixA_den hz (fun htt=>?_) (fun htf=>?_)⟩
       ·unfold orA at ha
        split at ha
        ·rename_i w _ h1
         simp only [Option.some.injEq] at ha;subst ha
         exact opdA_sound hs hv h1
        ·exact opdA_sound hs (c:=(s,true)::cs) ⟨by rw [hx,htt],hcs⟩ ha
       ·unfold orA at hb
        split at hb
        ·rename_i w _ h1
         simp only [Option.some.injEq] at hb;subst hb
         exact opdA_sound hs hv h1
        ·exact opdA_sound hs (c:=(s,false)::cs) ⟨by rw [hx,htf],hcs⟩ hb
      ·exact H.elim
     ·exact H.elim
   ·exact H.elim
  ·exact H.elim
 ·exact H.elim
def opA (P:Program) (gl:Fr) (tr:TypeId) (o:Oper) (e:EnvA) (c:Chain) (C R:CS) (K:AV→CS→Option Nat→Prop):Prop:=
 match o.op with
 | .pick x a b=>pickA e c x a b fun av=>K av C none
 | _=>match condOptA e c with
  | some none=>hA P gl tr o (opdA e c) C R K
  | some (some b)=>bif isCall o then callG P gl tr o (opdA e c) b (C++R) (fun av=>K av C none) else qA P gl o (opdA e c) (some b) (C++R) (fun av=>K av C none)
  | none=>False
theorem opA_yes {P:Program} {gl:Fr} (hgl:Fr.le gl M0) {tr:TypeId} {n:Nat} {o:Oper} {e:EnvA} {a:Act} {c:Chain} {C R:CS} {γ:Gh} {h:Heap} {K:AV→CS→Option Nat→Prop} (H:opA P gl tr o e c C R K) (hs:SatA n e γ a) (I:Inv h0 W M0 (C++R) γ h) (hv:valid (vals a) c):
  ExA P (execOp a.eval o) h (PostA h0 W M0 R γ K):=by
 have hσ:∀ f,a.eval (.func f)=.func (.func f) #[] #[]:=fun _=>rfl
 have hρ:∀ x av,opdA e c x=some av→DenV γ av (a.eval x):=fun x av hx=>opdA_sound hs hv hx
 unfold opA at H
 split at H
 ·rename_i x y z ho
  obtain⟨av,h1,h2⟩:=pickA_sound H
  obtain⟨t,h3,h4⟩:=h2 n γ a hs hv
  refine fun B d=>.inl ⟨_,d,h,?_,av,C,none,γ,h1,h4,I,Gx.refl _ _⟩
  simp only [execOp,ho,h3,asBool,Sem.run_bind,Sem.run_pure,Result.andThen_ok]
 ·split at H
  ·exact hA_ex hgl H I hσ hρ
  ·rename_i b hb
   have hg:=condOptA_yes hs hb hv
   cases hic:isCall o with
   | true=>
    rw [hic] at H
    simp only [cond_true] at H
    obtain⟨f,args,h1,h2⟩:=(callG_sound (h0:=h0) (W:=W) (M0:=M0) H).2 hg hgl γ h a.eval I hσ hρ
    refine fun B d=>.inr (.inr ⟨f,args,h1 _,h2.mono ?_⟩)
    rintro v h' ⟨av,γ',g1,g2,g3,g4,_⟩
    exact⟨av,C,none,γ',g1,g2,g3,g4⟩
   | false=>
    rw [hic] at H
    simp only [cond_false] at H
    obtain⟨av,h1,h2⟩:=qA_sound (h0:=h0) (W:=W) (M0:=M0) hgl H
    obtain⟨v,hd,hq⟩:=h2 hg γ h a.eval I hρ
    exact fun B d=>.inl ⟨v,d,h,hq B d,av,C,none,γ,h1,hd,I,Gx.refl _ _⟩
  ·exact H.elim
theorem opA_no {P:Program} {gl:Fr} {tr:TypeId} {n:Nat} {o:Oper} {e:EnvA} {a:Act} {c:Chain} {C R:CS} {γ:Gh} {K:AV→CS→Option Nat→Prop} (H:opA P gl tr o e c C R K) (hs:SatA n e γ a) (hv:¬ valid (vals a) c):∃ av,K av C none:=by
 unfold opA at H
 split at H
 ·obtain⟨av,h1,_⟩:=pickA_sound H
  exact⟨av,h1⟩
 ·split at H
  ·rename_i hg
   have:=condOptA_no hs hg hv
   cases this
  ·rename_i b hb
   have hbf:=condOptA_no hs hb hv
   simp only [Option.some.injEq] at hbf
   cases hic:isCall o with
   | true=>rw [hic] at H;simp only [cond_true] at H;exact(callG_sound (h0:=#[]) (W:=fun _=>False) (M0:=fun _=>none) H).1 hbf
   | false=>
    rw [hic] at H
    simp only [cond_false] at H
    obtain⟨av,h1,_⟩:=qA_sound (h0:=#[]) (W:=fun _=>False) (M0:=gl) (Fr.le.refl _) H
    exact⟨av,h1⟩
  ·exact H.elim
def GxS (S:List Nat) (γ γ':Gh):Prop:=Fr.le γ.M γ'.M∧∀ i,i∉S→γ'.β i=γ.β i∧γ'.σ i=γ.σ i
theorem GxS.refl (S:List Nat) (γ:Gh):GxS S γ γ:=⟨Fr.le.refl _,fun _ _=>⟨rfl,rfl⟩⟩
theorem GxS.trans {S:List Nat} {a b c:Gh} (h:GxS S a b) (k:GxS S b c):GxS S a c:=⟨h.1.trans k.1,fun i hi=>⟨(k.2 i hi).1.trans (h.2 i hi).1,(k.2 i hi).2.trans (h.2 i hi).2⟩⟩
theorem GxS.mono {S S':List Nat} {a b:Gh} (h:GxS S a b) (hs:∀ x∈S,x∈S'):GxS S' a b:=⟨h.1,fun i hi=>h.2 i fun hm=>hi (hs i hm)⟩
def idOk (c:Option Nat) (d:Option Nat):Bool:=match c,d with
 | none,_=>true
 | some x,some y=>Nat.beq x y
 | some _,none=>false
theorem Gx.toS {c d:Option Nat} {γ γ':Gh} (g:Gx c γ γ') (h:idOk c d=true) {S:List Nat} (hS:∀ i,d=some i→i∈S):GxS S γ γ':=by
 refine⟨g.1,fun i hi=>g.2 i fun e=>?_⟩
 subst e
 cases d with
 | none=>cases h
 | some y=>
  have:i=y:=Nat.eq_of_beq_eq_true h
  subst this
  exact hi (hS _ rfl)
def wRA (P:Program) (gl:Fr) (tr:TypeId) (n:Nat) (ops:Array Oper) (R:CS) (K:EnvA→CS→Prop):List Oper→EnvA→CS→Prop
 | [],e,C=>K (cleanA e) C
 | o::rest,e,C=>match chainOfA ops e o.guard with
  | some c=>bif okDst n c o.dst then opA P gl tr o e c C R (fun av C' i=>bif idOk i o.dst then wRA P gl tr n ops R K rest (putOA (purgeE i e) o.dst c av) C' else False) else False
  | none=>False
theorem wRA_sound {P:Program} {gl:Fr} (hgl:Fr.le gl M0) {tr:TypeId} {n:Nat} {ops:Array Oper} {R:CS} {K:EnvA→CS→Prop} {Q:Exit→Act→World→Prop} (B:World):
  ∀ (l:List Oper) (e:EnvA) (C:CS) (γ:Gh) (h:Heap) (a:Act) (d:Nat),wRA P gl tr n ops R K l e C→SatA n e γ a→Inv h0 W M0 (C++R) γ h →
   (∀ e' C' γ' a' d' h',SatA n e' γ' a'→Inv h0 W M0 (C'++R) γ' h'→Same (dsts l) a a'→GxS (dsts l) γ γ'→K e' C'→Q .normal a' (mk B d' h'))→wpList P ops Q l a (mk B d h)
 | [],e,C,γ,h,a,d,H,hs,I,hQ=>hQ _ _ _ _ _ _ hs.clean I (Same.refl _ _) (GxS.refl _ _) H
 | o::rest,e,C,γ,h,a,d,H,hs,I,hQ=>by
  unfold wRA at H
  split at H
  ·rename_i c hc
   cases hd:okDst n c o.dst with
   | false=>rw [hd] at H;exact H.elim
   | true=>
    rw [hd] at H
    simp only [cond_true] at H
    have hw:=wantedA_sound hs hc
    have hsub:∀ i,o.dst=some i→i∈dsts (o::rest):=fun i hi=>by simp [dsts,hi]
    have hmore:∀ x∈dsts rest,x∈dsts (o::rest):=fun x hx=>by
     unfold dsts
     split
     ·exact List.mem_cons_of_mem _ hx
     ·exact hx
    have goOn:∀ av u d' h' C' i γ',(valid (vals a) c→DenV γ' av u)→(¬ valid (vals a) c→u=undef)→Inv h0 W M0 (C'++R) γ' h'→Gx i γ γ'→(bif idOk i o.dst then wRA P gl tr n ops R K rest (putOA (purgeE i e) o.dst c av) C' else False) →
      wpList P ops Q rest (a.put o.dst u) (mk B d' h'):=fun av u d' h' C' i γ' h1 h2 I' g h3=>by
     cases hid:idOk i o.dst with
     | false=>rw [hid] at h3;exact h3.elim
     | true=>
      rw [hid] at h3
      exact wRA_sound hgl B rest _ _ _ _ _ _ h3 ((hs.gx g).putO hd h1 h2) I' fun e' C'' γ'' a' d'' h'' q1 q2 q3 q4 q5=>
       hQ e' C'' γ'' a' d'' h'' q1 q2 ((Same.put a o.dst u hsub).trans (q3.mono hmore)) ((g.toS hid hsub).trans (q4.mono hmore)) q5
    unfold wpList
    by_cases hv:valid (vals a) c
    ·rw [if_pos (hw.2 hv)]
     refine .inl ((opA_yes hgl H hs I hv).upon B d ?_)
     rintro v d' h' ⟨av,C',i,γ',g1,g2,g3,g4⟩
     exact goOn av v d' h' C' i γ' (fun _=>g2) (fun hv'=>absurd hv hv') g3 g4 g1
    ·rw [if_neg (fun hx=>hv (hw.1 hx))]
     obtain⟨av,hK⟩:=opA_no H hs hv
     exact goOn av undef d h C none γ (fun hv'=>absurd hv' hv) (fun _=>rfl) I (Gx.refl _ _) hK
  ·exact H.elim
end Go.X
end
section
namespace Go.X
open Go
set_option linter.unusedVariables false
variable {h0 : Heap} {W : Nat → Prop} {M0 : Fr}
inductive Shp where
 | dat (t:Ty)
 | own (e:TypeId) (t:Ty)
 deriving DecidableEq
@[reducible] def DS:Shp→Type
 | .dat t=>El t
 | .own _ t=>List (El t)
inductive SG where
 | one (s:Shp)
 | agg (l:List Shp)
structure AnnA where
 slots:List (Nat×SG)
 boxes:List (Nat×List Shp)
 ro:List Nat
 ids:List Nat
abbrev Dy:=(s:Shp)×DS s
@[reducible] def CurS:List Shp→Type→Type
 | [],X=>X
 | s::l,X=>DS s→CurS l X
def castS (s s':Shp) (x:DS s):Option (DS s'):=if h:s=s' then some (h ▸ x) else none
def allC2 {X:Type}:(l:List Shp)→CurS l X→(List Dy→X→Prop)→Prop
 | [],f,k=>k [] f
 | s::l,f,k=>∀ x:DS s,allC2 l (f x) fun vs y=>k (⟨s,x⟩::vs) y
def decC2 {X:Type}:(l:List Shp)→List Dy→CurS l X→Option X
 | [],[],f=>some f
 | s::l,d::ds,f=>match castS d.1 s d.2 with
  | some x=>decC2 l ds (f x)
  | none=>none
 | _,_,_=>none
def mkC2 {X:Type}:(l:List Shp)→(List Dy→X)→CurS l X
 | [],f=>f []
 | s::l,f=>fun x=>mkC2 l fun vs=>f (⟨s,x⟩::vs)
def pairC2 {X Y:Type}:(l:List Shp)→CurS l X→CurS l Y→CurS l (X×Y)
 | [],f,g=>(f,g)
 | _::l,f,g=>fun x=>pairC2 l (f x) (g x)
theorem castS_eq {s s':Shp} {x:DS s} {y:DS s'} (h:castS s s' x=some y):(⟨s',y⟩:Dy)=⟨s,x⟩:=by
 unfold castS at h
 split at h
 ·rename_i e
  subst e
  have h:=Option.some.inj h
  rw [← h]
 ·cases h
theorem decC2_spec {X:Type}:∀ {l:List Shp} {vs:List Dy} {f:CurS l X} {x:X} {k:List Dy→X→Prop},decC2 l vs f=some x→allC2 l f k→k vs x
 | [],[],f,x,k,h,g=>by have h:=Option.some.inj h;subst h;exact g
 | [],_::_,f,x,k,h,g=>by simp [decC2] at h
 | _::_,[],f,x,k,h,g=>by simp [decC2] at h
 | s::l,d::ds,f,x,k,h,g=>by
  simp only [decC2] at h
  split at h
  ·rename_i y hy
   have:=decC2_spec h (g y)
   rw [castS_eq hy] at this
   exact this
  ·cases h
theorem decC2_mkC {X:Type}:∀ {l:List Shp} {vs:List Dy} {f:List Dy→X} {x:X},decC2 l vs (mkC2 l f)=some x→x=f vs
 | [],[],f,x,h=>(Option.some.inj h).symm
 | [],_::_,f,x,h=>by simp [decC2] at h
 | _::_,[],f,x,h=>by simp [decC2] at h
 | s::l,d::ds,f,x,h=>by
  simp only [decC2,mkC2] at h
  split at h
  ·rename_i y hy
   have:=decC2_mkC h
   rw [castS_eq hy] at this
   exact this
  ·cases h
theorem allC2_mkC {X:Type}:∀ {l:List Shp} {f:List Dy→X} {k:List Dy→X→Prop},(∀ vs,k vs (f vs))→allC2 l (mkC2 l f) k
 | [],_,_,h=>h []
 | _::_,_,_,h=>fun _=>allC2_mkC fun _=>h _
structure Pl where
 id:Nat
 s:Shp
 a:AA
def plL (base:Nat):List Shp→List AA→Option (List Pl)
 | [],[]=>some []
 | s::ss,a::as=>match plL (base+1) ss as with
  | some l=>some (⟨base,s,a⟩::l)
  | none=>none
 | _,_=>none
def plSlots (e:EnvA):List (Nat×SG)→Option (List Pl)
 | []=>some []
 | (i,sg)::l=>match lookA e i,plSlots e l with
  | some ([],.g x),some r=>match sg,x with
   | .one s,.a a=>some (⟨100000+64*i,s,a⟩::r)
   | .agg ss,.agg as=>match plL (100000+64*i) ss as with
    | some q=>some (q++r)
    | none=>none
   | _,_=>none
  | _,_=>none
def plBoxes (C:CS):List (Nat×List Shp)→Option (List Pl)
 | []=>some []
 | (c,ss)::l=>match findC C c,plBoxes C l with
  | some (.box as),some r=>match plL (1000000+64*c) ss as with
   | some q=>some (q++r)
   | none=>none
  | _,_=>none
def sgShps:SG→List Shp
 | .one s=>[s]
 | .agg l=>l
def slotShps:List (Nat×SG)→List Shp
 | []=>[]
 | (_,sg)::l=>sgShps sg++slotShps l
def boxShps:List (Nat×List Shp)→List Shp
 | []=>[]
 | (_,ss)::l=>ss++boxShps l
def shpsJ (J:AnnA):List Shp:=slotShps J.slots++boxShps J.boxes
def toFrz:List Pl→List Nat
 | []=>[]
 | ⟨_,.dat _,.own c⟩::l=>c::toFrz l
 | _::l=>toFrz l
def menP (c:Nat):List Pl→Bool
 | []=>false
 | p::l=>bif (bif Nat.beq p.id c then true else menA c p.a) then true else menP c l
def normO (R:CS):List Pl→CS→Option CS
 | [],C=>some C
 | p::l,C=>match p.s with
  | .dat _=>normO R l C
  | .own e t=>bif menP p.id l then none else(match p.a with
   | .own c=>match findC C c with
    | some (.row e' t' xs)=>match castE (.row t') (.row t) xs with
     | some ys=>bif Nat.beq e e' then(bif Nat.beq c p.id then normO R l C else(bif noneC p.id R then normO R l ((p.id,.row e t ys)::purgeC p.id (delC c C)) else none)) else none
     | none=>none
    | _=>none
   | .v (.slice none 0 0)=>bif noneC p.id R then normO R l ((p.id,.row e t [])::purgeC p.id C) else none
   | _=>none)
theorem pair_apart {cs:CS} {γ:Gh} {h:Heap} (I:Inv h0 W M0 cs γ h) {x y:Nat×Ch} (hx:x∈cs) (hy:y∈cs) (hne:x≠y):∀ b,blk γ x.1 x.2=some b→blk γ y.1 y.2≠some b:=
 @pair_mem _ (fun(x y:Nat×Ch)=>∀ b,blk γ x.1 x.2=some b→blk γ y.1 y.2≠some b) (fun x y h b hb hb'=>h b hb' hb) _ I.apart _ _ hx hy hne
theorem Inv.rename {C R:CS} {γ:Gh} {h:Heap} (I:Inv h0 W M0 (C++R) γ h) {c i:Nat} (hR:noneC i R=true) {e:TypeId} {t:Ty} {xs:List (El t)} (hc:(c,Ch.row e t xs)∈C):
  Inv h0 W M0 ((i,.row e t xs)::purgeC i (delC c C)++R) (setσ γ i (γ.σ c)) h:=by
 have hsub:(purgeC i (delC c C)++R).Sublist (C++R):=(((purgeC_sub i _).trans (delC_sub c C))).append_right R
 have hmem:(c,Ch.row e t xs)∈C++R:=List.mem_append_left R hc
 have hap:∀ x∈purgeC i (delC c C)++R,∀ b,blk γ c (.row e t xs)=some b→blk γ x.1 x.2≠some b:=by
  intro x hx b hb hbx
  have hne:x≠(c,Ch.row e t xs):=by
   rintro rfl
   rcases List.mem_append.1 hx with hx | hx
   ·exact(delC_mem ((purgeC_sub i _).subset hx)).2 rfl
   ·have hd1:=I.apart
    rw [List.pairwise_append] at hd1
    exact hd1.2.2 _ hc _ hx b hb hb
  exact pair_apart I (hsub.subset hx) hmem hne b hbx hb
 have hI:Inv h0 W M0 (purgeC i (delC c C)++R) (setσ γ i (γ.σ c)) h:=
  I.rest hsub (setσ_gx γ i _) (mem_pur hR) (fun x hx b hb=>⟨rfl,(I.sep x (hsub.subset hx) b hb).2⟩) I.ag (fun _ _ _=>rfl) (Nat.le_refl _) (fun _ _=>rfl)
 obtain⟨cells,h1,h2,h3,h4⟩:=I.den _ hmem
 have eb:∀ b,blk (setσ γ i (γ.σ c)) i (.row e t xs)=some b→blk γ c (.row e t xs)=some b:=fun b hb=>by simpa [blk,setσ_same] using hb
 refine hI.cons ⟨cells,by rw [setσ_same];exact h1,h2,h3,by rw [setσ_same];exact h4⟩ (fun b hb=>I.sep _ hmem b (eb b hb)) (fun b hb x hx e'=>?_)
 rw [blk_gx (setσ_gx γ i _) _ (mem_pur hR x hx).1] at e'
 exact hap x hx b (eb b hb) e'
theorem Inv.nilRow {C R:CS} {γ:Gh} {h:Heap} (I:Inv h0 W M0 (C++R) γ h) {i:Nat} (hR:noneC i R=true) (e:TypeId) (t:Ty):
  Inv h0 W M0 ((i,.row e t [])::purgeC i C++R) (setσ γ i ⟨none,0,0⟩) h:=by
 have hsub:=(purgeC_sub i C).append_right R
 have hI:Inv h0 W M0 (purgeC i C++R) (setσ γ i ⟨none,0,0⟩) h:=
  I.rest hsub (setσ_gx γ i _) (mem_pur hR) (fun x hx b hb=>⟨rfl,(I.sep x (hsub.subset hx) b hb).2⟩) I.ag (fun _ _ _=>rfl) (Nat.le_refl _) (fun _ _=>rfl)
 refine hI.cons ⟨[],by rw [setσ_same];exact Owns.nil _ _ _ _,RowC.nil _ _,by simp,by rw [setσ_same];rfl⟩ (fun b hb=>by simp [blk,setσ_same] at hb) (fun b hb=>by simp [blk,setσ_same] at hb)
theorem menP_mem {c:Nat}:∀ {l:List Pl},menP c l=false→∀ p∈l,p.id≠c∧menA c p.a=false
 | [],_,p,hp=>by cases hp
 | q::l,h,p,hp=>by
  simp only [menP] at h
  cases hq:(bif Nat.beq q.id c then true else menA c q.a) with
  | true=>rw [hq] at h;cases h
  | false=>
   rw [hq] at h
   rcases List.mem_cons.1 hp with rfl | hp
   ·cases hb:Nat.beq p.id c with
    | true=>rw [hb] at hq;cases hq
    | false=>rw [hb] at hq;exact⟨fun e=>by rw [e] at hb;simp at hb,hq⟩
   ·exact menP_mem h p hp
def idsP:List Pl→List Nat
 | []=>[]
 | p::l=>p.id::idsP l
theorem normO_sound {R:CS} {h:Heap}:∀ {l:List Pl} {C C1:CS} {γ:Gh},normO R l C=some C1→Inv h0 W M0 (C++R) γ h →
  ∃ γ1,Inv h0 W M0 (C1++R) γ1 h∧GxS (idsP l) γ γ1∧(γ1.M=γ.M∧γ1.β=γ.β)∧∀ p∈l,∀ e t,p.s=.own e t→∀ u,DenA γ p.a u→DenA γ1 (.own p.id) u
 | [],C,C1,γ,hn,I=>by
  simp only [normO,Option.some.injEq] at hn
  subst hn
  exact⟨γ,I,GxS.refl _ _,⟨rfl,rfl⟩,fun p hp=>by cases hp⟩
 | p::l,C,C1,γ,hn,I=>by
  have tl:∀ {S:List Nat} {a b:Gh},GxS (idsP l) a b→GxS (idsP (p::l)) a b:=fun g=>g.mono fun x hx=>List.mem_cons_of_mem _ hx
  have stepG:∀ s,GxS (idsP (p::l)) γ (setσ γ p.id s):=fun s=>⟨Fr.le.refl _,fun i hi=>(setσ_gx γ p.id s).2 i (by
   simp only [idsP,List.mem_cons,not_or] at hi;intro e;simp only [Option.some.injEq] at e;exact hi.1 e.symm)⟩
  simp only [normO] at hn
  split at hn
  ·rename_i t hs
   obtain⟨γ1,I1,g1,m1,h1⟩:=normO_sound hn I
   exact⟨γ1,I1,tl (S:=[]) g1,m1,fun q hq e t' hqs=>by
    rcases List.mem_cons.1 hq with rfl | hq
    ·rw [hs] at hqs;cases hqs
    ·exact h1 q hq e t' hqs⟩
  ·rename_i e t hs
   cases hm:menP p.id l with
   | true=>rw [hm] at hn;cases hn
   | false=>
    rw [hm] at hn
    simp only [cond_false] at hn
    have hmm:=menP_mem hm
    have fin:∀ {C2:CS} {γ2:Gh},normO R l C2=some C1→Inv h0 W M0 (C2++R) γ2 h→GxS (idsP (p::l)) γ γ2→(γ2.M=γ.M∧γ2.β=γ.β)→(∀ i,i≠p.id→γ2.σ i=γ.σ i∧γ2.β i=γ.β i)→(∀ u,DenA γ p.a u→DenA γ2 (.own p.id) u) →
      ∃ γ1,Inv h0 W M0 (C1++R) γ1 h∧GxS (idsP (p::l)) γ γ1∧(γ1.M=γ.M∧γ1.β=γ.β)∧∀ q∈p::l,∀ e t,q.s=.own e t→∀ u,DenA γ q.a u→DenA γ1 (.own q.id) u:=by
     intro C2 γ2 hn2 I2 g2 m2 hsame hd2
     obtain⟨γ1,I1,g1,m1,h1⟩:=normO_sound hn2 I2
     refine⟨γ1,I1,g2.trans (tl (S:=[]) g1),⟨m1.1.trans m2.1,m1.2.trans m2.2⟩,fun q hq e' t' hqs u hu=>?_⟩
     rcases List.mem_cons.1 hq with rfl | hq
     ·have h2:=hd2 u hu
      have hni:q.id∉idsP l:=by
       intro hi
       have:∀ {l:List Pl},q.id∈idsP l→∃ p∈l,p.id=q.id:=by
        intro l
        induction l with
        | nil=>intro h;cases h
        | cons x l ih=>
         intro h
         simp only [idsP,List.mem_cons] at h
         rcases h with h | h
         ·exact⟨x,List.mem_cons_self,h.symm⟩
         ·obtain⟨y,hy,e⟩:=ih h;exact⟨y,List.mem_cons_of_mem _ hy,e⟩
       obtain⟨y,hy,e⟩:=this hi
       exact(hmm y hy).1 e
      rw [show u=_ from h2]
      simp only [DenA,(g1.2 _ hni).2]
     ·refine h1 q hq e' t' hqs u ?_
      have gx:Gx (some p.id) γ γ2:=⟨by rw [m2.1];exact Fr.le.refl _,fun i hi=>by
       have:=hsame i (fun e=>hi (by rw [e]))
       exact⟨this.2,this.1⟩⟩
      exact hu.gx gx (hmm q hq).2
    split at hn
    ·rename_i c ha
     split at hn
     ·rename_i e' t' xs hc
      split at hn
      ·rename_i ys hcast
       obtain⟨e1,e2⟩:=castE_row hcast
       subst e1
       simp only at e2
       subst e2
       cases hee:Nat.beq e e' with
       | false=>rw [hee] at hn;cases hn
       | true=>
        rw [hee] at hn
        have:=Nat.eq_of_beq_eq_true hee
        subst this
        simp only [cond_true] at hn
        cases hci:Nat.beq c p.id with
        | true=>
         rw [hci] at hn
         simp only [cond_true] at hn
         have hcp:=Nat.eq_of_beq_eq_true hci
         exact fin hn I (GxS.refl _ _) ⟨rfl,rfl⟩ (fun _ _=>⟨rfl,rfl⟩) (fun u hu=>by rw [ha,hcp] at hu;exact hu)
        | false=>
         rw [hci] at hn
         simp only [cond_false] at hn
         cases hR:noneC p.id R with
         | false=>rw [hR] at hn;cases hn
         | true=>
          rw [hR] at hn
          simp only [cond_true] at hn
          refine fin hn (I.rename hR (findC_mem hc)) (stepG _) ⟨rfl,rfl⟩ (fun i hi=>?_) (fun u hu=>?_)
          ·have:=(setσ_gx γ p.id (γ.σ c)).2 i (by simp;exact fun e=>hi e.symm)
           exact⟨this.2,this.1⟩
          ·rw [ha] at hu
           rw [show u=_ from hu]
           simp only [DenA,setσ_same]
      ·cases hn
     ·cases hn
    ·rename_i ha
     cases hR:noneC p.id R with
     | false=>rw [hR] at hn;cases hn
     | true=>
      rw [hR] at hn
      simp only [cond_true] at hn
      refine fin hn (I.nilRow hR e t) (stepG _) ⟨rfl,rfl⟩ (fun i hi=>?_) (fun u hu=>?_)
      ·have:=(setσ_gx γ p.id ⟨none,0,0⟩).2 i (by simp;exact fun e=>hi e.symm)
       exact⟨this.2,this.1⟩
      ·rw [ha] at hu
       rw [show u=_ from hu]
       simp only [DenA,setσ_same]
       rfl
    ·cases hn
def datP1 (cs0 cs:CS) (p:Pl):Option Dy:=match p.s with
 | .dat t=>match cellD cs0 t p.a with
  | some x=>some ⟨.dat t,x⟩
  | none=>none
 | .own e t=>match findC cs p.id with
  | some (.row e' t' xs)=>match castE (.row t') (.row t) xs with
   | some ys=>bif Nat.beq e e' then some ⟨.own e t,ys⟩ else none
   | none=>none
  | _=>none
def datP (cs0 cs:CS):List Pl→Option (List Dy)
 | []=>some []
 | p::l=>match datP1 cs0 cs p,datP cs0 cs l with
  | some d,some v=>some (d::v)
  | _,_=>none
def aaOf (i:Nat):Dy→AA
 | ⟨.dat t,x⟩=>match expand t x with
  | [a]=>a
  | _=>.v undef
 | ⟨.own _ _,_⟩=>.own i
def aasD:Nat→List Dy→List AA
 | _,[]=>[]
 | i,d::l=>aaOf i d::aasD (i+1) l
def ownD (i:Nat):Dy→CS
 | ⟨.own e t,xs⟩=>[(i,.row e t xs)]
 | _=>[]
def ownsD:Nat→List Dy→CS
 | _,[]=>[]
 | i,d::l=>ownD i d++ownsD (i+1) l
theorem aaOf_dat {γ:Gh} {i:Nat} {t:Ty} {x:El t} {u:Value} (h:Rd γ.M t x [u]):DenA γ (aaOf i ⟨.dat t,x⟩) u:=by
 have hd:=expand_den (γ:=γ) h
 unfold aaOf
 match hx:expand t x,hd with
 | [a],hd=>simp only [hx];exact hd.1
 | [],hd=>exact hd.elim
 | _::_::_,hd=>exact hd.2.elim
theorem castE_self {t:Ty} {e:TypeId} {t':Ty} {xs:List (El t')} {ys:List (El t)} (h:castE (.row t') (.row t) xs=some ys):Ch.row e t' xs=Ch.row e t ys:=by
 obtain⟨e1,e2⟩:=castE_row h
 subst e1
 simp only at e2
 rw [e2]
theorem datP_cons {cs0 cs:CS} {p:Pl} {l:List Pl} {v:List Dy} (h:datP cs0 cs (p::l)=some v):∃ d w,v=d::w∧datP cs0 cs l=some w ∧
  ((∃ t x,p.s=.dat t∧d=⟨.dat t,x⟩∧cellD cs0 t p.a=some x)∨(∃ e t xs,p.s=.own e t∧d=⟨.own e t,xs⟩∧(p.id,Ch.row e t xs)∈cs)):=by
 simp only [datP] at h
 split at h
 ·rename_i d w h1 h2
  have h:=Option.some.inj h
  refine⟨d,w,h.symm,h2,?_⟩
  unfold datP1 at h1
  split at h1
  ·rename_i t hs
   split at h1
   ·rename_i y hy
    exact .inl ⟨t,y,hs,(Option.some.inj h1).symm,hy⟩
   ·cases h1
  ·rename_i e t hs
   split at h1
   ·rename_i e' t' xs hf
    split at h1
    ·rename_i ys hc
     cases he:Nat.beq e e' with
     | false=>rw [he] at h1;cases h1
     | true=>
      rw [he] at h1
      refine .inr ⟨e,t,ys,hs,(Option.some.inj (show some (⟨.own e t,ys⟩:Dy)=some d from h1)).symm,?_⟩
      have:=findC_mem hf
      rw [castE_self hc,← Nat.eq_of_beq_eq_true he] at this
      exact this
    ·cases h1
   ·cases h1
 ·cases h
theorem datP_append {cs0 cs:CS}:∀ {q r:List Pl} {v:List Dy},datP cs0 cs (q++r)=some v→∃ v1 v2,v=v1++v2∧v1.length=q.length∧datP cs0 cs q=some v1∧datP cs0 cs r=some v2
 | [],r,v,h=>⟨[],v,rfl,rfl,rfl,h⟩
 | p::q,r,v,h=>by
  simp only [List.cons_append,datP] at h
  split at h
  ·rename_i d w h1 h2
   have h:=Option.some.inj h
   obtain⟨v1,v2,rfl,e1,e2,e3⟩:=datP_append h2
   exact⟨d::v1,v2,by rw [← h];rfl,by simp [e1],by simp only [datP,h1,e2],e3⟩
  ·cases h
theorem plL_facts {base:Nat}:∀ {ss:List Shp} {as:List AA} {l:List Pl},plL base ss as=some l→l.length=ss.length∧∀ {γ γ1:Gh} {cs0 cs1:CS} {v:List Dy} {us:List Value},FzOk γ cs0→γ1.M=γ.M→datP cs0 cs1 l=some v →
   (∀ p∈l,∀ e t,p.s=.own e t→∀ u,DenA γ p.a u→DenA γ1 (.own p.id) u)→All2 (DenA γ) as us→All2 (DenA γ1) (aasD base v) us∧∀ x∈ownsD base v,x∈cs1:=by
 intro ss
 induction ss generalizing base with
 | nil=>
  intro as l h
  cases as with
  | nil=>
   simp only [plL,Option.some.injEq] at h
   subst h
   refine⟨rfl,fun hf hM hd ho hu=>?_⟩
   have hd:=Option.some.inj hd
   subst hd
   refine⟨?_,fun x hx=>by cases hx⟩
   rename_i us
   cases us with
   | nil=>trivial
   | cons _ _=>exact hu.elim
  | cons a as=>simp [plL] at h
 | cons s ss ih=>
  intro as l h
  cases as with
  | nil=>simp [plL] at h
  | cons a as=>
   simp only [plL] at h
   split at h
   ·rename_i l' hl
    simp only [Option.some.injEq] at h
    subst h
    obtain⟨e1,ih⟩:=ih hl
    refine⟨by simp [e1],fun {γ γ1 cs0 cs1 v us} hf hM hd ho hu=>?_⟩
    obtain⟨d,w,rfl,h2,h3⟩:=datP_cons hd
    cases us with
    | nil=>exact hu.elim
    | cons u us=>
     obtain⟨i1,i2⟩:=ih hf hM h2 (fun p hp=>ho p (List.mem_cons_of_mem _ hp)) hu.2
     rcases h3 with⟨t,x,hs,rfl,hc⟩| ⟨e,t,xs,hs,rfl,hm⟩
     ·have:=cellD_rd hf hc hu.1
      rw [← hM] at this
      refine⟨⟨aaOf_dat this,i1⟩,fun y hy=>i2 y ?_⟩
      simpa [ownsD,ownD] using hy
     ·refine⟨⟨ho _ List.mem_cons_self e t hs u hu.1,i1⟩,fun y hy=>?_⟩
      simp only [ownsD,ownD,List.cons_append,List.nil_append,List.mem_cons] at hy
      rcases hy with rfl | hy
      ·exact hm
      ·exact i2 y hy
   ·cases h
def groupJ2:List (Nat×SG)→List Dy→EnvA
 | [],_=>[]
 | (i,.one _)::l,d::ds=>(i,[],.g (.a (aaOf (100000+64*i) d)))::groupJ2 l ds
 | (_,.one _)::_,[]=>[]
 | (i,.agg ss)::l,ds=>(i,[],.g (.agg (aasD (100000+64*i) (ds.take ss.length))))::groupJ2 l (ds.drop ss.length)
def slotOwns:List (Nat×SG)→List Dy→CS
 | [],_=>[]
 | (i,.one _)::l,d::ds=>ownD (100000+64*i) d++slotOwns l ds
 | (_,.one _)::_,[]=>[]
 | (i,.agg ss)::l,ds=>ownsD (100000+64*i) (ds.take ss.length)++slotOwns l (ds.drop ss.length)
def boxesJ2:List (Nat×List Shp)→List Dy→CS
 | [],_=>[]
 | (c,ss)::l,ds=>(c,.box (aasD (1000000+64*c) (ds.take ss.length)))::(ownsD (1000000+64*c) (ds.take ss.length)++boxesJ2 l (ds.drop ss.length))
def slotN:List (Nat×SG)→Nat
 | []=>0
 | (_,.one _)::l=>1+slotN l
 | (_,.agg ss)::l=>ss.length+slotN l
def envJ (J:AnnA) (ds:List Dy):EnvA:=groupJ2 J.slots ds
def chJ (J:AnnA) (ds:List Dy):CS:=slotOwns J.slots ds++boxesJ2 J.boxes (ds.drop (slotN J.slots))
theorem plSlots_facts {e:EnvA} {n:Nat} {a:Act}:∀ {ss:List (Nat×SG)} {l:List Pl},plSlots e ss=some l→l.length=slotN ss∧∀ {γ γ1:Gh} {cs0 cs1:CS} {v w:List Dy},SatA n e γ a→FzOk γ cs0→γ1.M=γ.M→datP cs0 cs1 l=some v →
   (∀ p∈l,∀ e t,p.s=.own e t→∀ u,DenA γ p.a u→DenA γ1 (.own p.id) u)→(∀ x∈groupJ2 ss (v++w),factA γ1 (vals a) x)∧∀ x∈slotOwns ss (v++w),x∈cs1
 | [],l,h=>by
  simp only [plSlots,Option.some.injEq] at h
  subst h
  refine⟨rfl,fun _ _ _ hd _=>?_⟩
  have hd:=Option.some.inj hd
  subst hd
  exact⟨fun x hx=>(by cases hx),fun x hx=>(by cases hx)⟩
 | (i,sg)::ss,l,h=>by
  simp only [plSlots] at h
  split at h
  ·rename_i x r hl hr
   split at h
   ·rename_i s aa
    simp only [Option.some.injEq] at h
    subst h
    obtain⟨e1,ih⟩:=plSlots_facts (n:=n) (a:=a) hr
    refine⟨by simp [e1,slotN];omega,fun {γ γ1 cs0 cs1 v w} hs hf hM hd ho=>?_⟩
    obtain⟨d,v',rfl,h2,h3⟩:=datP_cons hd
    obtain⟨i1,i2⟩:=ih (w:=w) hs hf hM h2 (fun p hp=>ho p (List.mem_cons_of_mem _ hp))
    have hden:DenA γ aa (vals a i):=(hs.all _ (lookA_mem hl)).1 trivial
    rcases h3 with⟨t,x,hs',rfl,hc⟩| ⟨e',t,xs,hs',rfl,hm⟩
    ·have:=cellD_rd hf hc hden
     rw [← hM] at this
     refine⟨fun y hy=>?_,fun y hy=>?_⟩
     ·simp only [List.cons_append,groupJ2,List.mem_cons] at hy
      rcases hy with rfl | hy
      ·exact⟨fun _=>aaOf_dat this,fun hn=>absurd trivial hn⟩
      ·exact i1 y hy
     ·simp only [List.cons_append,slotOwns,ownD,List.nil_append] at hy
      exact i2 y hy
    ·refine⟨fun y hy=>?_,fun y hy=>?_⟩
     ·simp only [List.cons_append,groupJ2,List.mem_cons] at hy
      rcases hy with rfl | hy
      ·exact⟨fun _=>ho _ List.mem_cons_self e' t hs' _ hden,fun hn=>absurd trivial hn⟩
      ·exact i1 y hy
     ·simp only [List.cons_append,slotOwns,ownD,List.nil_append,List.mem_cons] at hy
      rcases hy with rfl | hy
      ·exact hm
      ·exact i2 y hy
   ·rename_i ss' as
    split at h
    ·rename_i q hq
     simp only [Option.some.injEq] at h
     subst h
     obtain⟨e1,ih⟩:=plSlots_facts (n:=n) (a:=a) hr
     obtain⟨e2,hp⟩:=plL_facts hq
     refine⟨by simp [e1,e2,slotN],fun {γ γ1 cs0 cs1 v w} hs hf hM hd ho=>?_⟩
     obtain⟨v1,v2,rfl,l1,d1,d2⟩:=datP_append hd
     obtain⟨i1,i2⟩:=ih (w:=w) hs hf hM d2 (fun p hp=>ho p (List.mem_append_right _ hp))
     obtain⟨us,hu,hden⟩:=(show ∃ us,vals a i=.agg us.toArray∧All2 (DenA γ) as us from(hs.all _ (lookA_mem hl)).1 trivial)
     obtain⟨p1,p2⟩:=hp hf hM d1 (fun p hp=>ho p (List.mem_append_left _ hp)) hden
     have et:(v1++v2++w).take ss'.length=v1:=by rw [← e2,← l1,List.append_assoc,List.take_left]
     have ed:(v1++v2++w).drop ss'.length=v2++w:=by rw [← e2,← l1,List.append_assoc,List.drop_left]
     refine⟨fun y hy=>?_,fun y hy=>?_⟩
     ·simp only [groupJ2,et,ed,List.mem_cons] at hy
      rcases hy with rfl | hy
      ·exact⟨fun _=>⟨us,hu,p1⟩,fun hn=>absurd trivial hn⟩
      ·exact i1 y hy
     ·simp only [slotOwns,et,ed,List.mem_append] at hy
      rcases hy with hy | hy
      ·exact p2 y hy
      ·exact i2 y hy
    ·cases h
   ·cases h
  ·cases h
theorem plBoxes_facts {C0:CS}:∀ {bs:List (Nat×List Shp)} {l:List Pl},plBoxes C0 bs=some l→∀ {R:CS} {γ γ1:Gh} {cs0 cs1:CS} {v:List Dy} {h:Heap},Inv h0 W M0 (C0++R) γ h→FzOk γ cs0→γ1.M=γ.M→γ1.β=γ.β→datP cs0 cs1 l=some v →
   (∀ p∈l,∀ e t,p.s=.own e t→∀ u,DenA γ p.a u→DenA γ1 (.own p.id) u) →
   ∀ x∈boxesJ2 bs v,x∈cs1∨(DenC h0.size γ1 h x.1 x.2∧(∃ as,(x.1,Ch.box as)∈C0)∧(∃ as,x.2=Ch.box as)∧∃ ss,(x.1,ss)∈bs)
 | [],l,hp,R,γ,γ1,cs0,cs1,v,h,I,hf,hM,hβ,hd,ho,x,hx=>by cases hx
 | (c,ss)::bs,l,hp,R,γ,γ1,cs0,cs1,v,h,I,hf,hM,hβ,hd,ho,x,hx=>by
  simp only [plBoxes] at hp
  split at hp
  ·rename_i as r hc hr
   split at hp
   ·rename_i q hq
    simp only [Option.some.injEq] at hp
    subst hp
    obtain⟨e2,hpl⟩:=plL_facts hq
    obtain⟨v1,v2,rfl,l1,d1,d2⟩:=datP_append hd
    obtain⟨us,eb,hden⟩:=I.den _ (List.mem_append_left R (findC_mem hc))
    obtain⟨p1,p2⟩:=hpl hf hM d1 (fun p hp=>ho p (List.mem_append_left _ hp)) hden
    have et:(v1++v2).take ss.length=v1:=by rw [← e2,← l1,List.take_left]
    have ed:(v1++v2).drop ss.length=v2:=by rw [← e2,← l1,List.drop_left]
    simp only [boxesJ2,et,ed,List.mem_cons,List.mem_append] at hx
    rcases hx with rfl | hx | hx
    ·exact .inr ⟨⟨us,by rw [hβ];exact eb,p1⟩,⟨as,findC_mem hc⟩,⟨_,rfl⟩,ss,List.mem_cons_self⟩
    ·exact .inl (p2 x hx)
    ·rcases plBoxes_facts hr I hf hM hβ d2 (fun p hp=>ho p (List.mem_append_right _ hp)) x hx with h1 | ⟨h1,h2,h3,s',h4⟩
     ·exact .inl h1
     ·exact .inr ⟨h1,h2,h3,s',List.mem_cons_of_mem _ h4⟩
   ·cases hp
  ·cases hp
def boxesIn (C:CS):List (Nat×List Shp)→Bool
 | []=>true
 | (c,_)::l=>match findC C c with
  | some (.box _)=>boxesIn C l
  | _=>false
theorem boxesIn_mem {C:CS}:∀ {l:List (Nat×List Shp)},boxesIn C l=true→∀ c ss,(c,ss)∈l→∃ as,(c,Ch.box as)∈C
 | [],_,c,ss,h=>by cases h
 | (c',ss')::l,hb,c,ss,h=>by
  simp only [boxesIn] at hb
  split at hb
  ·rename_i as hf
   rcases List.mem_cons.1 h with h | h
   ·cases h;exact⟨as,findC_mem hf⟩
   ·exact boxesIn_mem hb c ss h
  ·cases hb
def ndIds:CS→Bool
 | []=>true
 | (c,_)::l=>bif noId c l then ndIds l else false
theorem ndIds_pair:∀ {l:CS},ndIds l=true→l.Pairwise fun x y=>x.1≠y.1
 | [],_=>.nil
 | (c,k)::l,h=>by
  simp only [ndIds] at h
  cases hn:noId c l with
  | false=>rw [hn] at h;cases h
  | true=>
   rw [hn] at h
   exact List.pairwise_cons.2 ⟨fun y hy e=>noId_mem hn y hy e.symm,ndIds_pair h⟩
def allIn (S:List Nat):List Nat→Bool
 | []=>true
 | i::l=>bif memN S i then allIn S l else false
theorem memN_true {l:List Nat} {i:Nat} (h:memN l i=true):i∈l:=by
 induction l with
 | nil=>cases h
 | cons j l ih=>
  simp only [memN] at h
  cases hb:Nat.beq i j with
  | true=>rw [Nat.eq_of_beq_eq_true hb];exact List.mem_cons_self
  | false=>rw [hb] at h;exact List.mem_cons_of_mem _ (ih h)
theorem allIn_mem {S:List Nat}:∀ {l:List Nat},allIn S l=true→∀ i∈l,i∈S
 | [],_,i,h=>by cases h
 | j::l,hl,i,h=>by
  simp only [allIn] at hl
  cases hm:memN S j with
  | false=>rw [hm] at hl;cases hl
  | true=>
   rw [hm] at hl
   rcases List.mem_cons.1 h with rfl | h
   ·exact memN_true hm
   ·exact allIn_mem hl i h
theorem Inv.pick {C F R:CS} {γ:Gh} {h:Heap} (I:Inv h0 W M0 (C++R) γ h) (hnd:ndIds F=true) (hsrc:∀ x∈F,DenC h0.size γ h x.1 x.2∧∃ k,(x.1,k)∈C∧blk γ x.1 k=blk γ x.1 x.2):Inv h0 W M0 (F++R) γ h where
 ag:=I.ag
 frame:=I.frame
 size:=I.size
 old:=I.old
 le:=I.le
 den:=fun x hx=>by
  rcases List.mem_append.1 hx with hx | hx
  ·exact(hsrc x hx).1
  ·exact I.den x (List.mem_append_right _ hx)
 sep:=fun x hx b hb=>by
  rcases List.mem_append.1 hx with hx | hx
  ·obtain⟨_,k,hk,e⟩:=hsrc x hx
   exact I.sep _ (List.mem_append_left _ hk) b (by rw [e];exact hb)
  ·exact I.sep x (List.mem_append_right _ hx) b hb
 apart:=by
  have hI:=I.apart
  rw [List.pairwise_append] at hI ⊢
  refine⟨(ndIds_pair hnd).imp_of_mem fun {x y} hx hy hne b hb hb'=>?_,hI.2.1,fun x hx y hy b hb=>?_⟩
  ·obtain⟨_,k,hk,e⟩:=hsrc x hx
   obtain⟨_,k',hk',e'⟩:=hsrc y hy
   exact pair_apart I (List.mem_append_left R hk) (List.mem_append_left R hk') (fun e2=>hne (Prod.mk.inj e2).1) b (by rw [e];exact hb) (by rw [e'];exact hb')
  ·obtain⟨_,k,hk,e⟩:=hsrc x hx
   exact hI.2.2 _ hk y hy b (by rw [e];exact hb)
def xtr (J:AnnA) (R:CS) (e:EnvA) (C:CS):Option (List Dy):=
 match plSlots e J.slots,plBoxes C J.boxes with
 | some ps,some pb=>match plBoxes (frzL (toFrz (ps++pb)) C) J.boxes with
  | some pb0=>match normO R (ps++pb0) (frzL (toFrz (ps++pb)) C) with
   | some C1=>bif boxesIn C1 J.boxes then(bif allIn J.ids (idsP (ps++pb0)) then(match datP (frzL (toFrz (ps++pb)) C++R) C1 (ps++pb0) with
    | some ds=>bif ndIds (chJ J ds) then some ds else none
    | none=>none) else none) else none
   | none=>none
  | none=>none
 | _,_=>none
theorem xtr_sound {J:AnnA} {R C:CS} {e:EnvA} {ds:List Dy} (hx:xtr J R e C=some ds) {n:Nat} {γ:Gh} {a:Act} {h:Heap} (hs:SatA n e γ a) (I:Inv h0 W M0 (C++R) γ h):
  ∃ γ1,Inv h0 W M0 (chJ J ds++R) γ1 h∧GxS J.ids γ γ1∧∀ x∈envJ J ds,factA γ1 (vals a) x:=by
 unfold xtr at hx
 split at hx
 ·rename_i ps pb hps hpb
  split at hx
  ·rename_i pb0 hpb0
   split at hx
   ·rename_i C1 hC1
    cases hbi:boxesIn C1 J.boxes with
    | false=>rw [hbi] at hx;cases hx
    | true=>
    rw [hbi] at hx
    cases hai:allIn J.ids (idsP (ps++pb0)) with
    | false=>rw [hai] at hx;cases hx
    | true=>
    rw [hai] at hx
    simp only [cond_true] at hx
    split at hx
    ·rename_i ds' hds
     cases hnd:ndIds (chJ J ds') with
     | false=>rw [hnd] at hx;cases hx
     | true=>
     rw [hnd] at hx
     have hx:=Option.some.inj (show some ds'=some ds from hx)
     subst hx
     obtain⟨γ0,I0,g0⟩:=Inv.frzL (C:=C) (γ:=γ) (toFrz (ps++pb)) I
     have hs0:=hs.gx0 g0
     obtain⟨γ1,I1,g1,⟨hM,hβ⟩,ho⟩:=normO_sound hC1 I0
     obtain⟨v1,v2,rfl,l1,d1,d2⟩:=datP_append hds
     obtain⟨e1,hsl⟩:=plSlots_facts (n:=n) (a:=a) hps
     obtain⟨f1,f2⟩:=hsl (w:=v2) hs0 I0.fz hM d1 (fun p hp=>ho p (List.mem_append_left _ hp))
     have hbx:=plBoxes_facts hpb0 I0 I0.fz hM hβ d2 (fun p hp=>ho p (List.mem_append_right _ hp))
     have ed:(v1++v2).drop (slotN J.slots)=v2:=by rw [← e1,← l1,List.drop_left]
     have gS:GxS J.ids γ γ1:=⟨g0.1.trans g1.1,fun i hi=>by
      have h2:=g1.2 i (fun hm=>hi (allIn_mem hai i hm))
      have h1:=g0.2 i (by simp)
      exact⟨h2.1.trans h1.1,h2.2.trans h1.2⟩⟩
     refine⟨γ1,I1.pick hnd fun x hx=>?_,gS,f1⟩
     unfold chJ at hx
     rw [ed] at hx
     rcases List.mem_append.1 hx with hx | hx
     ·have:=f2 x hx
      exact⟨I1.den x (List.mem_append_left _ this),x.2,this,rfl⟩
     ·rcases hbx x hx with h1 | ⟨h1,_,⟨as,h2⟩,ss,h3⟩
      ·exact⟨I1.den x (List.mem_append_left _ h1),x.2,h1,rfl⟩
      ·obtain⟨as',h4⟩:=boxesIn_mem hbi _ _ h3
       exact⟨h1,_,h4,by rw [h2];rfl⟩
    ·cases hx
   ·cases hx
  ·cases hx
 ·cases hx
theorem perm_pair {α:Type} {R:α→α→Prop} (hs:∀ x y,R x y→R y x) {l l':List α} (p:l.Perm l'):l.Pairwise R→l'.Pairwise R:=by
 induction p with
 | nil=>exact id
 | cons x p ih=>intro h;rw [List.pairwise_cons] at h ⊢;exact⟨fun y hy=>h.1 y (p.symm.subset hy),ih h.2⟩
 | swap x y l=>
  intro h
  simp only [List.pairwise_cons,List.mem_cons] at h ⊢
  obtain⟨h1,h2,h3⟩:=h
  exact⟨fun z hz=>by rcases hz with rfl | hz;exact hs _ _ (h1 _ (.inl rfl));exact h2 z hz,fun z hz=>h1 z (.inr hz),h3⟩
 | trans _ _ ih1 ih2=>exact fun h=>ih2 (ih1 h)
theorem Inv.perm {cs cs':CS} {γ:Gh} {h:Heap} (I:Inv h0 W M0 cs γ h) (p:cs.Perm cs'):Inv h0 W M0 cs' γ h where
 ag:=I.ag
 frame:=I.frame
 size:=I.size
 old:=I.old
 le:=I.le
 den:=fun x hx=>I.den x (p.symm.subset hx)
 sep:=fun x hx=>I.sep x (p.symm.subset hx)
 apart:=perm_pair (fun x y h b hb hb'=>h b hb' hb) p I.apart
end Go.X
end
section
namespace Go.X
open Go
set_option linter.unusedVariables false
variable {h0 : Heap} {W : Nat → Prop} {M0 : Fr}
def opQA (P:Program) (gl:Fr) (o:Oper) (e:EnvA) (c:Chain) (cs:CS) (K:AV→Prop):Prop:=
 match o.op with
 | .pick x a b=>pickA e c x a b K
 | _=>match condOptA e c with
  | some g=>qA P gl o (opdA e c) g cs K
  | none=>False
def wQA (P:Program) (gl:Fr) (n:Nat) (ops:Array Oper) (cs:CS) (K:EnvA→Prop):List Oper→EnvA→Prop
 | [],e=>K e
 | o::rest,e=>match chainOfA ops e o.guard with
  | some c=>bif okDst n c o.dst then opQA P gl o e c cs fun v=>wQA P gl n ops cs K rest (putOA e o.dst c v) else False
  | none=>False
theorem opQA_sound {P:Program} {gl:Fr} (hgl:Fr.le gl M0) {o:Oper} {e:EnvA} {c:Chain} {cs:CS} {K:AV→Prop} (H:opQA P gl o e c cs K):∃ av,K av∧∀ (n:Nat) (γ:Gh) (a:Act) (h:Heap),SatA n e γ a→Inv h0 W M0 cs γ h→valid (vals a) c→∃ v,DenV γ av v∧QExec P (execOp a.eval o) h (.value v):=by
 unfold opQA at H
 split at H
 ·rename_i x y z ho
  obtain⟨av,h1,h2⟩:=pickA_sound H
  refine⟨av,h1,fun n γ a h hs I hv=>?_⟩
  obtain⟨t,h3,h4⟩:=h2 n γ a hs hv
  refine⟨_,h4,fun B d=>?_⟩
  simp only [execOp,ho,h3,asBool,Sem.run_bind,Sem.run_pure,Result.andThen_ok]
 ·split at H
  ·rename_i g hg
   obtain⟨av,h1,h2⟩:=qA_sound (h0:=h0) (W:=W) (M0:=M0) hgl H
   exact⟨av,h1,fun n γ a h hs I hv=>h2 (condOptA_yes hs hg hv) γ h a.eval I fun x av hx=>opdA_sound hs hv hx⟩
  ·exact H.elim
theorem wQA_still {P:Program} {gl:Fr} (hgl:Fr.le gl M0) {n:Nat} {ops:Array Oper} {cs:CS} {K:EnvA→Prop} {Q:Act→Prop} {γ:Gh} {h:Heap} (I:Inv h0 W M0 cs γ h) (B:World) (d:Nat):
  ∀ (l:List Oper) (e:EnvA) (a:Act),wQA P gl n ops cs K l e→SatA n e γ a→(∀ e' a',SatA n e' γ a'→Same (dsts l) a a'→K e'→Q a')→wpStill P ops (mk B d h) Q l a
 | [],e,a,H,hs,hQ=>hQ _ _ hs (Same.refl _ _) H
 | o::rest,e,a,H,hs,hQ=>by
  unfold wQA at H
  split at H
  ·rename_i c hc
   cases hd:okDst n c o.dst with
   | false=>rw [hd] at H;exact H.elim
   | true=>
    rw [hd] at H
    simp only [cond_true] at H
    have hw:=wantedA_sound hs hc
    have hsub:∀ i,o.dst=some i→i∈dsts (o::rest):=fun i hi=>by simp [dsts,hi]
    have hmore:∀ x∈dsts rest,x∈dsts (o::rest):=fun x hx=>by
     unfold dsts
     split
     ·exact List.mem_cons_of_mem _ hx
     ·exact hx
    obtain⟨av,hK,hy⟩:=opQA_sound (h0:=h0) (W:=W) (M0:=M0) hgl H
    have goOn:∀ u,(valid (vals a) c→DenV γ av u)→(¬ valid (vals a) c→u=undef)→wpStill P ops (mk B d h) Q rest (a.put o.dst u):=fun u h1 h2=>
     wQA_still hgl I B d rest _ _ hK (hs.putO hd h1 h2) fun e' a' q1 q2 q3=>hQ e' a' q1 ((Same.put a o.dst u hsub).trans (q2.mono hmore)) q3
    unfold wpStill
    by_cases hv:valid (vals a) c
    ·rw [if_pos (hw.2 hv)]
     unfold Oper.still
     obtain⟨v,h1,h2⟩:=hy n γ a h hs I hv
     rw [h2 B d,Oper.stillUpon_value]
     exact goOn v (fun _=>h1) (fun hv'=>absurd hv hv')
    ·rw [if_neg (fun hx=>hv (hw.1 hx))]
     exact goOn undef (fun hv'=>absurd hv' hv) (fun _=>rfl)
  ·exact H.elim
abbrev DrawP:=List (Nat×Nat)
def regionA (P:Program) (gl:Fr) (tr:TypeId) (n:Nat) (tl:DrawP) (id:Nat) (ops:Array Oper) (draw:Bool) (R:CS) (K:EnvA→CS→Prop) (e:EnvA) (C:CS):Prop:=
 bif draw then(match tailAt tl id with
  | none=>bif Region.lexB .any ops then wQA P gl n ops (C++R) (fun e'=>K (cleanA e') C) ops.toList e else False
  | some m=>bif Region.lexTailB .any ops m then wQA P gl n ops (C++R) (fun e'=>wRA P gl tr n ops R K (ops.toList.drop m) e' C) (ops.toList.take m) e else False)
 else wRA P gl tr n ops R K ops.toList e C
theorem regionA_sound {P:Program} (hm:P.follows .mixedOrders=true) {gl:Fr} (hgl:Fr.le gl M0) {tr:TypeId} {n:Nat} {tl:DrawP} {id:Nat} {ops:Array Oper} {draw:Bool} {R C:CS} {K:EnvA→CS→Prop} {e:EnvA}
  (H:regionA P gl tr n tl id ops draw R K e C) {γ:Gh} {h:Heap} (B:World) (d:Nat) {a:Act} (hs:SatA n e γ a) (I:Inv h0 W M0 (C++R) γ h) {Q:Exit→Act→World→Prop}
  (hQ:∀ e' C' γ' a' d' h',SatA n e' γ' a'→Inv h0 W M0 (C'++R) γ' h'→Same (dsts ops.toList) a a'→GxS (dsts ops.toList) γ γ'→K e' C'→Q .normal a' (mk B d' h')):(Code.region id ops draw).wp P Q a (mk B d h):=by
 unfold regionA at H
 cases draw with
 | false=>exact wp_region_list (wRA_sound hgl B _ _ _ _ _ _ _ H hs I hQ)
 | true=>
  simp only [cond_true] at H
  split at H
  ·cases hB:Region.lexB .any ops with
   | false=>rw [hB] at H;exact H.elim
   | true=>
    rw [hB] at H
    refine wp_region_still hm hB ?_
    exact wQA_still hgl I B (d+1) _ _ _ H hs fun e' a' q1 q2 q3=>hQ _ _ _ _ _ _ q1.clean I q2 (GxS.refl _ _) q3
  ·rename_i m _
   cases hB:Region.lexTailB .any ops m with
   | false=>rw [hB] at H;exact H.elim
   | true=>
    rw [hB] at H
    have hsplit:dsts ops.toList=dsts (ops.toList.take m)++dsts (ops.toList.drop m):=by rw [← dsts_append,List.take_append_drop]
    have:=wp_region_still_tail (id:=id) (Q:=Q) (a:=a) (w:=mk B d h) (l:=ops.toList) m hm (by simpa using hB) (by
     simp only [Array.toArray_toList]
     refine wQA_still hgl I B (d+1) _ _ _ H hs fun e' a' q1 q2 q3=>?_
     refine wRA_sound hgl B _ _ _ _ _ _ (d+1) q3 q1 I fun e'' C'' γ'' a'' d'' h'' q4 q5 q6 q7 q8=>hQ e'' C'' γ'' a'' d'' h'' q4 q5 ?_ ?_ q8
     ·rw [hsplit]
      exact(q2.mono fun x hx=>List.mem_append_left _ hx).trans (q6.mono fun x hx=>List.mem_append_right _ hx)
     ·rw [hsplit]
      exact q7.mono fun x hx=>List.mem_append_right _ hx)
    simpa using this
end Go.X
end

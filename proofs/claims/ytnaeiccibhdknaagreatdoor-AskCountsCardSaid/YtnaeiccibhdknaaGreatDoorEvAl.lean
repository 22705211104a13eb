import Derived.Orders
set_option linter.unusedSimpArgs false
set_option linter.unusedVariables false
abbrev Bt:=ByteArray
theorem u2j.{u}{α:Type u}(a b:α):cond true a b=a:=rfl
theorem u2k.{u}{α:Type u}(a b:α):cond false a b=b:=rfl
theorem r2g.{u_1,u_2}:∀{α:Type u_1} {β:Type u_2} (a:α) (f:α->Option β),(some a).bind f=f a:=@Option.bind_some
theorem r2h:∀{n m:Nat},n.beq m=true->n=m:=@Nat.eq_of_beq_eq_true
theorem r2i:∀(a b:Bool),((a&&b)=true)=(a=true/\b=true):=@Bool.and_eq_true
theorem r2j.{u_1}:∀{α:Type u_1} {xs:Array α} {i:Nat} {d:α},xs.getD i d=xs[i]?.getD d:=@Array.getD_eq_getD_getElem?
theorem r2k.{u_1}:∀{α:Type u_1} {l:List α} {i:Nat} (h:i<l.length),l[i]?=some l[i]:=@List.getElem?_eq_getElem
theorem r2l.{u}:∀{α:Type u} (val val_1:α),(some val=some val_1)=(val=val_1):=@Option.some.injEq
theorem r2m.{u_1,u_2}:∀{α:Type u_1} {b:α} {α_1:Type u_2} {x:Option α_1} {f:α_1->Option α},x.bind f=some b↔ ∃a,x=some a/\f a=some b:=@Option.bind_eq_some_iff
theorem r2n.{u_1}:∀{α:Type u_1} {L:List (List α)},L.flatten.length=(List.map List.length L).sum:=@List.length_flatten
theorem r2o.{u_1}:∀{α:Type u_1} {l:List α} {i:Nat} {a:α},l.getD i a=l[i]?.getD a:=@List.getD_eq_getElem?_getD
theorem r2p.{u_1}:∀{α:Type u_1} {i:Nat} {a:α} {l:List α},l[i]?=some a↔ ∃h,l[i]=a:=@List.getElem?_eq_some_iff
theorem r2q:∀(n:Nat),n<=n:=@Nat.le_refl
theorem r2r.{u_1}:∀{α:Type u_1} {i:Nat} {b:α} {xs:Array α},xs[i]?=some b↔ ∃h,xs[i]=b:=@Array.getElem?_eq_some_iff
theorem r2s.{u_1}:∀{α:Type u_1} {b:α} {l:List α} {a:α},a∈b::l↔a=b\/a∈l:=@List.mem_cons
theorem r2t.{u}:∀{α:Type u} {as bs:List α},(as++bs).length=as.length+bs.length:=@List.length_append
theorem r2u:∀{n m:Nat},n.ble m=true->n<=m:=@Nat.le_of_ble_eq_true
theorem r2v.{u_1}:∀{α:Type u_1} {l:List α} {i:Nat} {a:α},l[i]?=some a->a∈l:=@List.mem_of_getElem?
theorem r2w.{u}:∀{α:Type u} {a:α} {as:List α},(a::as).length=as.length+1:=@List.length_cons
theorem r2x:∀{x y:Bool},(x || y)=false↔x=false/\y=false:=@Bool.or_eq_false_iff
theorem r2y:∀{n m:Nat},n<=m->n.ble m=true:=@Nat.ble_eq_true_of_le
theorem r2z.{u,v}:∀{α:Type u} {β:Type v} {f:α->β} {a:α} {l:List α},List.map f (a::l)=f a::List.map f l:=@List.map_cons
theorem s2a.{u}:∀{α:Type u} (as:List α),as++ []=as:=@List.append_nil
theorem s2b.{u_1}:∀{α:Type u_1} {p:α->Bool} {l:List α},l.all p=true↔ ∀(x:α),x∈l->p x=true:=@List.all_eq_true
theorem s2c.{u_1,u_2}:∀{α:Type u_1} {β:Type u_2} {b:β} {f:α->β} {l:List α},b∈List.map f l↔ ∃a,a∈l/\f a=b:=@List.mem_map
theorem s2d:∀{n m:Nat},n.beq m=false->¬n=m:=@Nat.ne_of_beq_eq_false
theorem s2e.{u_1}:∀{α:Type u_1} {a b:α},a∈ [b]↔a=b:=@List.mem_singleton
theorem s2f.{u_1}:∀{α:Type u_1} {l:List α},l.length=0->l=[]:=@List.eq_nil_of_length_eq_zero
theorem s2g.{u_1}:∀{α:Type u_1} {i:Nat} {l:List α},(List.take i l).length=min i l.length:=@List.length_take
theorem s2h.{u_1}:∀{α:Type u_1} {xs:Array α} {i:Nat} (h:i<xs.size),xs[i]?=some xs[i]:=@Array.getElem?_eq_getElem
theorem s2i:∀(n:Nat),0<=n:=@Nat.zero_le
theorem s2j.{u_1}:∀{α:Type u_1} {a:α} {s t:List α},a∈s++t↔a∈s\/a∈t:=@List.mem_append
theorem s2k.{u_1,u_2}:∀{α:Type u_1} {β:Type u_2} {as:List α} (f:α->β),(List.map f as).length=as.length:=@List.length_map
theorem s2l:(!true)=false:=@Bool.not_true
theorem s2m.{u}:∀{α:Type u} (as:List α),[]++as=as:=@List.nil_append
theorem s2n.{u_1}:∀{α:Type u_1} {i:Nat} {l:List α},(List.drop i l).length=l.length - i:=@List.length_drop
theorem s2o.{u,v}:∀{α:Type u} {β:Type v} {x:α} {xs:List α} {f:α->List β},List.flatMap f (x::xs)=f x++List.flatMap f xs:=@List.flatMap_cons
theorem s2p.{u_1}:∀{α:Type u_1} {xs:Array α},xs.toList.length=xs.size:=@Array.length_toList
theorem s2q:∀(b:Bool),(false || b)=b:=@Bool.false_or
theorem s2r.{u_1}:∀{α:Type u_1} {xs:Array α} {i j:Nat} {a:α},(xs.setIfInBounds i a)[j]?=if i=j then if i<xs.size then some a else none else xs[j]?:=@Array.getElem?_setIfInBounds
theorem s2s.{u_1}:∀{α:Type u_1} {l:List α} {n:Nat} (h:n<l.length),l[n]∈l:=@List.getElem_mem
theorem s2t.{u}:∀{α:Type u} (as bs cs:List α),as++bs++cs=as++(bs++cs):=@List.append_assoc
theorem s2u:∀(n:Nat),0+n=n:=@Nat.zero_add
theorem s2v:∀(b:Bool),((!b)=true)=(b=false):=@Bool.not_eq_true'
theorem s2w.{u_1}:∀{α:Type u_1} {l₁ l₂:List α} {i:Nat},i<l₁.length->(l₁++l₂)[i]?=l₁[i]?:=@List.getElem?_append_left
theorem s2x.{u_1}:∀{α:Type u_1} (y:α) {a:α} {l:List α},a∈l->a∈y::l:=@List.mem_cons_of_mem
theorem s2y.{u}:∀{α:Type u} {a:α},[a].length=1:=@List.length_singleton
theorem s2z.{u_1,u_2}:∀{α:Type u_1} {β:Type u_2} (a:α) (f:α->β),Option.map f (some a)=some (f a):=@Option.map_some
theorem t2a.{u_1,u_2}:∀{α:Type u_1} {β:Type u_2} {f:α->β} {l:List α} {i:Nat},(List.map f l)[i]?=Option.map f l[i]?:=@List.getElem?_map
theorem t2b:∀{n m:Nat} (k:Nat),n<=m->n*k<=m*k:=@Nat.mul_le_mul_right
theorem t2c.{u_1}:∀{α:Type u_1} {l₁ l₂:List α} {i:Nat},l₁.length<=i->(l₁++l₂)[i]?=l₂[i - l₁.length]?:=@List.getElem?_append_right
theorem t2d:∀(b:Bool),(true || b)=true:=@Bool.true_or
theorem t2e.{u_1}:∀{α:Type u_1} {i:Nat} {as bs:List α} (h:i<as.length) {h' :i<(as++bs).length},(as++bs)[i]=as[i]:=@List.getElem_append_left
theorem t2f.{u_1,u_2}:∀{α:Type u_1} {b:α} {α_1:Type u_2} {x:Option α_1} {f:α_1->α},Option.map f x=some b↔ ∃a,x=some a/\f a=b:=@Option.map_eq_some_iff
theorem t2g.{u}:∀{α:Type u} {xs:Array α} {i:Nat},xs.toList[i]?=xs[i]?:=@Array.getElem?_toList
theorem t2h:∀{n m k:Nat},n<m->m<=k->n<k:=@Nat.lt_of_lt_of_le
theorem t2i:∀(b:Bool),(b || false)=b:=@Bool.or_false
theorem t2j:∀{s n step:Nat},List.range' s (n+1) step=s::List.range' (s+step) n step:=@List.range'_succ
theorem t2k:∀(b:Bool),(true&&b)=b:=@Bool.true_and
theorem t2l.{u}:∀{α:Type u} {R:α->α->Prop} {a:α} {l:List α},List.Pairwise R (a::l)↔(∀(a' :α),a' ∈l->R a a')/\List.Pairwise R l:=@List.pairwise_cons
theorem t2m:(!false)=true:=@Bool.not_false
theorem t2n:∀(b:Bool),(b || true)=true:=@Bool.or_true
theorem t2o.{u_1}:∀{α:Type u_1} {a:α} {l:List α},(a::l)[0]?=some a:=@List.getElem?_cons_zero
theorem t2p:∀{n m k:Nat},n<=m->m<=k->n<=k:=@Nat.le_trans
theorem t2q.{u_1,u_2}:∀{α:Type u_1} {β:Type u_2} (f:α->β),Option.map f none=none:=@Option.map_none
theorem t2r.{u_1}:∀{α:Type u_1} {a b:α},(some a).getD b=a:=@Option.getD_some
theorem t2s.{u_1}:∀{α:Type u_1} {p:α->Bool} {as:List α} {x:α},x∈List.filter p as↔x∈as/\p x=true:=@List.mem_filter
theorem t2t.{u_1}:∀{α:Type u_1} {xs ys:Array α} {i:Nat},i<xs.size->(xs++ys)[i]?=xs[i]?:=@Array.getElem?_append_left
theorem t2u.{u,v}:∀{α:Type u} {β:Type v} {f:α->β},List.map f []=[]:=@List.map_nil
theorem t2v.{u_1}:∀{α:Type u_1} {i:Nat} {l:List α} (h:i<l.length),List.drop i l=l[i]::List.drop (i+1) l:=@List.drop_eq_getElem_cons
theorem t2w:∀(n m k:Nat),(n+m)*k=n*k+m*k:=@Nat.add_mul
theorem t2x.{u_1}:∀{α:Type u_1} {l:List α} {i j:Nat},(List.take i l)[j]?=if j<i then l[j]? else none:=@List.getElem?_take
theorem t2y:∀(n m:Nat),n<m\/n>=m:=@Nat.lt_or_ge
theorem t2z.{u_1}:∀{α:Type u_1} (i:Nat) (l:List α),List.take i l++List.drop i l=l:=@List.take_append_drop
theorem u2a:∀{m n:Nat},m∈List.range n↔m<n:=@List.mem_range
theorem u2b.{u_1}:∀{α:Type u_1} {l:List α} {i:Nat},l.length<=i->l[i]?=none:=@List.getElem?_eq_none
theorem u2c:∀(a b:Bool),((a || b)=true)=(a=true\/b=true):=@Bool.or_eq_true
theorem u2d.{u_1}:∀{α:Type u_1} {l:List α},l.length=0↔l=[]:=@List.length_eq_zero_iff
theorem u2e:∀(n:Nat),n+0=n:=@Nat.add_zero
theorem u2f:∀(a:Nat),a.beq a=true:=@Nat.beq_refl
theorem u2g:(false=true)=False:=@Bool.false_eq_true
theorem u2h:∀(n m k:Nat),n+m+k=n+(m+k):=@Nat.add_assoc
theorem u2i:∀(b:Bool),(false&&b)=false:=@Bool.false_and

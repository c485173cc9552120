/- What the law NetKeeps answers, and the openers of its arguments. -/
import Derived.Test.YtnmamfgebbcehaaOpenN
import Derived.Test.YtnmamfgebbcehaaNet26

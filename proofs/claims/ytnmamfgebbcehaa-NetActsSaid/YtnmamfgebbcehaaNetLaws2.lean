/- What the law NetActs answers, and the openers of its arguments. -/
import Derived.Test.YtnmamfgebbcehaaOpenN
import Derived.Test.YtnmamfgebbcehaaNet23
